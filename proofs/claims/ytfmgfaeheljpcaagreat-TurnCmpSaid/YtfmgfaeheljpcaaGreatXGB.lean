/- TurnCmp: Cmp and Zero are as specified, for every case; the arguments read afterwards as before. Conditions: none. -/
import Derived.Test.YtfmgfaeheljpcaaGreatXOF
set_option linter.unusedVariables false
set_option linter.unusedSimpArgs false
set_option maxRecDepth 100000
namespace Go.Proofs.YtfmgfaeheljpcaaGreat
open Go Go.Vm Go.ChangeShapes Go.WideShapes Go.ChangeAt Go.RowKit
theorem TurnCmp_at : ∀ xs : List D, (∃ x ys, xs = x :: ys ∧ (∃ ops l a b c, x = dCs ops l a b c ∧ i64 a ∧ i64 b ∧ i64 c) ∧ ys = []) → C Tryz.prog 8 (xs.map .d) (· = .b true) := fun xs ⟨x, _, e, ⟨ops, l, a, b, c, e2, ha, hb, hc⟩, e3⟩ => by subst e; subst e2; subst e3; exact TurnCmp_ok
theorem turnCmp_lifted (os : Os) (started : os.Started) (H : Type) (enc : TypeId × Value → H) :
    ReturnsInHanded {} Tryz.checked os 8 .any (Rows.turnCmpSpec.pre6 enc Tryz.prog Tryz.f8 Rows.turnCmpRow.domain false) (Rows.turnCmpSpec.post enc Tryz.prog Tryz.f8 false true false false) := by
  refine returnsInHanded_of_change (C := Tryz.checked) own started (by kernel_rfl) Tryz.func8
    (ChangeSpec.witness6 (enc := enc) (C := Tryz.checked) false ⟨#[], #[.agg #[.slice none 0 0, .slice none 0 0, .int .i64 0, .int .i64 0, .int .i64 0]], []⟩ 8 (by kernel_rfl) (by kernel_rfl) (by kernel_rfl) (by kernel_rfl)) ?_
  intro W base args ds gs before hval hW _ _
  exact lawV laidOut Tryz.underlying4 (s := Rows.turnCmpSpec) args_Case rfl rfl (fun ds h => match ds, h with | [_], _ => rfl) TurnCmp_at W base args ds gs before hval hW
theorem turnCmp_1 : (Rows.turnCmpRow.wf (OpenSpec.ofChange Rows.turnCmpSpec) && laidOutB Tryz.prog && mapsRowed Tryz.prog) = true := by kernel_rfl
theorem turnCmp_4 : (Rows.turnCmpRow.unfollowed == Tryz.prog.unfollowed 8) = true := by kernel_rfl
theorem turnCmp_3 : (Rows.turnCmpRow.inPlace == Tryz.prog.inPlace 8) = true := by kernel_rfl
theorem turnCmp_5 : (Rows.turnCmpRow.recurses == Tryz.prog.recurses 8) = true := by kernel_rfl
theorem turnCmp_6 : (Rows.turnCmpRow.named == Tryz.prog.varsNamed 8) = true := by kernel_rfl
theorem turnCmp_8 : (Rows.turnCmpSpec.vars.all (Tryz.prog.varReadable ·) && Tryz.f8.resultTypes.all (fun t => Tryz.prog.readableRec t && decide (t < Tryz.prog.types.size)) && (Rows.turnCmpRow.ifacesOut == Tryz.f8.resultTypes.toList.any (Tryz.prog.ifacesRec ·)) && (Rows.turnCmpRow.loopsOut == Tryz.f8.resultTypes.toList.any (Tryz.prog.loopsFrom ·)) && (Rows.turnCmpRow.plainKeys == Tryz.prog.plainKeys) && Rows.turnCmpRow.shortTexts.isNone && Tryz.prog.stopsHeard && Tryz.prog.mayEnter) = true := by kernel_rfl
theorem turnCmp_9 : ((Rows.turnCmpRow.lifted == Tryz.prog.liftsFinal) && (Tryz.prog.make == some Rows.turnCmpRow.make) && (Rows.turnCmpRow.kinds == (if Rows.turnCmpRow.domain.isEmpty then [] else Tryz.f8.params.toList.map fun t => match Tryz.prog.underlying t with | some (.int k) => some k | _ => none)) && (Rows.turnCmpRow.pinned == Rows.turnCmpRow.pinnedBy)) = true := by kernel_rfl
theorem turnCmp_facts : joinedFacts Tryz.prog 8 Tryz.f8 Rows.turnCmpSpec Rows.turnCmpRow = true :=
  facts_of turnCmp_1 (by kernel_rfl) turnCmp_3 turnCmp_4 turnCmp_5 turnCmp_6 (by kernel_rfl) turnCmp_8 turnCmp_9 (by kernel_rfl)
theorem TurnCmp_holds : Rows.TurnCmpSaid :=
  OpenClaim.holds_of_wide 8 Tryz.f8 rfl rfl rfl rfl rfl rfl rfl ⟨rfl, rfl, rfl, rfl, rfl⟩ rfl rfl rfl rfl rfl (by kernel_rfl) Tryz.func8 turnCmp_facts
    (of_decide_eq_true (by kernel_rfl)) (by unfold Func.isWrapper; rw [if_neg (of_decide_eq_false (by kernel_rfl))]; exact ⟨rfl, rfl⟩)
    (fun os started H enc _ => turnCmp_lifted os started H enc)
#print axioms TurnCmp_holds
end Go.Proofs.YtfmgfaeheljpcaaGreat
