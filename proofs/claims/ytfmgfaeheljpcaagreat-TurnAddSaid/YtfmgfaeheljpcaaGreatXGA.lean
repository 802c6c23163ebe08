/- TurnAdd: Add returns the sum, or the error, for every case; the arguments read afterwards as before. Conditions: none. -/
import Derived.Test.YtfmgfaeheljpcaaGreatXOF
set_option linter.unusedVariables false
set_option linter.unusedSimpArgs false
set_option maxRecDepth 100000
namespace Go.Proofs.YtfmgfaeheljpcaaGreat
open Go Go.Vm Go.ChangeShapes Go.WideShapes Go.ChangeAt Go.RowKit
theorem TurnAdd_at : ∀ xs : List D, (∃ x ys, xs = x :: ys ∧ (∃ ops l a b c, x = dCs ops l a b c ∧ i64 a ∧ i64 b ∧ i64 c) ∧ ys = []) → C Tryz.prog 5 (xs.map .d) (· = .b true) := fun xs ⟨x, _, e, ⟨ops, l, a, b, c, e2, ha, hb, hc⟩, e3⟩ => by subst e; subst e2; subst e3; exact TurnAdd_ok
theorem turnAdd_lifted (os : Os) (started : os.Started) (H : Type) (enc : TypeId × Value → H) :
    ReturnsInHanded {} Tryz.checked os 5 .any (Rows.turnAddSpec.pre6 enc Tryz.prog Tryz.f5 Rows.turnAddRow.domain false) (Rows.turnAddSpec.post enc Tryz.prog Tryz.f5 false true false false) := by
  refine returnsInHanded_of_change (C := Tryz.checked) own started (by kernel_rfl) Tryz.func5
    (ChangeSpec.witness6 (enc := enc) (C := Tryz.checked) false ⟨#[], #[.agg #[.slice none 0 0, .slice none 0 0, .int .i64 0, .int .i64 0, .int .i64 0]], []⟩ 8 (by kernel_rfl) (by kernel_rfl) (by kernel_rfl) (by kernel_rfl)) ?_
  intro W base args ds gs before hval hW _ _
  exact lawV laidOut Tryz.underlying4 (s := Rows.turnAddSpec) args_Case rfl rfl (fun ds h => match ds, h with | [_], _ => rfl) TurnAdd_at W base args ds gs before hval hW
theorem turnAdd_1 : (Rows.turnAddRow.wf (OpenSpec.ofChange Rows.turnAddSpec) && laidOutB Tryz.prog && mapsRowed Tryz.prog) = true := by kernel_rfl
theorem turnAdd_4 : (Rows.turnAddRow.unfollowed == Tryz.prog.unfollowed 5) = true := by kernel_rfl
theorem turnAdd_3 : (Rows.turnAddRow.inPlace == Tryz.prog.inPlace 5) = true := by kernel_rfl
theorem turnAdd_5 : (Rows.turnAddRow.recurses == Tryz.prog.recurses 5) = true := by kernel_rfl
theorem turnAdd_6 : (Rows.turnAddRow.named == Tryz.prog.varsNamed 5) = true := by kernel_rfl
theorem turnAdd_8 : (Rows.turnAddSpec.vars.all (Tryz.prog.varReadable ·) && Tryz.f5.resultTypes.all (fun t => Tryz.prog.readableRec t && decide (t < Tryz.prog.types.size)) && (Rows.turnAddRow.ifacesOut == Tryz.f5.resultTypes.toList.any (Tryz.prog.ifacesRec ·)) && (Rows.turnAddRow.loopsOut == Tryz.f5.resultTypes.toList.any (Tryz.prog.loopsFrom ·)) && (Rows.turnAddRow.plainKeys == Tryz.prog.plainKeys) && Rows.turnAddRow.shortTexts.isNone && Tryz.prog.stopsHeard && Tryz.prog.mayEnter) = true := by kernel_rfl
theorem turnAdd_9 : ((Rows.turnAddRow.lifted == Tryz.prog.liftsFinal) && (Tryz.prog.make == some Rows.turnAddRow.make) && (Rows.turnAddRow.kinds == (if Rows.turnAddRow.domain.isEmpty then [] else Tryz.f5.params.toList.map fun t => match Tryz.prog.underlying t with | some (.int k) => some k | _ => none)) && (Rows.turnAddRow.pinned == Rows.turnAddRow.pinnedBy)) = true := by kernel_rfl
theorem turnAdd_facts : joinedFacts Tryz.prog 5 Tryz.f5 Rows.turnAddSpec Rows.turnAddRow = true :=
  facts_of turnAdd_1 (by kernel_rfl) turnAdd_3 turnAdd_4 turnAdd_5 turnAdd_6 (by kernel_rfl) turnAdd_8 turnAdd_9 (by kernel_rfl)
theorem TurnAdd_holds : Rows.TurnAddSaid :=
  OpenClaim.holds_of_wide 5 Tryz.f5 rfl rfl rfl rfl rfl rfl rfl ⟨rfl, rfl, rfl, rfl, rfl⟩ rfl rfl rfl rfl rfl (by kernel_rfl) Tryz.func5 turnAdd_facts
    (of_decide_eq_true (by kernel_rfl)) (by unfold Func.isWrapper; rw [if_neg (of_decide_eq_false (by kernel_rfl))]; exact ⟨rfl, rfl⟩)
    (fun os started H enc _ => turnAdd_lifted os started H enc)
#print axioms TurnAdd_holds
end Go.Proofs.YtfmgfaeheljpcaaGreat
