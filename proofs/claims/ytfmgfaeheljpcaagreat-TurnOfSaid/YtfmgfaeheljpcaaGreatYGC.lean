/- TurnOf: Of and Valid are as specified, for every case; the arguments read afterwards as before. Conditions: none. -/
import Derived.Test.YtfmgfaeheljpcaaGreatYOF
import Derived.Test.YtfmgfaeheljpcaaGreatYOR
set_option linter.unusedVariables false
set_option linter.unusedSimpArgs false
set_option maxRecDepth 100000
namespace Go.Proofs.YtfmgfaeheljpcaaGreat
open Go Go.Vm Go.ChangeShapes Go.WideShapes Go.ChangeAt Go.RowKit
theorem TurnOf_at : ∀ xs : List D, (∃ x ys, xs = x :: ys ∧ (∃ ops l a b c, x = dCs ops l a b c ∧ i64 a ∧ i64 b ∧ i64 c) ∧ ys = []) → C Tryz.prog 7 (xs.map .d) (· = .b true) := fun xs ⟨x, _, e, ⟨ops, l, a, b, c, e2, ha, hb, hc⟩, e3⟩ => by subst e; subst e2; subst e3; exact TurnOf_ok ha
theorem turnOf_lifted (os : Os) (started : os.Started) (H : Type) (enc : TypeId × Value → H) :
    ReturnsInHanded {} Tryz.checked os 7 .any (Rows.turnOfSpec.pre6 enc Tryz.prog Tryz.f7 Rows.turnOfRow.domain false) (Rows.turnOfSpec.post enc Tryz.prog Tryz.f7 false true false false) := by
  refine returnsInHanded_of_change (C := Tryz.checked) own started (by kernel_rfl) Tryz.func7
    (ChangeSpec.witness6 (enc := enc) (C := Tryz.checked) false ⟨#[], #[.agg #[.slice none 0 0, .slice none 0 0, .int .i64 0, .int .i64 0, .int .i64 0]], []⟩ 8 (by kernel_rfl) (by kernel_rfl) (by kernel_rfl) (by kernel_rfl)) ?_
  intro W base args ds gs before hval hW _ _
  exact lawV laidOut Tryz.underlying4 (s := Rows.turnOfSpec) args_Case rfl rfl (fun ds h => match ds, h with | [_], _ => rfl) TurnOf_at W base args ds gs before hval hW
theorem turnOf_1 : (Rows.turnOfRow.wf (OpenSpec.ofChange Rows.turnOfSpec) && laidOutB Tryz.prog && mapsRowed Tryz.prog) = true := by kernel_rfl
theorem turnOf_4 : (Rows.turnOfRow.unfollowed == Tryz.prog.unfollowed 7) = true := by kernel_rfl
theorem turnOf_3 : (Rows.turnOfRow.inPlace == Tryz.prog.inPlace 7) = true := by kernel_rfl
theorem turnOf_5 : (Rows.turnOfRow.recurses == Tryz.prog.recurses 7) = true := by kernel_rfl
theorem turnOf_6 : (Rows.turnOfRow.named == Tryz.prog.varsNamed 7) = true := by kernel_rfl
theorem turnOf_8 : (Rows.turnOfSpec.vars.all (Tryz.prog.varReadable ·) && Tryz.f7.resultTypes.all (fun t => Tryz.prog.readableRec t && decide (t < Tryz.prog.types.size)) && (Rows.turnOfRow.ifacesOut == Tryz.f7.resultTypes.toList.any (Tryz.prog.ifacesRec ·)) && (Rows.turnOfRow.loopsOut == Tryz.f7.resultTypes.toList.any (Tryz.prog.loopsFrom ·)) && (Rows.turnOfRow.plainKeys == Tryz.prog.plainKeys) && Rows.turnOfRow.shortTexts.isNone && Tryz.prog.stopsHeard && Tryz.prog.mayEnter) = true := by kernel_rfl
theorem turnOf_9 : ((Rows.turnOfRow.lifted == Tryz.prog.liftsFinal) && (Tryz.prog.make == some Rows.turnOfRow.make) && (Rows.turnOfRow.kinds == (if Rows.turnOfRow.domain.isEmpty then [] else Tryz.f7.params.toList.map fun t => match Tryz.prog.underlying t with | some (.int k) => some k | _ => none)) && (Rows.turnOfRow.pinned == Rows.turnOfRow.pinnedBy)) = true := by kernel_rfl
theorem turnOf_facts : joinedFacts Tryz.prog 7 Tryz.f7 Rows.turnOfSpec Rows.turnOfRow = true :=
  facts_of turnOf_1 (by kernel_rfl) turnOf_3 turnOf_4 turnOf_5 turnOf_6 (by kernel_rfl) turnOf_8 turnOf_9 (by kernel_rfl)
theorem TurnOf_holds : Rows.TurnOfSaid :=
  OpenClaim.holds_of_wide 7 Tryz.f7 rfl rfl rfl rfl rfl rfl rfl ⟨rfl, rfl, rfl, rfl, rfl⟩ rfl rfl rfl rfl rfl (by kernel_rfl) Tryz.func7 turnOf_facts
    (of_decide_eq_true (by kernel_rfl)) (by unfold Func.isWrapper; rw [if_neg (of_decide_eq_false (by kernel_rfl))]; exact ⟨rfl, rfl⟩)
    (fun os started H enc _ => turnOf_lifted os started H enc)
#print axioms TurnOf_holds
end Go.Proofs.YtfmgfaeheljpcaaGreat
