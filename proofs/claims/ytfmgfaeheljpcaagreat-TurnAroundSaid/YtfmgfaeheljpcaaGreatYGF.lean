/- TurnAround: turns there and back are a full turn, and the order respects sums, for every case; the arguments read afterwards as before. Conditions: none. -/
import Derived.Test.YtfmgfaeheljpcaaGreatYOF
import Derived.Test.YtfmgfaeheljpcaaGreatYOS
set_option linter.unusedVariables false
set_option linter.unusedSimpArgs false
set_option maxRecDepth 100000
namespace Go.Proofs.YtfmgfaeheljpcaaGreat
open Go Go.Vm Go.ChangeShapes Go.WideShapes Go.ChangeAt Go.RowKit
theorem TurnAround_at : ∀ xs : List D, (∃ x ys, xs = x :: ys ∧ (∃ ops l a b c, x = dCs ops l a b c ∧ i64 a ∧ i64 b ∧ i64 c) ∧ ys = []) → C Tryz.prog 9 (xs.map .d) (· = .b true) := fun xs ⟨x, _, e, ⟨ops, l, a, b, c, e2, ha, hb, hc⟩, e3⟩ => by subst e; subst e2; subst e3; exact TurnAround_ok
theorem turnAround_lifted (os : Os) (started : os.Started) (H : Type) (enc : TypeId × Value → H) :
    ReturnsInHanded {} Tryz.checked os 9 .any (Rows.turnAroundSpec.pre6 enc Tryz.prog Tryz.f9 Rows.turnAroundRow.domain false) (Rows.turnAroundSpec.post enc Tryz.prog Tryz.f9 false true false false) := by
  refine returnsInHanded_of_change (C := Tryz.checked) own started (by kernel_rfl) Tryz.func9
    (ChangeSpec.witness6 (enc := enc) (C := Tryz.checked) false ⟨#[], #[.agg #[.slice none 0 0, .slice none 0 0, .int .i64 0, .int .i64 0, .int .i64 0]], []⟩ 8 (by kernel_rfl) (by kernel_rfl) (by kernel_rfl) (by kernel_rfl)) ?_
  intro W base args ds gs before hval hW _ _
  exact lawV laidOut Tryz.underlying4 (s := Rows.turnAroundSpec) args_Case rfl rfl (fun ds h => match ds, h with | [_], _ => rfl) TurnAround_at W base args ds gs before hval hW
theorem turnAround_1 : (Rows.turnAroundRow.wf (OpenSpec.ofChange Rows.turnAroundSpec) && laidOutB Tryz.prog && mapsRowed Tryz.prog) = true := by kernel_rfl
theorem turnAround_4 : (Rows.turnAroundRow.unfollowed == Tryz.prog.unfollowed 9) = true := by kernel_rfl
theorem turnAround_3 : (Rows.turnAroundRow.inPlace == Tryz.prog.inPlace 9) = true := by kernel_rfl
theorem turnAround_5 : (Rows.turnAroundRow.recurses == Tryz.prog.recurses 9) = true := by kernel_rfl
theorem turnAround_6 : (Rows.turnAroundRow.named == Tryz.prog.varsNamed 9) = true := by kernel_rfl
theorem turnAround_8 : (Rows.turnAroundSpec.vars.all (Tryz.prog.varReadable ·) && Tryz.f9.resultTypes.all (fun t => Tryz.prog.readableRec t && decide (t < Tryz.prog.types.size)) && (Rows.turnAroundRow.ifacesOut == Tryz.f9.resultTypes.toList.any (Tryz.prog.ifacesRec ·)) && (Rows.turnAroundRow.loopsOut == Tryz.f9.resultTypes.toList.any (Tryz.prog.loopsFrom ·)) && (Rows.turnAroundRow.plainKeys == Tryz.prog.plainKeys) && Rows.turnAroundRow.shortTexts.isNone && Tryz.prog.stopsHeard && Tryz.prog.mayEnter) = true := by kernel_rfl
theorem turnAround_9 : ((Rows.turnAroundRow.lifted == Tryz.prog.liftsFinal) && (Tryz.prog.make == some Rows.turnAroundRow.make) && (Rows.turnAroundRow.kinds == (if Rows.turnAroundRow.domain.isEmpty then [] else Tryz.f9.params.toList.map fun t => match Tryz.prog.underlying t with | some (.int k) => some k | _ => none)) && (Rows.turnAroundRow.pinned == Rows.turnAroundRow.pinnedBy)) = true := by kernel_rfl
theorem turnAround_facts : joinedFacts Tryz.prog 9 Tryz.f9 Rows.turnAroundSpec Rows.turnAroundRow = true :=
  facts_of turnAround_1 (by kernel_rfl) turnAround_3 turnAround_4 turnAround_5 turnAround_6 (by kernel_rfl) turnAround_8 turnAround_9 (by kernel_rfl)
theorem TurnAround_holds : Rows.TurnAroundSaid :=
  OpenClaim.holds_of_wide 9 Tryz.f9 rfl rfl rfl rfl rfl rfl rfl ⟨rfl, rfl, rfl, rfl, rfl⟩ rfl rfl rfl rfl rfl (by kernel_rfl) Tryz.func9 turnAround_facts
    (of_decide_eq_true (by kernel_rfl)) (by unfold Func.isWrapper; rw [if_neg (of_decide_eq_false (by kernel_rfl))]; exact ⟨rfl, rfl⟩)
    (fun os started H enc _ => turnAround_lifted os started H enc)
#print axioms TurnAround_holds
end Go.Proofs.YtfmgfaeheljpcaaGreat
