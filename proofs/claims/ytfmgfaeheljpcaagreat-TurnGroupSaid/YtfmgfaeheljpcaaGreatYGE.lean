/- TurnGroup: sums of turns are associative and commutative, with opposites, for every case; the arguments read afterwards as before. Conditions: none. -/
import Derived.Test.YtfmgfaeheljpcaaGreatYOF
import Derived.Test.YtfmgfaeheljpcaaGreatYOS
set_option linter.unusedVariables false
set_option linter.unusedSimpArgs false
set_option maxRecDepth 100000
namespace Go.Proofs.YtfmgfaeheljpcaaGreat
open Go Go.Vm Go.ChangeShapes Go.WideShapes Go.ChangeAt Go.RowKit
theorem TurnGroup_at : ∀ xs : List D, (∃ x ys, xs = x :: ys ∧ (∃ ops l a b c, x = dCs ops l a b c ∧ i64 a ∧ i64 b ∧ i64 c) ∧ ys = []) → C Tryz.prog 6 (xs.map .d) (· = .b true) := fun xs ⟨x, _, e, ⟨ops, l, a, b, c, e2, ha, hb, hc⟩, e3⟩ => by subst e; subst e2; subst e3; exact TurnGroup_ok
theorem turnGroup_lifted (os : Os) (started : os.Started) (H : Type) (enc : TypeId × Value → H) :
    ReturnsInHanded {} Tryz.checked os 6 .any (Rows.turnGroupSpec.pre6 enc Tryz.prog Tryz.f6 Rows.turnGroupRow.domain false) (Rows.turnGroupSpec.post enc Tryz.prog Tryz.f6 false true false false) := by
  refine returnsInHanded_of_change (C := Tryz.checked) own started (by kernel_rfl) Tryz.func6
    (ChangeSpec.witness6 (enc := enc) (C := Tryz.checked) false ⟨#[], #[.agg #[.slice none 0 0, .slice none 0 0, .int .i64 0, .int .i64 0, .int .i64 0]], []⟩ 8 (by kernel_rfl) (by kernel_rfl) (by kernel_rfl) (by kernel_rfl)) ?_
  intro W base args ds gs before hval hW _ _
  exact lawV laidOut Tryz.underlying4 (s := Rows.turnGroupSpec) args_Case rfl rfl (fun ds h => match ds, h with | [_], _ => rfl) TurnGroup_at W base args ds gs before hval hW
theorem turnGroup_1 : (Rows.turnGroupRow.wf (OpenSpec.ofChange Rows.turnGroupSpec) && laidOutB Tryz.prog && mapsRowed Tryz.prog) = true := by kernel_rfl
theorem turnGroup_4 : (Rows.turnGroupRow.unfollowed == Tryz.prog.unfollowed 6) = true := by kernel_rfl
theorem turnGroup_3 : (Rows.turnGroupRow.inPlace == Tryz.prog.inPlace 6) = true := by kernel_rfl
theorem turnGroup_5 : (Rows.turnGroupRow.recurses == Tryz.prog.recurses 6) = true := by kernel_rfl
theorem turnGroup_6 : (Rows.turnGroupRow.named == Tryz.prog.varsNamed 6) = true := by kernel_rfl
theorem turnGroup_8 : (Rows.turnGroupSpec.vars.all (Tryz.prog.varReadable ·) && Tryz.f6.resultTypes.all (fun t => Tryz.prog.readableRec t && decide (t < Tryz.prog.types.size)) && (Rows.turnGroupRow.ifacesOut == Tryz.f6.resultTypes.toList.any (Tryz.prog.ifacesRec ·)) && (Rows.turnGroupRow.loopsOut == Tryz.f6.resultTypes.toList.any (Tryz.prog.loopsFrom ·)) && (Rows.turnGroupRow.plainKeys == Tryz.prog.plainKeys) && Rows.turnGroupRow.shortTexts.isNone && Tryz.prog.stopsHeard && Tryz.prog.mayEnter) = true := by kernel_rfl
theorem turnGroup_9 : ((Rows.turnGroupRow.lifted == Tryz.prog.liftsFinal) && (Tryz.prog.make == some Rows.turnGroupRow.make) && (Rows.turnGroupRow.kinds == (if Rows.turnGroupRow.domain.isEmpty then [] else Tryz.f6.params.toList.map fun t => match Tryz.prog.underlying t with | some (.int k) => some k | _ => none)) && (Rows.turnGroupRow.pinned == Rows.turnGroupRow.pinnedBy)) = true := by kernel_rfl
theorem turnGroup_facts : joinedFacts Tryz.prog 6 Tryz.f6 Rows.turnGroupSpec Rows.turnGroupRow = true :=
  facts_of turnGroup_1 (by kernel_rfl) turnGroup_3 turnGroup_4 turnGroup_5 turnGroup_6 (by kernel_rfl) turnGroup_8 turnGroup_9 (by kernel_rfl)
theorem TurnGroup_holds : Rows.TurnGroupSaid :=
  OpenClaim.holds_of_wide 6 Tryz.f6 rfl rfl rfl rfl rfl rfl rfl ⟨rfl, rfl, rfl, rfl, rfl⟩ rfl rfl rfl rfl rfl (by kernel_rfl) Tryz.func6 turnGroup_facts
    (of_decide_eq_true (by kernel_rfl)) (by unfold Func.isWrapper; rw [if_neg (of_decide_eq_false (by kernel_rfl))]; exact ⟨rfl, rfl⟩)
    (fun os started H enc _ => turnGroup_lifted os started H enc)
#print axioms TurnGroup_holds
end Go.Proofs.YtfmgfaeheljpcaaGreat
