/- TurnTangent: Tangent is as specified, for every case; the arguments read afterwards as before. Conditions: none. -/
import Derived.Test.YtfmgfaeheljpcaaGreatYOF
import Derived.Test.YtfmgfaeheljpcaaGreatYOR
set_option linter.unusedVariables false
set_option linter.unusedSimpArgs false
set_option maxRecDepth 100000
namespace Go.Proofs.YtfmgfaeheljpcaaGreat
open Go Go.Vm Go.ChangeShapes Go.WideShapes Go.ChangeAt Go.RowKit
theorem TurnTangent_at : ∀ xs : List D, (∃ x ys, xs = x :: ys ∧ (∃ ops l a b c, x = dCs ops l a b c ∧ i64 a ∧ i64 b ∧ i64 c) ∧ ys = []) → C Tryz.prog 3 (xs.map .d) (· = .b true) := fun xs ⟨x, _, e, ⟨ops, l, a, b, c, e2, ha, hb, hc⟩, e3⟩ => by subst e; subst e2; subst e3; exact TurnTangent_ok
theorem turnTangent_lifted (os : Os) (started : os.Started) (H : Type) (enc : TypeId × Value → H) :
    ReturnsInHanded {} Tryz.checked os 3 .any (Rows.turnTangentSpec.pre6 enc Tryz.prog Tryz.f3 Rows.turnTangentRow.domain false) (Rows.turnTangentSpec.post enc Tryz.prog Tryz.f3 false true false false) := by
  refine returnsInHanded_of_change (C := Tryz.checked) own started (by kernel_rfl) Tryz.func3
    (ChangeSpec.witness6 (enc := enc) (C := Tryz.checked) false ⟨#[], #[.agg #[.slice none 0 0, .slice none 0 0, .int .i64 0, .int .i64 0, .int .i64 0]], []⟩ 8 (by kernel_rfl) (by kernel_rfl) (by kernel_rfl) (by kernel_rfl)) ?_
  intro W base args ds gs before hval hW _ _
  exact lawV laidOut Tryz.underlying4 (s := Rows.turnTangentSpec) args_Case rfl rfl (fun ds h => match ds, h with | [_], _ => rfl) TurnTangent_at W base args ds gs before hval hW
theorem turnTangent_1 : (Rows.turnTangentRow.wf (OpenSpec.ofChange Rows.turnTangentSpec) && laidOutB Tryz.prog && mapsRowed Tryz.prog) = true := by kernel_rfl
theorem turnTangent_4 : (Rows.turnTangentRow.unfollowed == Tryz.prog.unfollowed 3) = true := by kernel_rfl
theorem turnTangent_3 : (Rows.turnTangentRow.inPlace == Tryz.prog.inPlace 3) = true := by kernel_rfl
theorem turnTangent_5 : (Rows.turnTangentRow.recurses == Tryz.prog.recurses 3) = true := by kernel_rfl
theorem turnTangent_6 : (Rows.turnTangentRow.named == Tryz.prog.varsNamed 3) = true := by kernel_rfl
theorem turnTangent_8 : (Rows.turnTangentSpec.vars.all (Tryz.prog.varReadable ·) && Tryz.f3.resultTypes.all (fun t => Tryz.prog.readableRec t && decide (t < Tryz.prog.types.size)) && (Rows.turnTangentRow.ifacesOut == Tryz.f3.resultTypes.toList.any (Tryz.prog.ifacesRec ·)) && (Rows.turnTangentRow.loopsOut == Tryz.f3.resultTypes.toList.any (Tryz.prog.loopsFrom ·)) && (Rows.turnTangentRow.plainKeys == Tryz.prog.plainKeys) && Rows.turnTangentRow.shortTexts.isNone && Tryz.prog.stopsHeard && Tryz.prog.mayEnter) = true := by kernel_rfl
theorem turnTangent_9 : ((Rows.turnTangentRow.lifted == Tryz.prog.liftsFinal) && (Tryz.prog.make == some Rows.turnTangentRow.make) && (Rows.turnTangentRow.kinds == (if Rows.turnTangentRow.domain.isEmpty then [] else Tryz.f3.params.toList.map fun t => match Tryz.prog.underlying t with | some (.int k) => some k | _ => none)) && (Rows.turnTangentRow.pinned == Rows.turnTangentRow.pinnedBy)) = true := by kernel_rfl
theorem turnTangent_facts : joinedFacts Tryz.prog 3 Tryz.f3 Rows.turnTangentSpec Rows.turnTangentRow = true :=
  facts_of turnTangent_1 (by kernel_rfl) turnTangent_3 turnTangent_4 turnTangent_5 turnTangent_6 (by kernel_rfl) turnTangent_8 turnTangent_9 (by kernel_rfl)
theorem TurnTangent_holds : Rows.TurnTangentSaid :=
  OpenClaim.holds_of_wide 3 Tryz.f3 rfl rfl rfl rfl rfl rfl rfl ⟨rfl, rfl, rfl, rfl, rfl⟩ rfl rfl rfl rfl rfl (by kernel_rfl) Tryz.func3 turnTangent_facts
    (of_decide_eq_true (by kernel_rfl)) (by unfold Func.isWrapper; rw [if_neg (of_decide_eq_false (by kernel_rfl))]; exact ⟨rfl, rfl⟩)
    (fun os started H enc _ => turnTangent_lifted os started H enc)
#print axioms TurnTangent_holds
end Go.Proofs.YtfmgfaeheljpcaaGreat
