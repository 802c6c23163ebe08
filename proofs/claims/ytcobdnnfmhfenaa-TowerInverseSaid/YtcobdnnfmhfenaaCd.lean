/- TowerInverse: for every element of a formed tower with short numbers the inverse that the program returns, times the element, is 1; if there is none, the norm has none, or it is 0; the argument reads afterwards as before. Conditions: none. -/
import Derived.Test.YtcobdnnfmhfenaaCa
import Derived.Test.YtcobdnnfmhfenaaWe
set_option linter.unusedVariables false
set_option maxRecDepth 100000
namespace Go.Proofs.Ytcobdnnfmhfenaa
open Go Go.Rx Go.ChangeShapes Go.WideShapes Go.ChangeAt Go.RowKit

theorem towerInverse_lifted (os : Os) (started : os.Started) (H : Type) (enc : TypeId × Value → H) :
    ReturnsInHanded {} Try.checked os 5 .any (Rows.towerInverseSpec.pre6 enc Try.prog Try.f5 Rows.towerInverseRow.domain false) (Rows.towerInverseSpec.post enc Try.prog Try.f5 false true false false) := by
  refine returnsInHanded_of_change (C := Try.checked) own started (by kernel_rfl) Try.func5
    (ChangeSpec.witness6 (enc := enc) (C := Try.checked) false ⟨#[], #[.agg #[.slice none 0 0, .slice none 0 0, .slice none 0 0, .slice none 0 0]], []⟩ 8 (by kernel_rfl) (by kernel_rfl) (by kernel_rfl) (by kernel_rfl)) ?_
  intro W base args ds gs before hval hW _ _
  exact law1 (s := Rows.towerInverseSpec) rfl rfl rfl (fun _ => rfl) (fun W v t a b c h => law06_TowerInverse_ok h) W base args ds gs before hval hW

theorem TowerInverse_holds : Rows.TowerInverseSaid :=
  OpenClaim.holds_of_wide 5 Try.f5 rfl rfl rfl rfl rfl rfl rfl ⟨rfl, rfl, rfl, rfl, rfl⟩ rfl rfl rfl rfl rfl (by kernel_rfl) Try.func5 (by kernel_rfl)
    (of_decide_eq_true (by kernel_rfl)) (by unfold Func.isWrapper; rw [if_neg (of_decide_eq_false (by kernel_rfl))]; exact ⟨rfl, rfl⟩)
    (fun os started H enc _ => towerInverse_lifted os started H enc)
#print axioms TowerInverse_holds
end Go.Proofs.Ytcobdnnfmhfenaa
