/- TowerNorm: in every tower of one to four radicands with short numbers the norm of a product is the product of the norms, and the norm of an element of the tower below is its square, and the argument reads afterwards as before. Conditions: none. -/
import Derived.Test.YtcobdnnfmhfenaaGreatCa
import Derived.Test.YtcobdnnfmhfenaaGreatYa
set_option linter.unusedVariables false
set_option maxRecDepth 100000
namespace Go.Proofs.YtcobdnnfmhfenaaGreat
open Go Go.Rx Go.ChangeShapes Go.WideShapes Go.ChangeAt Go.RowKit

theorem towerNorm_lifted (os : Os) (started : os.Started) (H : Type) (enc : TypeId × Value → H) :
    ReturnsInHanded {} Tryz.checked os 4 .any (Rows.towerNormSpec.pre6 enc Tryz.prog Tryz.f4 Rows.towerNormRow.domain false) (Rows.towerNormSpec.post enc Tryz.prog Tryz.f4 false true false false) := by
  refine returnsInHanded_of_change (C := Tryz.checked) own started (by kernel_rfl) Tryz.func4
    (ChangeSpec.witness6 (enc := enc) (C := Tryz.checked) false ⟨#[], #[.agg #[.slice none 0 0, .slice none 0 0, .slice none 0 0, .slice none 0 0]], []⟩ 8 (by kernel_rfl) (by kernel_rfl) (by kernel_rfl) (by kernel_rfl)) ?_
  intro W base args ds gs before hval hW _ _
  exact law1 (s := Rows.towerNormSpec) rfl rfl rfl (fun _ => rfl) (fun W v t a b c h => law06_TowerNorm_ok h) W base args ds gs before hval hW

theorem TowerNorm_holds : Rows.TowerNormSaid :=
  OpenClaim.holds_of_wide 4 Tryz.f4 rfl rfl rfl rfl rfl rfl rfl ⟨rfl, rfl, rfl, rfl, rfl⟩ rfl rfl rfl rfl rfl (by kernel_rfl) Tryz.func4 (by kernel_rfl)
    (of_decide_eq_true (by kernel_rfl)) (by unfold Func.isWrapper; rw [if_neg (of_decide_eq_false (by kernel_rfl))]; exact ⟨rfl, rfl⟩)
    (fun os started H enc _ => towerNorm_lifted os started H enc)
#print axioms TowerNorm_holds
end Go.Proofs.YtcobdnnfmhfenaaGreat
