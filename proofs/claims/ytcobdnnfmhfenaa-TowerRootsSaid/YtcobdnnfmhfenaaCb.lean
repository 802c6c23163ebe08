/- TowerRoots: in every tower of at most four radicands with short numbers the square of the root of each radicand, multiplied by the program, is that radicand, and the argument reads afterwards as before. Conditions: none. -/
import Derived.Test.YtcobdnnfmhfenaaCa
import Derived.Test.YtcobdnnfmhfenaaWc
set_option linter.unusedVariables false
set_option maxRecDepth 100000
namespace Go.Proofs.Ytcobdnnfmhfenaa
open Go Go.Rx Go.ChangeShapes Go.WideShapes Go.ChangeAt Go.RowKit

theorem towerRoots_lifted (os : Os) (started : os.Started) (H : Type) (enc : TypeId × Value → H) :
    ReturnsInHanded {} Try.checked os 3 .any (Rows.towerRootsSpec.pre6 enc Try.prog Try.f3 Rows.towerRootsRow.domain false) (Rows.towerRootsSpec.post enc Try.prog Try.f3 false true false false) := by
  refine returnsInHanded_of_change (C := Try.checked) own started (by kernel_rfl) Try.func3
    (ChangeSpec.witness6 (enc := enc) (C := Try.checked) false ⟨#[], #[.agg #[.slice none 0 0, .slice none 0 0, .slice none 0 0, .slice none 0 0]], []⟩ 8 (by kernel_rfl) (by kernel_rfl) (by kernel_rfl) (by kernel_rfl)) ?_
  intro W base args ds gs before hval hW _ _
  exact law1 (s := Rows.towerRootsSpec) rfl rfl rfl (fun _ => rfl) (fun W v t a b c h => law06_TowerRoots_ok h) W base args ds gs before hval hW

theorem TowerRoots_holds : Rows.TowerRootsSaid :=
  OpenClaim.holds_of_wide 3 Try.f3 rfl rfl rfl rfl rfl rfl rfl ⟨rfl, rfl, rfl, rfl, rfl⟩ rfl rfl rfl rfl rfl (by kernel_rfl) Try.func3 (by kernel_rfl)
    (of_decide_eq_true (by kernel_rfl)) (by unfold Func.isWrapper; rw [if_neg (of_decide_eq_false (by kernel_rfl))]; exact ⟨rfl, rfl⟩)
    (fun os started H enc _ => towerRoots_lifted os started H enc)
#print axioms TowerRoots_holds
end Go.Proofs.Ytcobdnnfmhfenaa
