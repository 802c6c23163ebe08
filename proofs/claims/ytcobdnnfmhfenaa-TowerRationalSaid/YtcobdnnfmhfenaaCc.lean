/- TowerRational: for every element of a formed tower with short numbers the program and the reference agree on whether it is 0, whether it is rational, and which number it is then, and the argument reads afterwards as before. Conditions: none. -/
import Derived.Test.YtcobdnnfmhfenaaCa
import Derived.Test.YtcobdnnfmhfenaaWd
set_option linter.unusedVariables false
set_option maxRecDepth 100000
namespace Go.Proofs.Ytcobdnnfmhfenaa
open Go Go.Rx Go.ChangeShapes Go.WideShapes Go.ChangeAt Go.RowKit

theorem towerRational_lifted (os : Os) (started : os.Started) (H : Type) (enc : TypeId × Value → H) :
    ReturnsInHanded {} Try.checked os 4 .any (Rows.towerRationalSpec.pre6 enc Try.prog Try.f4 Rows.towerRationalRow.domain false) (Rows.towerRationalSpec.post enc Try.prog Try.f4 false true false false) := by
  refine returnsInHanded_of_change (C := Try.checked) own started (by kernel_rfl) Try.func4
    (ChangeSpec.witness6 (enc := enc) (C := Try.checked) false ⟨#[], #[.agg #[.slice none 0 0, .slice none 0 0, .slice none 0 0, .slice none 0 0]], []⟩ 8 (by kernel_rfl) (by kernel_rfl) (by kernel_rfl) (by kernel_rfl)) ?_
  intro W base args ds gs before hval hW _ _
  exact law1 (s := Rows.towerRationalSpec) rfl rfl rfl (fun _ => rfl) (fun W v t a b c h => law06_TowerRational_ok h) W base args ds gs before hval hW

theorem TowerRational_holds : Rows.TowerRationalSaid :=
  OpenClaim.holds_of_wide 4 Try.f4 rfl rfl rfl rfl rfl rfl rfl ⟨rfl, rfl, rfl, rfl, rfl⟩ rfl rfl rfl rfl rfl (by kernel_rfl) Try.func4 (by kernel_rfl)
    (of_decide_eq_true (by kernel_rfl)) (by unfold Func.isWrapper; rw [if_neg (of_decide_eq_false (by kernel_rfl))]; exact ⟨rfl, rfl⟩)
    (fun os started H enc _ => towerRational_lifted os started H enc)
#print axioms TowerRational_holds
end Go.Proofs.Ytcobdnnfmhfenaa
