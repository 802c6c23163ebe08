/- RootSquare: the statement is true for every input, and the arguments read afterwards as before. Conditions: none. -/
import Derived.Test.YtcaikjefkkejbaaGreatZs
import Derived.Test.YtcaikjefkkejbaaGreatQp
set_option linter.unusedVariables false
set_option linter.unusedSimpArgs false
set_option maxRecDepth 100000
namespace Go.Proofs.YtcaikjefkkejbaaGreat
open Go Go.Rx Go.ChangeShapes Go.WideShapes Go.ChangeAt Go.RowKit
theorem rootSquare_lifted (os : Os) (started : os.Started) (H : Type) (enc : TypeId × Value → H) :
    ReturnsInHanded {} Tryz.checked os 3 .any (Rows.rootSquareSpec.pre6 enc Tryz.prog Tryz.f3 Rows.rootSquareRow.domain false) (Rows.rootSquareSpec.post enc Tryz.prog Tryz.f3 false true false false) := by
  refine returnsInHanded_of_change (C := Tryz.checked) own started (by kernel_rfl) Tryz.func3
    (ChangeSpec.witness6 (enc := enc) (C := Tryz.checked) false ⟨#[], #[.slice none 0 0, .slice none 0 0], []⟩ 8 (by kernel_rfl) (by kernel_rfl) (by kernel_rfl) (by kernel_rfl)) ?_
  intro W base args ds gs before hval hW _ _
  exact law2s (s := Rows.rootSquareSpec) rfl rfl rfl (fun _ _ => rfl) (fun W p q n c m d t l h h' => law08_RootSquare_ok h h') W base args ds gs before hval hW
theorem RootSquare_holds : Rows.RootSquareSaid :=
  OpenClaim.holds_of_wide 3 Tryz.f3 rfl rfl rfl rfl rfl rfl rfl ⟨rfl, rfl, rfl, rfl, rfl⟩ rfl rfl rfl rfl rfl (by kernel_rfl) Tryz.func3 (by kernel_rfl)
    (of_decide_eq_true (by kernel_rfl)) (by unfold Func.isWrapper; rw [if_neg (of_decide_eq_false (by kernel_rfl))]; exact ⟨rfl, rfl⟩)
    (fun os started H enc _ => rootSquare_lifted os started H enc)
#print axioms RootSquare_holds
end Go.Proofs.YtcaikjefkkejbaaGreat
