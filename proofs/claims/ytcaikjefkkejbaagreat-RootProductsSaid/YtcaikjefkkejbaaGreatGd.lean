/- RootProducts: the statement is true for every input, and the arguments read afterwards as before. Conditions: none. -/
import Derived.Test.YtcaikjefkkejbaaGreatZs
import Derived.Test.YtcaikjefkkejbaaGreatQp
set_option linter.unusedVariables false
set_option linter.unusedSimpArgs false
set_option maxRecDepth 100000
namespace Go.Proofs.YtcaikjefkkejbaaGreat
open Go Go.Rx Go.ChangeShapes Go.WideShapes Go.ChangeAt Go.RowKit
theorem rootProducts_lifted (os : Os) (started : os.Started) (H : Type) (enc : TypeId × Value → H) :
    ReturnsInHanded {} Tryz.checked os 6 .any (Rows.rootProductsSpec.pre6 enc Tryz.prog Tryz.f6 Rows.rootProductsRow.domain false) (Rows.rootProductsSpec.post enc Tryz.prog Tryz.f6 false true false false) := by
  refine returnsInHanded_of_change (C := Tryz.checked) own started (by kernel_rfl) Tryz.func6
    (ChangeSpec.witness6 (enc := enc) (C := Tryz.checked) false ⟨#[], #[.slice none 0 0, .slice none 0 0, .slice none 0 0], []⟩ 8 (by kernel_rfl) (by kernel_rfl) (by kernel_rfl) (by kernel_rfl)) ?_
  intro W base args ds gs before hval hW _ _
  exact law3s (s := Rows.rootProductsSpec) rfl rfl rfl (fun _ _ _ => rfl) (fun W p q q2 n c m d m2 d2 t l l2 h h' h2 => law08_RootProducts_ok h h' h2) W base args ds gs before hval hW
theorem RootProducts_holds : Rows.RootProductsSaid :=
  OpenClaim.holds_of_wide 6 Tryz.f6 rfl rfl rfl rfl rfl rfl rfl ⟨rfl, rfl, rfl, rfl, rfl⟩ rfl rfl rfl rfl rfl (by kernel_rfl) Tryz.func6 (by kernel_rfl)
    (of_decide_eq_true (by kernel_rfl)) (by unfold Func.isWrapper; rw [if_neg (of_decide_eq_false (by kernel_rfl))]; exact ⟨rfl, rfl⟩)
    (fun os started H enc _ => rootProducts_lifted os started H enc)
#print axioms RootProducts_holds
end Go.Proofs.YtcaikjefkkejbaaGreat
