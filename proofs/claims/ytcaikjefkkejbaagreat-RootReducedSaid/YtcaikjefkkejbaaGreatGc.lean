/- RootReduced: the statement is true for every input, and the arguments read afterwards as before. Conditions: none. -/
import Derived.Test.YtcaikjefkkejbaaGreatZs
import Derived.Test.YtcaikjefkkejbaaGreatQp
set_option linter.unusedVariables false
set_option linter.unusedSimpArgs false
set_option maxRecDepth 100000
namespace Go.Proofs.YtcaikjefkkejbaaGreat
open Go Go.Rx Go.ChangeShapes Go.WideShapes Go.ChangeAt Go.RowKit
theorem rootReduced_lifted (os : Os) (started : os.Started) (H : Type) (enc : TypeId × Value → H) :
    ReturnsInHanded {} Tryz.checked os 5 .any (Rows.rootReducedSpec.pre6 enc Tryz.prog Tryz.f5 Rows.rootReducedRow.domain false) (Rows.rootReducedSpec.post enc Tryz.prog Tryz.f5 false true false false) := by
  refine returnsInHanded_of_change (C := Tryz.checked) own started (by kernel_rfl) Tryz.func5
    (ChangeSpec.witness6 (enc := enc) (C := Tryz.checked) false ⟨#[], #[.slice none 0 0], []⟩ 8 (by kernel_rfl) (by kernel_rfl) (by kernel_rfl) (by kernel_rfl)) ?_
  intro W base args ds gs before hval hW _ _
  exact law1s (s := Rows.rootReducedSpec) rfl rfl rfl (fun _ => rfl) (fun W p n c t h => law08_RootReduced_ok h) W base args ds gs before hval hW
theorem RootReduced_holds : Rows.RootReducedSaid :=
  OpenClaim.holds_of_wide 5 Tryz.f5 rfl rfl rfl rfl rfl rfl rfl ⟨rfl, rfl, rfl, rfl, rfl⟩ rfl rfl rfl rfl rfl (by kernel_rfl) Tryz.func5 (by kernel_rfl)
    (of_decide_eq_true (by kernel_rfl)) (by unfold Func.isWrapper; rw [if_neg (of_decide_eq_false (by kernel_rfl))]; exact ⟨rfl, rfl⟩)
    (fun os started H enc _ => rootReduced_lifted os started H enc)
#print axioms RootReduced_holds
end Go.Proofs.YtcaikjefkkejbaaGreat
