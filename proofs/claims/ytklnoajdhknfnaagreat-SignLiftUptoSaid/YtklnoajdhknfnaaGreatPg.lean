/- SignLift, of the second form. Condition: the arguments hold at most 1048576 values together. -/
import Derived.Test.YtklnoajdhknfnaaGreatZk
import Derived.Test.YtklnoajdhknfnaaGreatSw
set_option linter.unusedVariables false
set_option linter.unusedSimpArgs false
set_option maxRecDepth 100000
namespace Go.Proofs.YtklnoajdhknfnaaGreat
open Go Go.Rx Go.ChangeShapes Go.WideShapes Go.ChangeAt Go.RowKit
theorem signLift_lifted (os : Os) (started : os.Started) (H : Type) (enc : TypeId × Value → H) (F : Stop.Interp) :
    ReturnsInHanded {} Tryz.checked os 9 .any ((Rows.OpenSpec.upto Rows.signLiftSpec).pre6 enc Tryz.prog Tryz.f9 Rows.signLiftUptoRow.domain false) (((Rows.OpenSpec.upto Rows.signLiftSpec).at F).post enc Tryz.prog Tryz.f9 false true false false) := by
  refine returnsInHanded_of_cond (C := Tryz.checked) (s := Rows.OpenSpec.upto Rows.signLiftSpec) (k := Rows.uptoSmall) rfl ownU started (by kernel_rfl) Tryz.func9
    (OpenSpec.witness (enc := enc) (C := Tryz.checked) (s := Rows.OpenSpec.upto Rows.signLiftSpec) (k := Rows.uptoSmall) rfl false ⟨#[], #[.agg #[.slice none 0 0, .slice none 0 0, .slice none 0 0]], []⟩ 8 (by kernel_rfl) (by kernel_rfl) (by kernel_rfl)
      (x := ([.agg [.nil, .nil, .nil]], [], [])) (by kernel_rfl) rfl (by kernel_rfl)) ?_
  intro W base args ds gs before hval hW _ hk _
  exact law1U (s := Rows.signLiftSpec) Tryz.underlying25 readsB_Case rfl (by kernel_rfl) (of_decide_eq_true (by kernel_rfl)) rfl rfl rfl (fun _ => rfl)
    (fun W v i h hi => law07_SignLift_ok (t := i.1) (a := i.2.1) (b := i.2.2) h (Nat.le_trans (Bk.len (Bk.l hi)) (by decide))) W base args ds gs before hval hW hk
theorem SignLift_holds : Rows.SignLiftUptoSaid :=
  OpenClaim.holds_of_cond 9 Tryz.f9 rfl rfl rfl rfl rfl rfl rfl ⟨rfl, rfl, rfl, rfl, rfl⟩ rfl rfl rfl rfl rfl (by kernel_rfl) Tryz.func9 (by kernel_rfl)
    (of_decide_eq_true (by kernel_rfl)) (by unfold Func.isWrapper; rw [if_neg (of_decide_eq_false (by kernel_rfl))]; exact ⟨rfl, rfl⟩)
    (fun os started H enc _ F => signLift_lifted os started H enc F)
#print axioms SignLift_holds
end Go.Proofs.YtklnoajdhknfnaaGreat
