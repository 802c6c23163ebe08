/- TowerSingle, of the second form: Neg, Inv, Norm, Conjugate and Root have the specified results, and Inv ErrInvalid, for what is not formed or does not exist; and the arguments read afterwards as before. Conditions: the arguments hold at most 1048576 values together. -/
import Derived.Test.YtcobdnnfmhfenaaGreatYk
import Derived.Test.YtcobdnnfmhfenaaGreatYj
set_option linter.unusedVariables false
set_option linter.unusedSimpArgs false
set_option maxRecDepth 100000
namespace Go.Proofs.YtcobdnnfmhfenaaGreat
open Go Go.Rx Go.ChangeShapes Go.WideShapes Go.ChangeAt Go.RowKit

theorem towerSingle_lifted (os : Os) (started : os.Started) (H : Type) (enc : TypeId × Value → H) (F : Stop.Interp) :
    ReturnsInHanded {} Tryz.checked os 5 .any ((Rows.OpenSpec.upto Rows.towerSingleSpec).pre6 enc Tryz.prog Tryz.f5 Rows.towerSingleUptoRow.domain false) (((Rows.OpenSpec.upto Rows.towerSingleSpec).at F).post enc Tryz.prog Tryz.f5 false true false false) := by
  refine returnsInHanded_of_cond (C := Tryz.checked) (s := Rows.OpenSpec.upto Rows.towerSingleSpec) (k := Rows.uptoSmall) rfl ownU started (by kernel_rfl) Tryz.func5
    (OpenSpec.witness (enc := enc) (C := Tryz.checked) (s := Rows.OpenSpec.upto Rows.towerSingleSpec) (k := Rows.uptoSmall) rfl false ⟨#[], #[.agg #[.slice none 0 0, .slice none 0 0, .slice none 0 0, .slice none 0 0], .int .i64 0], []⟩ 8 (by kernel_rfl) (by kernel_rfl) (by kernel_rfl)
      (x := ([.agg [.nil, .nil, .nil, .nil], .lit (.int .i64 0)], [], [])) (by kernel_rfl) rfl (by kernel_rfl)) ?_
  intro W base args ds gs before hval hW _ hk _
  exact law2iU (s := Rows.towerSingleSpec) Tryz.underlying25 readsB_Case rfl (by kernel_rfl) (of_decide_eq_true (by kernel_rfl)) rfl rfl rfl (fun _ _ => rfl)
    (fun W v i z h hi hz => law06_TowerSingle_ok (t := i.1) (a := i.2.1) (b := i.2.2.1) (c := i.2.2.2) h (mid_bk (Bk.l (Bk.r (Bk.r hi)))) (mid_bk (Bk.r (Bk.r (Bk.r hi))))) W base args ds gs before hval hW hk

theorem TowerSingle_holds : Rows.TowerSingleUptoSaid :=
  OpenClaim.holds_of_cond 5 Tryz.f5 rfl rfl rfl rfl rfl rfl rfl ⟨rfl, rfl, rfl, rfl, rfl⟩ rfl rfl rfl rfl rfl (by kernel_rfl) Tryz.func5 (by kernel_rfl)
    (of_decide_eq_true (by kernel_rfl)) (by unfold Func.isWrapper; rw [if_neg (of_decide_eq_false (by kernel_rfl))]; exact ⟨rfl, rfl⟩)
    (fun os started H enc _ F => towerSingle_lifted os started H enc F)
#print axioms TowerSingle_holds
end Go.Proofs.YtcobdnnfmhfenaaGreat
