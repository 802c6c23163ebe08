/- TowerFormed, of the second form: Formed accepts exactly the formed towers and elements, and the functions return empty results for others; and the arguments read afterwards as before. Conditions: the arguments hold at most 1048576 values together. -/
import Derived.Test.YtcobdnnfmhfenaaGreatYk
import Derived.Test.YtcobdnnfmhfenaaGreatYi
set_option linter.unusedVariables false
set_option linter.unusedSimpArgs false
set_option maxRecDepth 100000
namespace Go.Proofs.YtcobdnnfmhfenaaGreat
open Go Go.Rx Go.ChangeShapes Go.WideShapes Go.ChangeAt Go.RowKit

theorem towerFormed_lifted (os : Os) (started : os.Started) (H : Type) (enc : TypeId × Value → H) (F : Stop.Interp) :
    ReturnsInHanded {} Tryz.checked os 6 .any ((Rows.OpenSpec.upto Rows.towerFormedSpec).pre6 enc Tryz.prog Tryz.f6 Rows.towerFormedUptoRow.domain false) (((Rows.OpenSpec.upto Rows.towerFormedSpec).at F).post enc Tryz.prog Tryz.f6 false true false false) := by
  refine returnsInHanded_of_cond (C := Tryz.checked) (s := Rows.OpenSpec.upto Rows.towerFormedSpec) (k := Rows.uptoSmall) rfl ownU started (by kernel_rfl) Tryz.func6
    (OpenSpec.witness (enc := enc) (C := Tryz.checked) (s := Rows.OpenSpec.upto Rows.towerFormedSpec) (k := Rows.uptoSmall) rfl false ⟨#[], #[.agg #[.slice none 0 0, .slice none 0 0, .slice none 0 0, .slice none 0 0], .agg #[.bool false, .slice none 0 0, .bool false, .slice none 0 0]], []⟩ 8 (by kernel_rfl) (by kernel_rfl) (by kernel_rfl)
      (x := ([.agg [.nil, .nil, .nil, .nil], .agg [.agg [.lit (.bool false), .nil], .agg [.lit (.bool false), .nil]]], [], [])) (by kernel_rfl) rfl (by kernel_rfl)) ?_
  intro W base args ds gs before hval hW _ hk _
  exact law2U (s := Rows.towerFormedSpec) Tryz.underlying25 readsB_Case rfl Tryz.underlying47 readsB_Rat rfl (by kernel_rfl) (of_decide_eq_true (by kernel_rfl)) (by kernel_rfl) (of_decide_eq_true (by kernel_rfl)) rfl rfl rfl (fun _ _ => rfl)
    (fun W v u i j h hi h' hj => law06_TowerFormed_ok (t := i.1) (a := i.2.1) (b := i.2.2.1) (c := i.2.2.2) h h' (mid_bk (Bk.r (Bk.r (Bk.r hi))))) W base args ds gs before hval hW hk

theorem TowerFormed_holds : Rows.TowerFormedUptoSaid :=
  OpenClaim.holds_of_cond 6 Tryz.f6 rfl rfl rfl rfl rfl rfl rfl ⟨rfl, rfl, rfl, rfl, rfl⟩ rfl rfl rfl rfl rfl (by kernel_rfl) Tryz.func6 (by kernel_rfl)
    (of_decide_eq_true (by kernel_rfl)) (by unfold Func.isWrapper; rw [if_neg (of_decide_eq_false (by kernel_rfl))]; exact ⟨rfl, rfl⟩)
    (fun os started H enc _ F => towerFormed_lifted os started H enc F)
#print axioms TowerFormed_holds
end Go.Proofs.YtcobdnnfmhfenaaGreat
