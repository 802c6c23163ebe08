/- The statements about towers: the examples of the document. -/
import Derived.Test.YtcobdnnfmhfenaaGreatWa
set_option linter.unusedVariables false
set_option linter.unusedSimpArgs false
set_option maxRecDepth 10000
set_option maxHeartbeats 2000000
namespace Go.Proofs.YtcobdnnfmhfenaaGreat
open Go Go.Rx Go.Num Go.Tow

def e0 (a : Int) : El 0 := (a : Rat)
def e1 (a b : Int) : El 1 := ((a : Rat), (b : Rat))
def e2 (a b c d : Int) : El 2 := (((a : Rat), (b : Rat)), ((c : Rat), (d : Rat)))
def w1 (a : Int) : Tw 1 := ((), (a : Rat))
def w2 (a b c : Int) : Tw 2 := (((), (a : Rat)), ((b : Rat), (c : Rat)))
theorem qs8 {z : Int} (h : z.natAbs < 256) : Qs 8 (z : Rat) := Qs.int h (by decide)
theorem sz_of {zs : List Int} (h : ∀ z ∈ zs, z.natAbs < 256) (hl : zs.length ≤ 4) : Sz 33 (qs zs) := by
  refine (Sz.all (p := 8) fun x hx => ?_).mono (by rw [qs, List.length_map]; omega)
  obtain ⟨z, hz, rfl⟩ := List.mem_map.1 hx
  exact qs8 (h z hz)
theorem inv_ex1 : Tow.inv 1 (w1 2) (e1 1 1) = some (e1 (-1) 1) := by decide +kernel
theorem inv_ex2 : Tow.inv 1 (w1 4) (e1 2 (-1)) = none := by decide +kernel
theorem mul_ex : Tow.mul 1 (w1 2) (e1 1 1) (e1 3 (-2)) = e1 (-1) 1 := by decide +kernel
theorem flip_ex : flipL 1 (toL 2 (e2 1 2 3 4)) = toL 2 (e2 1 2 (-3) (-4)) := by decide +kernel
theorem root_ex : root 2 1 = e2 0 0 1 0 := by decide +kernel
theorem conj_ex0 : ¬ conjOk 0 (toT 2 (w2 2 1 1)) := fun h => by
  have := h 1 [((1 : Int) : Rat), ((1 : Int) : Rat)] (by decide) rfl 1 ((1 : Int) : Rat) rfl (by decide)
  exact absurd this (by decide +kernel)
theorem conj_ex1 : conjOk 1 (toT 2 (w2 2 1 1)) := fun j r hj hr => by
  have : (toT 2 (w2 2 1 1))[j]? = none := List.getElem?_eq_none (by rw [toT_length]; omega)
  rw [this] at hr; cases hr
theorem same_t {l l' : List Raw} {v : Value} (h : v = .bool (decide (l = l'))) (e : l = l') : v = .bool true := by rw [h, e]; simp

theorem law06_awake_ok {W : GW} : Ok Tryz.prog 8 [] W fun _ r => r = .bool true := by
  have hT1 : TS 33 1 (w1 2) := ⟨trivial, sz_of (zs := [2]) (by decide) (by decide)⟩
  have hT4 : TS 33 1 (w1 4) := ⟨trivial, sz_of (zs := [4]) (by decide) (by decide)⟩
  have hT2 : TS 33 2 (w2 2 1 1) := ⟨⟨trivial, sz_of (zs := [2]) (by decide) (by decide)⟩, sz_of (zs := [1, 1]) (by decide) (by decide)⟩
  have sA : Sz 33 (toL 1 (e1 1 1)) := sz_of (zs := [1, 1]) (by decide) (by decide)
  have sB : Sz 33 (toL 1 (e1 2 (-1))) := sz_of (zs := [2, -1]) (by decide) (by decide)
  have sC : Sz 33 (toL 2 (e2 1 2 3 4)) := sz_of (zs := [1, 2, 3, 4]) (by decide) (by decide)
  have sD : Sz 33 (toL 1 (e1 3 (-2))) := sz_of (zs := [3, -2]) (by decide) (by decide)
  refine Ok.enter Tryz.func8 rfl rfl rfl rfl fun W0 iEn => ?_
  refine J.seq <| J.reg rfl <| O.as rfl <| JO.nil <| J.seq <| J.reg rfl <| O.bs (r := RZ) [2] rfl ⟨rzv _ (by decide), trivial⟩ rfl rfl rfl (by decide) (.inr rfl) (by decide) fun W1 p1 i1 e1 s1 => O.call rfl (law06_list_ok s1 (by decide)) fun W2 v2 i2 e2 h2 => O.bs (r := RE) [cl (qs [2])] rfl ⟨h2, trivial⟩ rfl rfl rfl (by decide) (.inr rfl) (by decide) fun W3 p3 i3 e3 s3 => O.as rfl <| JO.nil <| J.seq <| J.reg rfl <| O.bs (r := RZ) [2] rfl ⟨rzv _ (by decide), trivial⟩ rfl rfl rfl (by decide) (.inr rfl) (by decide) fun W4 p4 i4 e4 s4 => O.call rfl (law06_list_ok s4 (by decide)) fun W5 v5 i5 e5 h5 => O.bs (r := RZ) [1, 1] rfl ⟨rzv _ (by decide), rzv _ (by decide), trivial⟩ rfl rfl rfl (by decide) (.inr rfl) (by decide) fun W6 p6 i6 e6 s6 => O.call rfl (law06_list_ok s6 (by decide)) fun W7 v7 i7 e7 h7 => O.bs (r := RE) [cl (qs [2]), cl (qs [1, 1])] rfl ⟨h5.to, h7, trivial⟩ rfl rfl rfl (by decide) (.inr rfl) (by decide) fun W8 p8 i8 e8 s8 => O.as rfl <| JO.nil <| J.seq <| J.reg rfl <| O.mv rfl <| O.bs (r := RZ) [1, 1] rfl ⟨rzv _ (by decide), rzv _ (by decide), trivial⟩ rfl rfl rfl (by decide) (.inr rfl) (by decide) fun W9 p9 i9 e9 s9 => O.call rfl (law06_list_ok s9 (by decide)) fun W10 v10 i10 e10 h10 => ?_
  obtain ⟨p10, n10, c10, rfl, s10⟩ := h10.sl
  refine O.call rfl (tower_Inv_ok (k := 1) (t := w1 2) (a := Go.Proofs.YtcobdnnfmhfenaaGreat.e1 1 1) (r := 33) (s := 33) s3.to s10 hT1 sA (by decide) (by decide +kernel) (by decide)) fun W11 v11 i11 e11 h11 => ?_
  obtain ⟨v12, er12, rfl, h12⟩ := h11
  rw [inv_ex1] at h12
  obtain ⟨rfl, h12⟩ := h12
  obtain ⟨p12, n12, c12, rfl, s12⟩ := h12.sl
  refine O.mv rfl <| O.ext rfl rfl <| O.ext rfl rfl <| O.as rfl <| O.as rfl <| JO.nil <| J.seq <| J.reg rfl <| O.bs (r := RZ) [4] rfl ⟨rzv _ (by decide), trivial⟩ rfl rfl rfl (by decide) (.inr rfl) (by decide) fun W13 p13 i13 e13 s13 => O.call rfl (law06_list_ok s13 (by decide)) fun W14 v14 i14 e14 h14 => O.bs (r := RE) [cl (qs [4])] rfl ⟨h14, trivial⟩ rfl rfl rfl (by decide) (.inr rfl) (by decide) fun W15 p15 i15 e15 s15 => O.bs (r := RZ) [2, -1] rfl ⟨rzv _ (by decide), rzv _ (by decide), trivial⟩ rfl rfl rfl (by decide) (.inr rfl) (by decide) fun W16 p16 i16 e16 s16 => O.call rfl (law06_list_ok s16 (by decide)) fun W17 v17 i17 e17 h17 => ?_
  obtain ⟨p17, n17, c17, rfl, s17⟩ := h17.sl
  refine O.call rfl (tower_Inv_ok (k := 1) (t := w1 4) (a := Go.Proofs.YtcobdnnfmhfenaaGreat.e1 2 (-1)) (r := 33) (s := 33) s15.to s17 hT4 sB (by decide) (by decide +kernel) (by decide)) fun W18 v18 i18 e18 h18 => ?_
  obtain ⟨v19, er19, rfl, h19⟩ := h18
  rw [inv_ex2] at h19
  obtain ⟨rfl, h19⟩ := h19
  refine O.mv rfl <| O.ext rfl rfl <| O.ext rfl rfl <| O.as rfl <| O.as rfl <| JO.nil <| J.seq <| J.reg rfl <| O.mv rfl <| O.bs (r := RZ) [1, 2, 3, 4] rfl ⟨rzv _ (by decide), rzv _ (by decide), rzv _ (by decide), rzv _ (by decide), trivial⟩ rfl rfl rfl (by decide) (.inr rfl) (by decide) fun W20 p20 i20 e20 s20 => O.call rfl (law06_list_ok s20 (by decide)) fun W21 v21 i21 e21 h21 => ?_
  obtain ⟨p21, n21, c21, rfl, s21⟩ := h21.sl
  refine O.call rfl (tower_Conjugate_ok (k := 2) (t := w2 2 1 1) (a := Go.Proofs.YtcobdnnfmhfenaaGreat.e2 1 2 3 4) (r := 33) (s := 33) (i := 0) s8.to s21 hT2 sC (by decide) (by decide) (by decide) (by decide)) fun W22 v22 i22 e22 h22 => ?_
  obtain ⟨v23, b23, rfl, h23⟩ := h22
  obtain rfl : b23 = false := by
    rcases h23 with h | h
    · exact absurd h.1.2.2 conj_ex0
    · exact h.2.1
  refine O.mv rfl <| O.ext rfl rfl <| O.ext rfl rfl <| O.as rfl <| O.as rfl <| JO.nil <| J.seq <| J.reg rfl <| O.mv rfl <| O.bs (r := RZ) [1, 2, 3, 4] rfl ⟨rzv _ (by decide), rzv _ (by decide), rzv _ (by decide), rzv _ (by decide), trivial⟩ rfl rfl rfl (by decide) (.inr rfl) (by decide) fun W24 p24 i24 e24 s24 => O.call rfl (law06_list_ok s24 (by decide)) fun W25 v25 i25 e25 h25 => ?_
  obtain ⟨p25, n25, c25, rfl, s25⟩ := h25.sl
  refine O.call rfl (tower_Conjugate_ok (k := 2) (t := w2 2 1 1) (a := Go.Proofs.YtcobdnnfmhfenaaGreat.e2 1 2 3 4) (r := 33) (s := 33) (i := 1) s8.to s25 hT2 sC (by decide) (by decide) (by decide) (by decide)) fun W26 v26 i26 e26 h26 => ?_
  obtain ⟨v27, b27, rfl, h27⟩ := h26
  obtain ⟨rfl, k27⟩ : b27 = true ∧ V RE W26 v27 (cl (toL 2 (Go.Proofs.YtcobdnnfmhfenaaGreat.e2 1 2 (-3) (-4)))) := by
    rcases h27 with h | h
    · exact ⟨h.2.1, flip_ex ▸ h.2.2⟩
    · exact absurd ⟨by decide, by decide, conj_ex1⟩ h.1
  obtain ⟨p27, n27, c27, rfl, s27⟩ := k27.sl
  refine O.mv rfl <| O.ext rfl rfl <| O.ext rfl rfl <| O.as rfl <| O.as rfl <| JO.nil <| J.seq <| J.reg rfl <| O.call rfl (rational_FromInt_ok (z := 1) (by decide)) fun W28 v28 i28 e28 h28 => O.call rfl (rational_Valid_ok h28 (by decide +kernel) (by decide +kernel)) fun W29 v29 i29 e29 h29 => ?_
  obtain ⟨b29, rfl, hb29⟩ := h29
  obtain rfl := hb29.2 ⟨_, rfl⟩
  refine O.mv rfl <| O.gt rfl rfl <| O.mv rfl <| O.gt rfl rfl <| O.bs (r := RZ) [1, 1] rfl ⟨rzv _ (by decide), rzv _ (by decide), trivial⟩ rfl rfl rfl (by decide) (.inr rfl) (by decide) fun W30 p30 i30 e30 s30 => O.gt rfl rfl <| O.call rfl (law06_list_ok s30 (by decide)) fun W31 v31 i31 e31 h31 => ?_
  obtain ⟨p31, n31, c31, rfl, s31⟩ := h31.sl
  refine O.gt rfl rfl <| O.bs (r := RZ) [3, -2] rfl ⟨rzv _ (by decide), rzv _ (by decide), trivial⟩ rfl rfl rfl (by decide) (.inr rfl) (by decide) fun W32 p32 i32 e32 s32 => O.gt rfl rfl <| O.call rfl (law06_list_ok s32 (by decide)) fun W33 v33 i33 e33 h33 => ?_
  obtain ⟨p33, n33, c33, rfl, s33⟩ := h33.sl
  refine O.gt rfl rfl <| O.call rfl (tower_Mul_ok (k := 1) (t := w1 2) (a := Go.Proofs.YtcobdnnfmhfenaaGreat.e1 1 1) (b := Go.Proofs.YtcobdnnfmhfenaaGreat.e1 3 (-2)) (r := 33) (s := 33) (s' := 33) s3.to s31.to s33 hT1 sA sD (by decide) (by decide +kernel) (by decide)) fun W34 v34 i34 e34 h34 => ?_
  rw [mul_ex] at h34
  obtain ⟨p34, n34, c34, rfl, s34⟩ := h34.sl
  refine O.gt rfl rfl <| O.bs (r := RZ) [-1, 1] rfl ⟨rzv _ (by decide), rzv _ (by decide), trivial⟩ rfl rfl rfl (by decide) (.inr rfl) (by decide) fun W35 p35 i35 e35 s35 => O.gt rfl rfl <| O.call rfl (law06_list_ok s35 (by decide)) fun W36 v36 i36 e36 h36 => ?_
  obtain ⟨p36, n36, c36, rfl, s36⟩ := h36.sl
  refine O.gt rfl rfl <| O.call rfl (ref06_Same_ok s34.to s36) fun W37 v37 i37 e37 h37 => ?_
  obtain rfl := same_t h37 rfl
  refine O.pickT rfl rfl <| O.mv rfl <| O.gt rfl rfl <| O.mv rfl <| O.gt rfl rfl <| O.eq rfl rfl <| O.set (t := 64) (.bool true) rfl rfl <| O.pickT rfl rfl <| O.mv rfl <| O.gt rfl rfl <| O.mv rfl <| O.gt rfl rfl <| O.bs (r := RZ) [-1, 1] rfl ⟨rzv _ (by decide), rzv _ (by decide), trivial⟩ rfl rfl rfl (by decide) (.inr rfl) (by decide) fun W38 p38 i38 e38 s38 => O.gt rfl rfl <| O.call rfl (law06_list_ok s38 (by decide)) fun W39 v39 i39 e39 h39 => ?_
  obtain ⟨p39, n39, c39, rfl, s39⟩ := h39.sl
  refine O.gt rfl rfl <| O.call rfl (ref06_Same_ok s12.to s39) fun W40 v40 i40 e40 h40 => ?_
  obtain rfl := same_t h40 rfl
  refine O.pickT rfl rfl <| O.mv rfl <| O.gt rfl rfl <| O.mv rfl <| O.gt rfl rfl <| O.eq rfl rfl <| O.set (t := 74) (.bool true) rfl rfl <| O.pickT rfl rfl <| O.mv rfl <| O.gt rfl rfl <| O.mv rfl <| O.gt rfl rfl <| O.not rfl <| O.set (t := 78) (.bool true) rfl rfl <| O.pickT rfl rfl <| O.mv rfl <| O.gt rfl rfl <| O.mv rfl <| O.pickT rfl rfl <| O.mv rfl <| O.gt rfl rfl <| O.mv rfl <| O.gt rfl rfl <| O.bs (r := RZ) [1, 2, -3, -4] rfl ⟨rzv _ (by decide), rzv _ (by decide), rzv _ (by decide), rzv _ (by decide), trivial⟩ rfl rfl rfl (by decide) (.inr rfl) (by decide) fun W41 p41 i41 e41 s41 => O.gt rfl rfl <| O.call rfl (law06_list_ok s41 (by decide)) fun W42 v42 i42 e42 h42 => ?_
  obtain ⟨p42, n42, c42, rfl, s42⟩ := h42.sl
  refine O.gt rfl rfl <| O.call rfl (ref06_Same_ok s27.to s42) fun W43 v43 i43 e43 h43 => ?_
  obtain rfl := same_t h43 rfl
  refine O.pickT rfl rfl <| O.mv rfl <| O.gt rfl rfl <| O.mv rfl <| O.gt rfl rfl <| O.call rfl (tower_Root_ok (k := 2) (t := w2 2 1 1) (i := 1) (r := 33) s8.to hT2 (by decide) (by decide) (by decide)) fun W44 v44 i44 e44 h44 => ?_
  rw [root_ex] at h44
  obtain ⟨p44, n44, c44, rfl, s44⟩ := h44.sl
  refine O.gt rfl rfl <| O.bs (r := RZ) [0, 0, 1, 0] rfl ⟨rzv _ (by decide), rzv _ (by decide), rzv _ (by decide), rzv _ (by decide), trivial⟩ rfl rfl rfl (by decide) (.inr rfl) (by decide) fun W45 p45 i45 e45 s45 => O.gt rfl rfl <| O.call rfl (law06_list_ok s45 (by decide)) fun W46 v46 i46 e46 h46 => ?_
  obtain ⟨p46, n46, c46, rfl, s46⟩ := h46.sl
  refine O.gt rfl rfl <| O.call rfl (ref06_Same_ok s44.to s46) fun W47 v47 i47 e47 h47 => ?_
  obtain rfl := same_t h47 rfl
  refine O.pickT rfl rfl <| O.as rfl <| JO.nil <| J.ret1 rfl (.tmp rfl) fun W' iE iP => ?_
  rfl
end Go.Proofs.YtcobdnnfmhfenaaGreat
