/- The statements about roots: RootAdjoin. -/
import Derived.Test.YtcaikjefkkejbaaGreatQp
set_option linter.unusedVariables false
set_option linter.unusedSimpArgs false
set_option maxRecDepth 10000
set_option maxHeartbeats 4000000
namespace Go.Proofs.YtcaikjefkkejbaaGreat
open Go Go.Rx Go.Num Go.Tow
section
theorem ct_lens {k : Nat} (w : Tw k) (hk : k ≤ 16) : ∀ l ∈ ct (toT k w), l.length ≤ 65536 := fun l hl => by
  obtain ⟨i, hi⟩ := List.getElem?_of_mem hl
  rw [(okT_ct w i l hi).1]
  have hin := (List.getElem?_eq_some_iff.1 hi).1
  rw [ct_length] at hin
  exact pow_le (by omega)
theorem AdjIs.cl {t tout : List (List Raw)} {l out : List Raw} {e : Int} {S : Nat} (h : AdjIs t l tout out e) (ht : SZT S t) (hl : SZR S l) : (∃ ts, tout = ct ts ∧ ∀ xs ∈ ts, Sz S xs) ∧ ∃ xs, out = cl xs := by
  rcases h with ⟨_, rfl, rfl, _⟩ | ⟨k, w, a, rfl, rfl, hw, ⟨_, rfl, rfl, _⟩ | ⟨x, _, _, rfl, rfl, _⟩ | ⟨_, _, rfl, rfl, _⟩⟩
  · exact ⟨⟨[], rfl, fun _ h => nomatch h⟩, [], rfl⟩
  · exact ⟨⟨[], rfl, fun _ h => nomatch h⟩, [], rfl⟩
  · exact ⟨⟨_, rfl, fun xs hx => ht (Go.Proofs.YtcaikjefkkejbaaGreat.cl xs) (List.mem_map.2 ⟨xs, hx, rfl⟩) _ rfl⟩, _, rfl⟩
  · refine ⟨⟨toT (k + 1) (tsn w a), ct_snoc.symm, fun xs hx => ?_⟩, _, rfl⟩
    have hx : xs ∈ toT k w ++ [toL k a] := hx
    rcases List.mem_append.1 hx with hx | hx
    · exact ht (Go.Proofs.YtcaikjefkkejbaaGreat.cl xs) (List.mem_map.2 ⟨xs, hx, rfl⟩) _ rfl
    · rw [List.mem_singleton.1 hx]; exact hl _ rfl
theorem lift0 {k : Nat} {w : Tw k} {a : El k} (hk : k ≤ 8) : LiftIs (ct (toT k w)) (Go.Proofs.YtcaikjefkkejbaaGreat.cl (toL k a)) 0 (Go.Proofs.YtcaikjefkkejbaaGreat.cl (toL k a)) := by
  refine .inl ⟨0, rfl, by rw [ct_length]; omega, okT_ct w, okE_cl (by rw [toL_length, ct_length]), ?_⟩
  rw [Nat.pow_zero, Nat.mul_one, Nat.sub_self, List.replicate_zero, List.append_nil]
theorem lift1 {k : Nat} {w : Tw k} {a : El k} (hk : k ≤ 7) : LiftIs (ct (toT k w)) (Go.Proofs.YtcaikjefkkejbaaGreat.cl (toL k a)) 1 (Go.Proofs.YtcaikjefkkejbaaGreat.cl (toL (k + 1) (up k a))) := by
  refine .inl ⟨1, rfl, by rw [ct_length]; omega, okT_ct w, okE_cl (by rw [toL_length, ct_length]), ?_⟩
  show Go.Proofs.YtcaikjefkkejbaaGreat.cl (toL k a ++ toL k (zero k)) = _
  rw [cl_append, toL_zero, Go.Proofs.YtcaikjefkkejbaaGreat.cl, Go.Proofs.YtcaikjefkkejbaaGreat.cl, List.map_replicate, List.length_map, toL_length]
  congr 2
  omega
theorem AdjIs.fin {t tout : List (List Raw)} {l out : List Raw} (h : AdjIs t l tout out 0) (h3 : t.length ≤ 3) : ∃ (k : Nat) (w : Tw k) (b : El k), tout = ct (toT k w) ∧ out = Go.Proofs.YtcaikjefkkejbaaGreat.cl (toL k b) ∧ red k w ∧ 0 ≤ sgn k w b ∧ t.length ≤ k ∧ k ≤ 4 ∧ LiftIs t l ((k - t.length : Nat) : Int) (Go.Proofs.YtcaikjefkkejbaaGreat.cl (toL k (mul k w b b))) := by
  rcases h with ⟨_, _, _, h0⟩ | ⟨k, w, a, rfl, rfl, hw, ⟨_, _, _, h0⟩ | ⟨x, hx, hx0, rfl, rfl, _⟩ | ⟨h0, hs, rfl, rfl, _⟩⟩
  · cases h0
  · cases h0
  · rw [ct_length] at h3
    refine ⟨k, w, x, rfl, rfl, hw, hx0, by rw [ct_length]; exact Nat.le_refl _, by omega, ?_⟩
    rw [ct_length, Nat.sub_self, hx]
    exact lift0 (by omega)
  · rw [ct_length] at h3
    refine ⟨k + 1, tsn w a, rt1 k, ct_snoc.symm, rfl, red_tsn hw h0 hs, ?_, by rw [ct_length]; omega, by omega, ?_⟩
    · rw [sgn_rt1 (t := tsn w a) (red_real hw)]; decide
    · rw [ct_length, show k + 1 - k = 1 from by omega, rt1_sq]
      exact lift1 (by omega)
def S0 : Nat := sB 1537 3 1537 + 3
theorem S0_v : vB 1537 4 S0 ≤ 8796093022208 := by decide +kernel
theorem S0_w : vB 1537 4 1537 ≤ 8796093022208 := by decide +kernel
theorem S0_b : S0 ≤ 2000000000 := by decide +kernel
theorem S0_ge {n : Nat} (h : n ≤ 3) : sB 1537 n 1537 + 3 ≤ S0 := Nat.add_le_add_right (sB_le 1537 1537 h) 3
theorem cB4 {n : Nat} (h : n ≤ 4) : cB 1537 n ≤ 23070 := by
  have : n = 0 ∨ n = 1 ∨ n = 2 ∨ n = 3 ∨ n = 4 := by omega
  rcases this with rfl | rfl | rfl | rfl | rfl <;> decide
section
variable {W : GW} {p q q2 : Option Addr} {n c m d m2 d2 : Nat} {t : List (List Raw)} {l l2 : List Raw}
theorem law08_RootAdjoin_ok (h : Sl RE W p n c t) (h' : Sl RQ W q m d l) :
    Ok Tryz.prog 10 [.slice p n c, .slice q m d] W fun _ r => r = .bool true := by
  have hn := h.hn
  have hm := h'.hn
  refine Ok.enter Tryz.func10 rfl rfl rfl rfl fun W0 iEn => ?_
  refine J.seq <| J.reg rfl <| O.as rfl <| JO.nil <| J.seq <| J.seq <| J.reg rfl <| ?_
  refine O.call rfl (law08_awake_ok) fun W11 v11 i11 e11 h11 => ?_
  subst h11
  refine O.not rfl <| JO.nil <| J.condF rfl <| J.skip <| J.seq <| J.seq <| J.reg rfl <| O.mv rfl <| O.mv rfl <| O.call rfl (ref08_Small_ok (most := 3) h.to h'.to (by decide)) fun W15 v15 i15 e15 h15 => ?_
  obtain ⟨b, rfl, hb⟩ := h15
  refine O.not rfl <| JO.nil <| J.cond rfl (fun h16 => ?_) (fun h16 => ?_)
  · skip
    refine J.seq <| J.reg rfl <| O.as rfl <| JO.nil <| J.ret1 rfl (.tmp rfl) fun W' iE iP => ?_
    rfl
  · skip
    have hs := hb.1 (by simpa using h16)
    have hs1 := hs.1
    have hs2 := hs.2.1.1
    obtain ⟨tout, out, e, hz⟩ := AdjIs.ex t l
    have B := bds3.le (n := n) (by omega)
    obtain ⟨⟨ts, hts, htsS⟩, xs, hxs⟩ := hz.cl hs.szt hs.2.1.szr
    refine J.skip <| J.seq <| J.reg rfl <| O.mv rfl <| ?_
    refine O.call rfl (law08_copied_ok h.to (by omega) hs.len) fun W19 v19 i19 e19 h19 => ?_
    obtain ⟨p19, m19, c19, rfl, s19⟩ := h19.sl
    obtain rfl : n = m19 := hn.trans s19.hn.symm
    refine O.mv rfl <| ?_
    refine O.call rfl (law08_own_ok h'.to (by omega)) fun W21 v21 i21 e21 h21 => ?_
    obtain ⟨p21, m21, c21, rfl, s21⟩ := h21.sl
    refine O.call rfl (adP B hz s19.to s21.to hs.st hs.2.1.small (by omega) hs.szt hs.2.1.szr) fun W22 v22 i22 e22 h22 => ?_
    obtain ⟨v23, v24, rfl, h23, h24, hS⟩ := h22
    obtain ⟨p23, m23, c23, rfl, s23⟩ := h23.sl
    obtain ⟨p24, m24, c24, rfl, s24⟩ := h24.sl
    refine O.mv rfl <| O.ext rfl rfl <| O.ext rfl rfl <| O.ext rfl rfl <| O.as rfl <| O.as rfl <| O.as rfl <| JO.nil <| J.seq <| J.reg rfl <| O.mv rfl <| O.mv rfl <| O.call rfl (adR B hz h.to h'.to hs.st hs.2.1.small (by omega) hs.szt hs.2.1.szr) fun W29 v29 i29 e29 h29 => ?_
    obtain ⟨v30, v31, rfl, h30, h31, _⟩ := h29
    obtain ⟨p30, m30, c30, rfl, s30⟩ := h30.sl
    obtain ⟨p31, m31, c31, rfl, s31⟩ := h31.sl
    refine O.mv rfl <| O.ext rfl rfl <| O.ext rfl rfl <| O.ext rfl rfl <| O.as rfl <| O.as rfl <| O.as rfl <| JO.nil <| J.seq <| J.seq <| J.reg rfl <| O.mv rfl <| O.mv rfl <| O.ne rfl rfl <| O.mv rfl <| ?_
    by_cases hg36 : e ≠ e
    · skip
      exact absurd rfl hg36 -- done
    · skip
      refine O.set (t := 36) (.bool false) rfl (by simp only [Value.bool.injEq, decide_eq_true_eq, decide_eq_false_iff_not]; omega) <| O.gt rfl rfl <| O.mv rfl <| O.gt rfl rfl <| O.mv rfl <| O.gt rfl rfl <| ?_
      refine O.call rfl (ref08_Towers_ok (S := 1537) (ts := ts) (by rw [← hts]; exact s23.to) (by rw [← hts]; exact s30.to) htsS (by decide)) fun W39 v39 i39 e39 h39 => ?_
      subst h39
      refine O.gt rfl rfl <| O.not rfl <| O.pickF rfl rfl <| O.mv rfl <| O.gt rfl rfl <| O.mv rfl <| O.gt rfl rfl <| O.mv rfl <| O.gt rfl rfl <| ?_
      refine O.call rfl (ref08_Same_ok (S := sB 1537 n 1537 + 3) (xs := xs) (by rw [← hxs]; exact s24.to) (by rw [← hxs]; exact s31.to) (hS _ hxs) (by have := S0_ge (n := n) (by omega); have := S0_b; omega)) fun W45 v45 i45 e45 h45 => ?_
      subst h45
      refine O.gt rfl rfl <| O.not rfl <| O.pickF rfl rfl <| JO.nil <| J.condF rfl <| J.skip <| J.seq <| J.seq <| J.reg rfl <| O.mv rfl <| O.ne rfl rfl <| JO.nil <| J.condD rfl (fun h49 => ?_) (fun h49 => ?_)
      · skip
        refine J.seq <| J.reg rfl <| O.as rfl <| JO.nil <| J.ret1 rfl (.tmp rfl) fun W' iE iP => ?_
        rfl
      · skip
        have he : e = 0 := Classical.byContradiction h49
        subst he
        obtain ⟨k, w, b, rfl, rfl, hw, hb0, hk1, hk4, hL⟩ := hz.fin hs1
        have hR := red_real hw
        have hSt : SZT 1537 (ct (toT k w)) := fun l hl => by
          rw [hts] at hl
          obtain ⟨ys, hy, rfl⟩ := List.mem_map.1 hl
          exact SZR_cl (htsS ys hy)
        have hT := hSt.ts (List.take_of_length_le (l := ct (toT k w)) (by rw [ct_length]; exact Nat.le_refl _))
        have hbS : Sz S0 (toL k b) := (hS _ rfl).mono (S0_ge (by omega))
        have hS0 := S0_b
        have hcB := cB4 hk4
        have hst := small_ct hT (show 1537 ≤ 17592186044416 by decide)
        have hsb := small_cl hbS.qs' (show S0 ≤ 17592186044416 by omega)
        have hlen : ∀ l ∈ ct (toT k w), l.length ≤ 1000000 := fun l hl => Nat.le_trans (ct_lens w (by omega) l hl) (by decide)
        have hm23 : m23 = k := by rw [s23.hn, ct_length]
        have hm24 : m24 = 2 ^ k := by rw [s24.hn, cl_length, toL_length]
        have hp := pow_le (show k ≤ 16 by omega)
        refine J.skip <| J.seq <| J.reg rfl <| O.mv rfl <| ?_
        refine O.call rfl (law08_copied_ok s23.to (by omega) hlen) fun W51 v51 i51 e51 h51 => ?_
        obtain ⟨p51, m51, c51, rfl, s51⟩ := h51.sl
        have hm51 : m51 = k := by rw [s51.hn, ct_length]
        refine O.call rfl ((root_Reduced_ok (N := 3) (r := 1537) s51.to hst (by omega) (by omega) hSt bds3.q1 bds3.v1).eqB (b0 := true) ⟨fun _ => redR_ct.2 hw, fun _ => rfl⟩) fun W52 v52 i52 e52 h52 => ?_
        subst h52
        refine O.mv rfl <| O.gt rfl rfl <| O.mv rfl <| O.gt rfl rfl <| ?_
        refine O.call rfl (law08_copied_ok s23.to (by omega) hlen) fun W55 v55 i55 e55 h55 => ?_
        obtain ⟨p55, m55, c55, rfl, s55⟩ := h55.sl
        have hm55 : m55 = k := by rw [s55.hn, ct_length]
        refine O.gt rfl rfl <| O.mv rfl <| O.gt rfl rfl <| ?_
        refine O.call rfl (law08_own_ok s24.to (by omega)) fun W57 v57 i57 e57 h57 => ?_
        obtain ⟨p57, m57, c57, rfl, s57⟩ := h57.sl
        refine O.gt rfl rfl <| ?_
        refine O.call rfl (sign_Sign_ok (r := 1537) (s := S0) (SgnIs.ct (a := b) hR) s55.to s57.to hst hsb (by omega) (TSR_ct hT) (SZR_cl hbS) (by rw [hm55]; exact Nat.le_trans (vB_le _ _ hk4) S0_w) (by rw [hm55]; exact Nat.le_trans (vB_le _ _ hk4) S0_v)) fun W58 v58 i58 e58 h58 => ?_
        subst h58
        refine O.gt rfl rfl <| O.ge rfl rfl <| O.pickT rfl rfl <| O.mv rfl <| ?_
        by_cases hg61 : sgn k w b ≥ 0
        · skip
          refine O.set (t := 61) (.bool true) rfl (by simp only [Value.bool.injEq, decide_eq_true_eq, decide_eq_false_iff_not]; omega) <| O.gt rfl rfl <| O.mv rfl <| O.gt rfl rfl <| ?_
          refine O.call rfl (law08_copied_ok s23.to (by omega) hlen) fun W63 v63 i63 e63 h63 => ?_
          obtain ⟨p63, m63, c63, rfl, s63⟩ := h63.sl
          refine O.gt rfl rfl <| O.mv rfl <| O.gt rfl rfl <| ?_
          refine O.call rfl (law08_own_ok s24.to (by omega)) fun W65 v65 i65 e65 h65 => ?_
          obtain ⟨p65, m65, c65, rfl, s65⟩ := h65.sl
          refine O.gt rfl rfl <| O.mv rfl <| O.gt rfl rfl <| ?_
          refine O.call rfl (law08_own_ok s24.to (by omega)) fun W67 v67 i67 e67 h67 => ?_
          obtain ⟨p67, m67, c67, rfl, s67⟩ := h67.sl
          refine O.gt rfl rfl <| ?_
          refine O.call rfl (tower_Mul_ok s63.to s65.to s67.to hT hbS hbS (by omega) (by omega) (by omega)) fun W68 v68 i68 e68 h68 => ?_
          obtain ⟨p68, m68, c68, rfl, s68⟩ := h68.sl
          refine O.gt rfl rfl <| O.mv rfl <| O.gt rfl rfl <| ?_
          refine O.call rfl (law08_copied_ok h.to (by omega) hs.len) fun W70 v70 i70 e70 h70 => ?_
          obtain ⟨p70, m70, c70, rfl, s70⟩ := h70.sl
          obtain rfl : n = m70 := hn.trans s70.hn.symm
          refine O.gt rfl rfl <| O.mv rfl <| O.gt rfl rfl <| ?_
          refine O.call rfl (law08_own_ok h'.to (by omega)) fun W72 v72 i72 e72 h72 => ?_
          obtain ⟨p72, m72, c72, rfl, s72⟩ := h72.sl
          refine O.gt rfl rfl <| O.mv rfl <| O.gt rfl rfl <| O.len rfl <| O.gt rfl rfl <| O.mv rfl <| O.gt rfl rfl <| O.len rfl <| O.gt rfl rfl <| O.sb (r := ((k - t.length : Nat) : Int)) rfl rfl ((wI (by omega)).trans (by omega)) <| O.gt rfl rfl <| ?_
          refine O.call rfl (root_Lift_ok hL s70.to s72.to hs.st hs.2.1.small (by omega) (by omega)) fun W78 v78 i78 e78 h78 => ?_
          obtain ⟨p78, m78, c78, rfl, s78⟩ := h78.sl
          refine O.gt rfl rfl <| ?_
          refine O.call rfl (ref08_Same_ok s68.to s78.to (hbS.mul hT hbS) (by omega)) fun W79 v79 i79 e79 h79 => ?_
          subst h79
          refine O.pickT rfl rfl <| O.as rfl <| JO.nil <| J.ret1 rfl (.tmp rfl) fun W' iE iP => ?_
          rfl
        · skip
          exact absurd hb0 hg61 -- done
end
end
section
theorem AdjIs.neg {k : Nat} {w : Tw k} {a : El k} {tout : List (List Raw)} {out : List Raw} {e : Int} (h : AdjIs (ct (toT k w)) (Go.Proofs.YtcaikjefkkejbaaGreat.cl (toL k a)) tout out e) (hw : red k w) (he : e ≠ 0) : e = 7 ∧ sgn k w a < 0 := by
  rcases h with ⟨h1, _⟩ | ⟨j, w', a', e1, e2, _, ⟨h2, _, _, h3⟩ | ⟨x, _, _, _, _, h3⟩ | ⟨_, _, _, _, h3⟩⟩
  · exact absurd ⟨k, w, a, rfl, rfl, hw⟩ h1
  · obtain rfl := ct_inj2 e1
    obtain rfl := toT_inj (ct_inj e1)
    obtain rfl := toL_inj (cl_inj e2)
    exact ⟨h3, h2⟩
  · exact absurd h3 he
  · exact absurd h3 he
theorem lift_list {k : Nat} (y : El k) : Go.Proofs.YtcaikjefkkejbaaGreat.cl (toL k y) ++ List.replicate (2 ^ k * 2 ^ (k + 1 - k) - 2 ^ k) (cq 0) = Go.Proofs.YtcaikjefkkejbaaGreat.cl (toL (k + 1) (up k y)) := by
  show _ = Go.Proofs.YtcaikjefkkejbaaGreat.cl (toL k y ++ toL k (zero k))
  rw [cl_append, toL_zero, Go.Proofs.YtcaikjefkkejbaaGreat.cl, Go.Proofs.YtcaikjefkkejbaaGreat.cl, List.map_replicate]
  congr 2
  rw [show k + 1 - k = 1 from by omega]
  omega
theorem AdjIs.fin2 {n : Nat} {w0 : Tw n} {a : El n} {tout : List (List Raw)} {out : List Raw} (h : AdjIs (ct (toT n w0)) (Go.Proofs.YtcaikjefkkejbaaGreat.cl (toL n a)) tout out 0) : ∃ (k : Nat) (w : Tw k) (b : El k) (L : El n → El k), tout = ct (toT k w) ∧ out = Go.Proofs.YtcaikjefkkejbaaGreat.cl (toL k b) ∧ red k w ∧ 0 ≤ sgn k w b ∧ n ≤ k ∧ k ≤ n + 1 ∧
    (∀ y, Go.Proofs.YtcaikjefkkejbaaGreat.cl (toL n y) ++ List.replicate (2 ^ n * 2 ^ (k - n) - 2 ^ n) (cq 0) = Go.Proofs.YtcaikjefkkejbaaGreat.cl (toL k (L y))) ∧ (∀ y z, L (mul n w0 y z) = mul k w (L y) (L z)) ∧ mul k w b b = L a ∧ ∀ s y, Sz s (toL n y) → Sz (s + 1) (toL k (L y)) := by
  rcases h with ⟨_, _, _, h0⟩ | ⟨k, w, a', e1, e2, hw, ⟨_, _, _, h0⟩ | ⟨x, hx, hx0, rfl, rfl, _⟩ | ⟨h0, hs, rfl, rfl, _⟩⟩
  · cases h0
  · cases h0
  · obtain rfl := ct_inj2 e1
    obtain rfl := toT_inj (ct_inj e1)
    obtain rfl := toL_inj (cl_inj e2)
    refine ⟨n, w0, x, id, rfl, rfl, hw, hx0, Nat.le_refl _, Nat.le_succ _, fun y => ?_, fun y z => rfl, hx, fun s y h => h.mono (Nat.le_succ s)⟩
    rw [Nat.sub_self, Nat.pow_zero, Nat.mul_one, Nat.sub_self, List.replicate_zero, List.append_nil]; rfl
  · obtain rfl := ct_inj2 e1
    obtain rfl := toT_inj (ct_inj e1)
    obtain rfl := toL_inj (cl_inj e2)
    refine ⟨n + 1, tsn w0 a, rt1 n, up n, ct_snoc.symm, rfl, red_tsn hw h0 hs, ?_, Nat.le_succ _, Nat.le_refl _, lift_list, fun y z => (mul_up n (tsn w0 a) y z).symm, rt1_sq, fun s y h => up_sz h⟩
    rw [sgn_rt1 (t := tsn w0 a) (red_real hw)]; decide
theorem S1_b : sB 1537 3 30000 + 3 ≤ 1000000000000 := by decide +kernel
section
variable {W : GW} {p q q2 : Option Addr} {n c m d m2 d2 : Nat} {t : List (List Raw)} {l l2 : List Raw}
theorem law08_RootTwice_ok (h : Sl RE W p n c t) (h' : Sl RQ W q m d l) (h2 : Sl RQ W q2 m2 d2 l2) :
    Ok Tryz.prog 9 [.slice p n c, .slice q m d, .slice q2 m2 d2] W fun _ r => r = .bool true := by
  have hn := h.hn
  have hm := h'.hn
  have hm2 := h2.hn
  refine Ok.enter Tryz.func9 rfl rfl rfl rfl fun W0 iEn => ?_
  refine J.seq <| J.reg rfl <| O.as rfl <| JO.nil <| J.seq <| J.seq <| J.reg rfl <| ?_
  refine O.call rfl (law08_awake_ok) fun W18 v18 i18 e18 h18 => ?_
  subst h18
  refine O.not rfl <| JO.nil <| J.condF rfl <| J.skip <| J.seq <| J.seq <| J.reg rfl <| O.mv rfl <| O.len rfl <| O.gtr rfl rfl <| O.mv rfl <| ?_
  by_cases hg23 : n > 2
  · skip
    refine O.set (t := 23) (.bool true) rfl (by simp only [Value.bool.injEq, decide_eq_true_eq, decide_eq_false_iff_not]; omega) <| O.gs rfl rfl rfl <| O.gs rfl rfl rfl <| O.gs rfl rfl rfl <| O.gs rfl rfl rfl <| O.gs rfl rfl rfl <| O.gs rfl rfl rfl <| O.pickT rfl rfl <| JO.nil <| J.condT rfl <| J.seq <| J.reg rfl <| O.as rfl <| JO.nil <| J.ret1 rfl (.tmp rfl) fun W' iE iP => ?_
    rfl
  · skip
    refine O.set (t := 23) (.bool false) rfl (by simp only [Value.bool.injEq, decide_eq_true_eq, decide_eq_false_iff_not]; omega) <| O.gt rfl rfl <| O.mv rfl <| O.gt rfl rfl <| O.mv rfl <| O.gt rfl rfl <| O.mv rfl <| O.gt rfl rfl <| O.bs (r := RE) [l, l2] rfl ⟨h'.to.v, h2.to.v, trivial⟩ rfl rfl rfl (by decide) (.inr rfl) (by decide) fun W27 p27 i27 e27 s27 => O.gt rfl rfl <| O.call rfl (law08_right_ok h.to s27.to (by simp)) fun W28 v28 i28 e28 h28 => ?_
    obtain ⟨b, rfl, hb⟩ := h28
    refine O.gt rfl rfl <| O.not rfl <| O.pickF rfl rfl <| JO.nil <| J.cond rfl (fun h30 => ?_) (fun h30 => ?_)
    · skip
      refine J.seq <| J.reg rfl <| O.as rfl <| JO.nil <| J.ret1 rfl (.tmp rfl) fun W' iE iP => ?_
      rfl
    · skip
      have hg := hb.1 (by simpa using h30)
      have hs := (hg.1 l (by simp)).1
      have hs2 := (hg.1 l2 (by simp)).1
      have hk2 := (hg.1 l2 (by simp)).2.2
      obtain ⟨k0, w0, a, rfl, rfl, hw0, hk⟩ := hg.ex
      rw [ct_length] at hn hk2
      subst hn
      obtain ⟨x, rfl⟩ := okE_typed hk2
      have hTs := hs.szt.ts (List.take_of_length_le (l := ct (toT n w0)) (by rw [ct_length]; exact Nat.le_refl _))
      have haS := hs.2.1.szr _ rfl
      have hxS := hs2.2.1.szr _ rfl
      have B := bds3.le hk
      have hcB := cB_le3 hk
      have hlen1 := hs.2.1.1
      have hlen2 := hs2.2.1.1
      rw [cl_length, toL_length] at hm
      have hp2 : 2 ^ n ≤ 4 := Nat.pow_le_pow_right (n := 2) (by decide) (show n ≤ 2 by omega)
      obtain ⟨tout, out, e, hz⟩ := AdjIs.ex (ct (toT n w0)) (cl (toL n a))
      refine J.skip <| J.seq <| J.reg rfl <| O.mv rfl <| ?_
      refine O.call rfl (law08_copied_ok h.to (by omega) hs.len) fun W33 v33 i33 e33 h33 => ?_
      obtain ⟨p33, m33, c33, rfl, s33⟩ := h33.sl
      obtain rfl : n = m33 := by rw [s33.hn, ct_length]
      refine O.mv rfl <| ?_
      refine O.call rfl (law08_own_ok h'.to (by omega)) fun W35 v35 i35 e35 h35 => ?_
      obtain ⟨p35, m35, c35, rfl, s35⟩ := h35.sl
      refine O.call rfl (adP B hz s33.to s35.to hs.st hs.2.1.small (by omega) hs.szt hs.2.1.szr) fun W36 v36 i36 e36 h36 => ?_
      obtain ⟨v37, v38, rfl, h37, h38, hS⟩ := h36
      obtain ⟨p37, m37, c37, rfl, s37⟩ := h37.sl
      obtain ⟨p38, m38, c38, rfl, s38⟩ := h38.sl
      refine O.mv rfl <| O.ext rfl rfl <| O.ext rfl rfl <| O.ext rfl rfl <| O.as rfl <| O.as rfl <| O.as rfl <| JO.nil <| J.seq <| J.seq <| J.reg rfl <| O.mv rfl <| O.ne rfl rfl <| JO.nil <| J.condD rfl (fun h41 => ?_) (fun h41 => ?_)
      · skip
        obtain ⟨rfl, hneg⟩ := hz.neg hw0 h41
        refine J.seq <| J.reg rfl <| O.mv rfl <| O.eq rfl rfl <| O.mv rfl <| O.gt rfl rfl <| O.mv rfl <| O.gt rfl rfl <| O.mv rfl <| O.gt rfl rfl <| ?_
        refine O.call rfl (ref07_Sign_ok (r := 1537) (s := 1537) (SgnIs.ct (a := a) (red_real hw0)) h.to h'.to hs.st hs.2.1.small (by omega) (TSR_ct hTs) (SZR_cl haS) B.v1 B.v3) fun W47 v47 i47 e47 h47 => ?_
        subst h47
        refine O.gt rfl rfl <| O.lt rfl rfl <| O.pickT rfl rfl <| O.as rfl <| JO.nil <| J.ret1 rfl (.tmp rfl) fun W' iE iP => ?_
        rw [decide_eq_true hneg]
      · skip
        obtain rfl : 0 = e := (Classical.byContradiction h41 : e = 0).symm
        obtain ⟨⟨ts, hts, htsS⟩, _⟩ := hz.cl hs.szt hs.2.1.szr
        obtain ⟨k, w, b, L, rfl, rfl, hw, hb0, hk1, hk3, hLl, hLm, hbb, hLS⟩ := hz.fin2
        have hR := red_real hw
        have hSt : SZT 1537 (ct (toT k w)) := fun l hl => by
          rw [hts] at hl
          obtain ⟨ys, hy, rfl⟩ := List.mem_map.1 hl
          exact SZR_cl (htsS ys hy)
        have htsw : ∀ xs ∈ toT k w, Sz 1537 xs := by rw [ct_inj hts]; exact htsS
        have hT := hSt.ts (List.take_of_length_le (l := ct (toT k w)) (by rw [ct_length]; exact Nat.le_refl _))
        have hst := small_ct hT (show 1537 ≤ 17592186044416 by decide)
        have hlenU : ∀ l ∈ ct (toT k w), l.length ≤ 1000000 := fun l hl => Nat.le_trans (ct_lens w (by omega) l hl) (by decide)
        have hm37 : m37 = k := by rw [s37.hn, ct_length]
        have BM := bdsM.le (show k ≤ 3 by omega)
        have hcBk := cB_le3 (show k ≤ 3 by omega)
        have hpk := pow_le (show k ≤ 16 by omega)
        have hps : 2 ^ (k - n) ≤ 2 := Nat.pow_le_pow_right (n := 2) (by decide) (show k - n ≤ 1 by omega)
        have hmp : ∀ y, y ≤ 4 → y * 2 ^ (k - n) ≤ 8 := fun y hy => Nat.mul_le_mul hy hps
        have hLaS := (hLS _ _ haS).mono (show 1537 + 1 ≤ 30000 by decide)
        have hPS0 := (haS.mul hTs (hxS.mul hTs hxS))
        have hPS := (hLS _ _ hPS0).mono (show 1537 + (1537 + 1537 + cB 1537 n) + cB 1537 n + 1 ≤ 30000 by omega)
        have hz2 : AdjIs (ct (toT k w)) (cl (toL k (L a))) (ct (toT k w)) (cl (toL k b)) 0 := .inr ⟨k, w, L a, rfl, rfl, hw, .inr (.inl ⟨b, hbb, hb0, rfl, rfl, rfl⟩)⟩
        have hD : mul k w (absE k w (mul k w b (L x))) (absE k w (mul k w b (L x))) = L (mul n w0 a (mul n w0 x x)) := by
          rw [absE_sq, mul_sq, hbb, hLm, hLm]
        have hz3 : AdjIs (ct (toT k w)) (cl (toL k (L (mul n w0 a (mul n w0 x x))))) (ct (toT k w)) (cl (toL k (absE k w (mul k w b (L x))))) 0 := .inr ⟨k, w, _, rfl, rfl, hw, .inr (.inl ⟨_, hD, absE_nn hR _, rfl, rfl, rfl⟩)⟩
        refine J.skip <| J.seq <| J.seq <| J.reg rfl <| O.mv rfl <| O.len rfl <| O.mv rfl <| O.len rfl <| O.lt rfl rfl <| O.mv rfl <| ?_
        by_cases hg55 : m37 < n
        · skip
          omega -- done
        · skip
          refine O.set (t := 55) (.bool false) rfl (by simp only [Value.bool.injEq, decide_eq_true_eq, decide_eq_false_iff_not]; omega) <| O.gt rfl rfl <| O.mv rfl <| O.gt rfl rfl <| O.len rfl <| O.gt rfl rfl <| O.mv rfl <| O.gt rfl rfl <| O.len rfl <| O.gt rfl rfl <| O.add (r := (n : Int) + 1) rfl rfl (wI (by omega)) <| O.gt rfl rfl <| O.gtr rfl rfl <| O.pickF rfl rfl <| JO.nil <| J.condD rfl (fun h62 => ?_) (fun h62 => ?_)
          · skip
            omega -- done
          · skip
            refine J.skip <| J.seq <| J.reg rfl <| O.mv rfl <| O.len rfl <| O.mv rfl <| O.len rfl <| O.sb (r := ((k - n : Nat) : Int)) rfl rfl ((wI (by omega)).trans (by omega)) <| O.as rfl <| JO.nil <| J.seq <| J.reg rfl <| O.mv rfl <| ?_
            refine O.call rfl (law08_copied_ok s37.to (by omega) hlenU) fun W70 v70 i70 e70 h70 => ?_
            obtain ⟨p70, m70, c70, rfl, s70⟩ := h70.sl
            have hm70 : m70 = k := by rw [s70.hn, ct_length]
            refine O.mv rfl <| O.mv rfl <| ?_
            refine O.call rfl (ref08_Longer_ok (s := k - n) h'.to (by omega) (by omega) (Nat.le_trans (hmp m (by omega)) (by decide))) fun W73 v73 i73 e73 h73 => ?_
            obtain ⟨p73, m73, c73, rfl, s73⟩ := h73.sl
            rw [hm, hLl] at s73
            refine O.call rfl (adP (by rw [hm70]; exact BM) hz2 s70.to s73.to hst (small_cl hLaS.qs' (by decide)) (by omega) hSt (SZR_cl hLaS)) fun W74 v74 i74 e74 h74 => ?_
            obtain ⟨v75, v76, rfl, h75, h76, hS2⟩ := h74
            obtain ⟨p75, m75, c75, rfl, s75⟩ := h75.sl
            obtain ⟨p76, m76, c76, rfl, s76⟩ := h76.sl
            refine O.mv rfl <| O.ext rfl rfl <| O.ext rfl rfl <| O.ext rfl rfl <| O.as rfl <| O.as rfl <| O.as rfl <| JO.nil <| J.seq <| J.reg rfl <| O.mv rfl <| O.mv rfl <| O.mv rfl <| O.mv rfl <| O.mv rfl <| ?_
            refine O.call rfl ((ref06_Mul_own h.to h2.to h2.to hTs hxS hxS (by omega) (by omega)).own) fun W83 v83 i83 e83 h83 => ?_
            obtain ⟨p83, m83, c83, rfl, s83⟩ := h83.sl
            refine O.call rfl ((ref06_Mul_own h.to h'.to s83.to hTs haS (hxS.mul hTs hxS) (by omega) (by omega)).own) fun W84 v84 i84 e84 h84 => ?_
            obtain ⟨p84, m84, c84, rfl, s84⟩ := h84.sl
            have hm84 : m84 = 2 ^ n := by rw [s84.hn, cl_length, toL_length]
            refine O.mv rfl <| ?_
            refine O.call rfl (ref08_Longer_ok (s := k - n) s84.to (by omega) (by omega) (Nat.le_trans (hmp m84 (by omega)) (by decide))) fun W86 v86 i86 e86 h86 => ?_
            obtain ⟨p86, m86, c86, rfl, s86⟩ := h86.sl
            rw [hm84, hLl] at s86
            refine O.as rfl <| JO.nil <| J.seq <| J.reg rfl <| O.mv rfl <| ?_
            refine O.call rfl (law08_copied_ok s37.to (by omega) hlenU) fun W89 v89 i89 e89 h89 => ?_
            obtain ⟨p89, m89, c89, rfl, s89⟩ := h89.sl
            have hm89 : m89 = k := by rw [s89.hn, ct_length]
            refine O.mv rfl <| O.call rfl (adP (by rw [hm89]; exact BM) hz3 s89.to s86.to hst (small_cl hPS.qs' (by decide)) (by omega) hSt (SZR_cl hPS)) fun W91 v91 i91 e91 h91 => ?_
            obtain ⟨v92, v93, rfl, h92, h93, hS3⟩ := h91
            obtain ⟨p92, m92, c92, rfl, s92⟩ := h92.sl
            obtain ⟨p93, m93, c93, rfl, s93⟩ := h93.sl
            have hS1 := S1_b
            have hdS : Sz (sB 1537 3 30000 + 3) (toL k (absE k w (mul k w b (L x)))) := (hS3 _ rfl).mono (by rw [hm89]; exact Nat.add_le_add_right (sB_le 1537 30000 (show k ≤ 3 by omega)) 3)
            refine O.mv rfl <| O.ext rfl rfl <| O.ext rfl rfl <| O.ext rfl rfl <| O.as rfl <| O.as rfl <| O.as rfl <| JO.nil <| J.seq <| J.seq <| J.reg rfl <| O.mv rfl <| O.ne rfl rfl <| O.mv rfl <| O.gt rfl rfl <| O.mv rfl <| O.gt rfl rfl <| O.ne rfl rfl <| O.pickF rfl rfl <| O.mv rfl <| O.gt rfl rfl <| O.mv rfl <| O.gt rfl rfl <| O.mv rfl <| O.gt rfl rfl <| ?_
            refine O.call rfl (ref08_Towers_ok (S := 1537) (ts := toT k w) s37.to s75.to htsw (by decide)) fun W104 v104 i104 e104 h104 => ?_
            subst h104
            refine O.gt rfl rfl <| O.not rfl <| O.pickF rfl rfl <| O.mv rfl <| O.gt rfl rfl <| O.mv rfl <| O.gt rfl rfl <| O.mv rfl <| O.gt rfl rfl <| ?_
            refine O.call rfl (ref08_Towers_ok (S := 1537) (ts := toT k w) s37.to s92.to htsw (by decide)) fun W110 v110 i110 e110 h110 => ?_
            subst h110
            refine O.gt rfl rfl <| O.not rfl <| O.pickF rfl rfl <| O.mv rfl <| O.gt rfl rfl <| O.mv rfl <| O.gt rfl rfl <| O.mv rfl <| O.gt rfl rfl <| ?_
            refine O.call rfl (ref08_Same_ok s38.to s76.to (hS _ rfl) (by have := S0_ge (n := n) (by omega); have := S0_b; omega)) fun W116 v116 i116 e116 h116 => ?_
            subst h116
            refine O.gt rfl rfl <| O.not rfl <| O.pickF rfl rfl <| JO.nil <| J.condF rfl <| J.skip <| J.seq <| J.reg rfl <| ?_
            have hm93 : m93 = 2 ^ k := by rw [s93.hn, cl_length, toL_length]
            refine O.mv rfl <| ?_
            refine O.call rfl (law08_copied_ok s37.to (by omega) hlenU) fun W120 v120 i120 e120 h120 => ?_
            obtain ⟨p120, m120, c120, rfl, s120⟩ := h120.sl
            refine O.mv rfl <| ?_
            refine O.call rfl (law08_own_ok s93.to (by omega)) fun W122 v122 i122 e122 h122 => ?_
            obtain ⟨p122, m122, c122, rfl, s122⟩ := h122.sl
            refine O.mv rfl <| ?_
            refine O.call rfl (law08_own_ok s93.to (by omega)) fun W124 v124 i124 e124 h124 => ?_
            obtain ⟨p124, m124, c124, rfl, s124⟩ := h124.sl
            refine O.call rfl (tower_Mul_ok s120.to s122.to s124.to hT hdS hdS (by omega) (by omega) (by omega)) fun W125 v125 i125 e125 h125 => ?_
            obtain ⟨p125, m125, c125, rfl, s125⟩ := h125.sl
            refine O.mv rfl <| ?_
            refine O.call rfl (ref08_Same_ok (xs := toL k (L (mul n w0 a (mul n w0 x x)))) (by rw [← hD]; exact s125.to) s86.to hPS (by decide)) fun W127 v127 i127 e127 h127 => ?_
            subst h127
            refine O.as rfl <| JO.nil <| J.ret1 rfl (.tmp rfl) fun W' iE iP => ?_
            rfl
end
end
end Go.Proofs.YtcaikjefkkejbaaGreat
