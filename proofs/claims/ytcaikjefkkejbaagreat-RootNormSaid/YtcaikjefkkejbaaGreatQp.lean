/- The statements about roots: RootSquare, RootOfSquare, RootReduced. -/
import Derived.Test.YtcaikjefkkejbaaGreatQm
import Derived.Test.YtcaikjefkkejbaaGreatUa
set_option linter.unusedVariables false
set_option linter.unusedSimpArgs false
set_option maxRecDepth 10000
set_option maxHeartbeats 4000000
namespace Go.Proofs.YtcaikjefkkejbaaGreat
open Go Go.Rx Go.Num Go.Tow
section
theorem SqIs.cl {t : List (List Raw)} {l out : List Raw} {b : Bool} (h : SqIs t l b out) : ∃ xs, out = cl xs := by
  rcases h with ⟨k, w, a, x, _, _, _, _, _, _, rfl⟩ | ⟨_, _, rfl⟩
  · exact ⟨_, rfl⟩
  · exact ⟨[], rfl⟩
theorem SqIs.iff {k : Nat} {w : Tw k} {a : El k} {b : Bool} {out : List Raw} (h : SqIs (ct (toT k w)) (Go.Proofs.YtcaikjefkkejbaaGreat.cl (toL k a)) b out) (hw : red k w) : b = true ↔ isSq k w a := by
  rcases h with ⟨j, w', a', x, e1, e2, _, h4, _, rfl, _⟩ | ⟨h1, rfl, _⟩
  · obtain rfl := ct_inj2 e1
    obtain rfl := toT_inj (ct_inj e1)
    obtain rfl := toL_inj (cl_inj e2)
    exact ⟨fun _ => ⟨x, h4⟩, fun _ => rfl⟩
  · exact ⟨fun e => (nomatch e), fun e => absurd ⟨k, w, a, rfl, rfl, hw, e⟩ h1⟩
theorem good3.ex {t : List (List Raw)} {l : List Raw} {ls : List (List Raw)} (h : good3 t (l :: ls)) : ∃ (k : Nat) (w : Tw k) (a : El k), t = ct (toT k w) ∧ l = cl (toL k a) ∧ red k w ∧ k ≤ 3 := by
  obtain ⟨h1, h2, h3⟩ := h.1 l (List.mem_cons_self ..)
  obtain ⟨k, w, a, rfl, rfl, hw⟩ := okT_redR h2 h3 h.2
  have := h1.1
  rw [ct_length] at this
  exact ⟨k, w, a, rfl, rfl, hw, this⟩
theorem small3.len {t : List (List Raw)} {l : List Raw} {m : Nat} (h : small3 t l m) : ∀ l ∈ t, l.length ≤ 1000000 := fun r hr => Nat.le_trans (h.2.2 r hr).1 (by decide)
theorem cB_le3 {n : Nat} (h : n ≤ 3) : cB 1537 n ≤ 10766 := by
  have : n = 0 ∨ n = 1 ∨ n = 2 ∨ n = 3 := by omega
  rcases this with rfl | rfl | rfl | rfl <;> decide
theorem bdsM : Bds 1537 30000 3 := ⟨by decide +kernel, by decide +kernel, by decide +kernel, by decide +kernel, by decide +kernel, by decide +kernel, by decide +kernel⟩
section
variable {W : GW} {p q : Option Addr} {n c m d : Nat} {t : List (List Raw)} {l : List Raw}
theorem law08_RootSquare_ok (h : Sl RE W p n c t) (h' : Sl RQ W q m d l) :
    Ok Tryz.prog 3 [.slice p n c, .slice q m d] W fun _ r => r = .bool true := by
  have hn := h.hn
  have hm := h'.hn
  refine Ok.enter Tryz.func3 rfl rfl rfl rfl fun W0 iEn => ?_
  refine J.seq <| J.reg rfl <| O.as rfl <| JO.nil <| J.seq <| J.seq <| J.reg rfl <| ?_
  refine O.call rfl (law08_awake_ok) fun W9 v9 i9 e9 h9 => ?_
  subst h9
  refine O.not rfl <| JO.nil <| J.condF rfl <| J.skip <| J.seq <| J.seq <| J.reg rfl <| O.mv rfl <| O.mv rfl <| O.call rfl (ref08_Small_ok (most := 3) h.to h'.to (by decide)) fun W13 v13 i13 e13 h13 => ?_
  obtain ⟨b, rfl, hb⟩ := h13
  refine O.not rfl <| JO.nil <| J.cond rfl (fun h14 => ?_) (fun h14 => ?_)
  · skip
    refine J.seq <| J.reg rfl <| O.as rfl <| JO.nil <| J.ret1 rfl (.tmp rfl) fun W' iE iP => ?_
    rfl
  · skip
    have hs := hb.1 (by simpa using h14)
    have hs1 := hs.1
    have hs2 := hs.2.1.1
    obtain ⟨b0, out, hz⟩ := SqIs.ex t l
    have B := bds3.le (n := n) (by omega)
    refine J.skip <| J.seq <| J.reg rfl <| O.mv rfl <| ?_
    refine O.call rfl (law08_copied_ok h.to (by omega) hs.len) fun W17 v17 i17 e17 h17 => ?_
    obtain ⟨p17, m17, c17, rfl, s17⟩ := h17.sl
    obtain rfl : n = m17 := hn.trans s17.hn.symm
    refine O.mv rfl <| ?_
    refine O.call rfl (law08_own_ok h'.to (by omega)) fun W19 v19 i19 e19 h19 => ?_
    obtain ⟨p19, m19, c19, rfl, s19⟩ := h19.sl
    refine O.call rfl (sqP B hz s17.to s19.to hs.st hs.2.1.small (by omega) hs.szt hs.2.1.szr) fun W20 v20 i20 e20 h20 => ?_
    obtain ⟨v21, rfl, h21, hS⟩ := h20
    obtain ⟨xs, rfl⟩ := hz.cl
    obtain ⟨p21, m21, c21, rfl, s21⟩ := h21.sl
    refine O.mv rfl <| O.ext rfl rfl <| O.ext rfl rfl <| O.as rfl <| O.as rfl <| JO.nil <| J.seq <| J.reg rfl <| O.mv rfl <| O.mv rfl <| O.call rfl (sqR B hz h.to h'.to hs.st hs.2.1.small (by omega) hs.szt hs.2.1.szr) fun W26 v26 i26 e26 h26 => ?_
    obtain ⟨v27, rfl, h27, _⟩ := h26
    obtain ⟨p27, m27, c27, rfl, s27⟩ := h27.sl
    refine O.mv rfl <| O.ext rfl rfl <| O.ext rfl rfl <| O.as rfl <| O.as rfl <| JO.nil <| J.seq <| ?_
    cases b0
    · skip
      refine J.reg rfl <| O.mv rfl <| O.mv rfl <| O.beq rfl rfl <| O.mv rfl <| O.gt rfl rfl <| O.mv rfl <| O.gt rfl rfl <| O.mv rfl <| O.gt rfl rfl <| ?_
      refine O.call rfl (ref08_Same_ok s21.to s27.to (hS _ rfl) (Nat.le_trans (vB_ge n _) B.v2)) fun W35 v35 i35 e35 h35 => ?_
      subst h35
      refine O.pickT rfl rfl <| O.as rfl <| JO.nil <| J.ret1 rfl (.tmp rfl) fun W' iE iP => ?_
      rfl
    · skip
      refine J.reg rfl <| O.mv rfl <| O.mv rfl <| O.beq rfl rfl <| O.mv rfl <| O.gt rfl rfl <| O.mv rfl <| O.gt rfl rfl <| O.mv rfl <| O.gt rfl rfl <| ?_
      refine O.call rfl (ref08_Same_ok s21.to s27.to (hS _ rfl) (Nat.le_trans (vB_ge n _) B.v2)) fun W35 v35 i35 e35 h35 => ?_
      subst h35
      refine O.pickT rfl rfl <| O.as rfl <| JO.nil <| J.ret1 rfl (.tmp rfl) fun W' iE iP => ?_
      rfl
theorem law08_RootOfSquare_ok (h : Sl RE W p n c t) (h' : Sl RQ W q m d l) :
    Ok Tryz.prog 4 [.slice p n c, .slice q m d] W fun _ r => r = .bool true := by
  have hn := h.hn
  have hm := h'.hn
  refine Ok.enter Tryz.func4 rfl rfl rfl rfl fun W0 iEn => ?_
  refine J.seq <| J.reg rfl <| O.as rfl <| JO.nil <| J.seq <| J.seq <| J.reg rfl <| ?_
  refine O.call rfl (law08_awake_ok) fun W8 v8 i8 e8 h8 => ?_
  subst h8
  refine O.not rfl <| JO.nil <| J.condF rfl <| J.skip <| J.seq <| J.seq <| J.reg rfl <| O.mv rfl <| O.mv rfl <| O.bs (r := RE) [l] rfl ⟨h'.to.v, trivial⟩ rfl rfl rfl (by decide) (.inr rfl) (by decide) fun W12 p12 i12 e12 s12 => O.call rfl (law08_right_ok h.to s12.to (by simp)) fun W13 v13 i13 e13 h13 => ?_
  obtain ⟨b, rfl, hb⟩ := h13
  refine O.not rfl <| JO.nil <| J.cond rfl (fun h14 => ?_) (fun h14 => ?_)
  · skip
    refine J.seq <| J.reg rfl <| O.as rfl <| JO.nil <| J.ret1 rfl (.tmp rfl) fun W' iE iP => ?_
    rfl
  · skip
    have hg := hb.1 (by simpa using h14)
    have hs := (hg.1 l (by simp)).1
    obtain ⟨k, w, a, rfl, rfl, hw, hk⟩ := hg.ex
    rw [ct_length] at hn
    subst hn
    have hTs := hs.szt.ts (List.take_of_length_le (l := ct (toT n w)) (by rw [ct_length]; exact Nat.le_refl _))
    have haS := hs.2.1.szr _ rfl
    have B := bds3.le hk
    have BM := bdsM.le hk
    have hcB := cB_le3 hk
    have hR := red_real hw
    have hz : SqIs (ct (toT n w)) (cl (toL n (mul n w a a))) true (cl (toL n (absE n w a))) := .inl ⟨n, w, _, _, rfl, rfl, hw, absE_sq a, absE_nn hR a, rfl, rfl⟩
    have hpn := pow_le (show n ≤ 16 by omega)
    refine J.skip <| J.seq <| J.reg rfl <| O.mv rfl <| O.as rfl <| JO.nil <| J.seq <| J.seq <| J.reg rfl <| O.mv rfl <| O.mv rfl <| ?_
    refine O.call rfl (ref07_Sign_ok (r := 1537) (s := 1537) (SgnIs.ct (a := a) hR) h.to h'.to hs.st hs.2.1.small (by omega) (TSR_ct hTs) (SZR_cl haS) B.v1 B.v3) fun W18 v18 i18 e18 h18 => ?_
    subst h18
    refine O.lt rfl rfl <| JO.nil <| J.condD rfl (fun h19 => ?_) (fun h19 => ?_)
    · skip
      refine J.reg rfl <| O.mv rfl <| O.mv rfl <| ?_
      refine O.call rfl ((ref06_Neg_own h'.to (by rw [hm, cl_length, toL_length]; omega)).own) fun W22 v22 i22 e22 h22 => ?_
      obtain ⟨p22, m22, c22, rfl, s22⟩ := h22.sl
      refine O.as rfl <| JO.nil <| J.seq <| J.reg rfl <| O.mv rfl <| ?_
      refine O.call rfl (law08_copied_ok h.to (by omega) hs.len) fun W25 v25 i25 e25 h25 => ?_
      obtain ⟨p25, m25, c25, rfl, s25⟩ := h25.sl
      obtain rfl : n = m25 := by rw [s25.hn, ct_length]
      refine O.mv rfl <| O.mv rfl <| O.mv rfl <| ?_
      refine O.call rfl ((ref06_Mul_own h.to h'.to h'.to hTs haS haS (by omega) (by omega)).own) fun W29 v29 i29 e29 h29 => ?_
      obtain ⟨p29, m29, c29, rfl, s29⟩ := h29.sl
      have haaS := (haS.mul hTs haS).mono (show 1537 + 1537 + cB 1537 n ≤ 30000 by omega)
      refine O.call rfl (sqP BM hz s25.to s29.to hs.st (small_cl haaS.qs' (by decide)) (by omega) hs.szt (SZR_cl haaS)) fun W30 v30 i30 e30 h30 => ?_
      obtain ⟨v31, rfl, h31, hS⟩ := h30
      obtain ⟨p31, m31, c31, rfl, s31⟩ := h31.sl
      refine O.mv rfl <| O.ext rfl rfl <| O.ext rfl rfl <| O.as rfl <| O.as rfl <| JO.nil <| J.seq <| J.reg rfl <| O.mv rfl <| O.mv rfl <| O.gt rfl rfl <| O.mv rfl <| O.gt rfl rfl <| O.mv rfl <| O.gt rfl rfl <| ?_
      refine O.call rfl (ref08_Same_ok s31.to (show Sl RQ _ _ _ _ (cl (toL n (absE n w a))) by rw [absE, if_pos h19, toL_neg]; exact s22.to) (hS _ rfl) (Nat.le_trans (vB_ge n _) BM.v2)) fun W37 v37 i37 e37 h37 => ?_
      subst h37
      refine O.pickT rfl rfl <| O.as rfl <| JO.nil <| J.ret1 rfl (.tmp rfl) fun W' iE iP => ?_
      rfl
    · skip
      refine J.skip <| J.seq <| J.reg rfl <| O.mv rfl <| ?_
      refine O.call rfl (law08_copied_ok h.to (by omega) hs.len) fun W25 v25 i25 e25 h25 => ?_
      obtain ⟨p25, m25, c25, rfl, s25⟩ := h25.sl
      obtain rfl : n = m25 := by rw [s25.hn, ct_length]
      refine O.mv rfl <| O.mv rfl <| O.mv rfl <| ?_
      refine O.call rfl ((ref06_Mul_own h.to h'.to h'.to hTs haS haS (by omega) (by omega)).own) fun W29 v29 i29 e29 h29 => ?_
      obtain ⟨p29, m29, c29, rfl, s29⟩ := h29.sl
      have haaS := (haS.mul hTs haS).mono (show 1537 + 1537 + cB 1537 n ≤ 30000 by omega)
      refine O.call rfl (sqP BM hz s25.to s29.to hs.st (small_cl haaS.qs' (by decide)) (by omega) hs.szt (SZR_cl haaS)) fun W30 v30 i30 e30 h30 => ?_
      obtain ⟨v31, rfl, h31, hS⟩ := h30
      obtain ⟨p31, m31, c31, rfl, s31⟩ := h31.sl
      refine O.mv rfl <| O.ext rfl rfl <| O.ext rfl rfl <| O.as rfl <| O.as rfl <| JO.nil <| J.seq <| J.reg rfl <| O.mv rfl <| O.mv rfl <| O.gt rfl rfl <| O.mv rfl <| O.gt rfl rfl <| O.mv rfl <| O.gt rfl rfl <| ?_
      refine O.call rfl (ref08_Same_ok s31.to (show Sl RQ _ _ _ _ (cl (toL n (absE n w a))) by rw [absE, if_neg h19]; exact h'.to) (hS _ rfl) (Nat.le_trans (vB_ge n _) BM.v2)) fun W37 v37 i37 e37 h37 => ?_
      subst h37
      refine O.pickT rfl rfl <| O.as rfl <| JO.nil <| J.ret1 rfl (.tmp rfl) fun W' iE iP => ?_
      rfl
end
end
section
section
variable {W : GW} {p q q2 : Option Addr} {n c m d m2 d2 : Nat} {t : List (List Raw)} {l l2 : List Raw}
theorem law08_RootReduced_ok (h : Sl RE W p n c t) :
    Ok Tryz.prog 5 [.slice p n c] W fun _ r => r = .bool true := by
  have hn := h.hn
  have hcc := h.hc
  have hCC := h.hC
  refine Ok.enter Tryz.func5 rfl rfl rfl rfl fun W0 iEn => ?_
  refine J.seq <| J.reg rfl <| O.as rfl <| JO.nil <| J.seq <| J.seq <| J.reg rfl <| ?_
  refine O.call rfl (law08_awake_ok) fun W3 v3 i3 e3 h3 => ?_
  subst h3
  refine O.not rfl <| JO.nil <| J.condF rfl <| J.skip <| J.seq <| J.seq <| J.reg rfl <| O.mv rfl <| O.call rfl (ref08_Small_ok (most := 4) h.to (nil_sl RQ _ none) (by decide)) fun W6 v6 i6 e6 h6 => ?_
  obtain ⟨b, rfl, hb⟩ := h6
  refine O.not rfl <| O.mv rfl <| ?_
  by_cases hg8 : b = false
  · skip
    refine O.set (t := 8) (.bool true) rfl (by simp [hg8]) <| O.gs rfl rfl rfl <| O.gs rfl rfl rfl <| O.gs rfl rfl rfl <| O.gs rfl rfl rfl <| O.gu rfl rfl <| O.gu rfl rfl <| O.gu rfl rfl <| O.gu rfl rfl <| O.gu rfl rfl <| O.gu rfl rfl <| O.gu rfl rfl <| O.gu rfl rfl <| O.gs rfl rfl rfl <| O.pickT rfl rfl <| JO.nil <| J.condT rfl <| J.seq <| J.reg rfl <| O.as rfl <| JO.nil <| J.ret1 rfl (.tmp rfl) fun W' iE iP => ?_
    rfl
  · skip
    have hs := hb.1 (by simpa using hg8)
    have hs1 := hs.1
    refine O.set (t := 8) (.bool false) rfl (by simp at hg8; simp [hg8]) <| O.gt rfl rfl <| O.mv rfl <| O.gt rfl rfl <| O.len rfl <| O.gt rfl rfl <| O.gtr rfl rfl <| O.gt rfl rfl <| O.mv rfl <| ?_
    by_cases hg12 : n > 0
    · skip
      refine O.set (t := 12) (.bool true) rfl (by simp only [Value.bool.injEq, decide_eq_true_eq, decide_eq_false_iff_not]; omega) <| O.gt rfl rfl <| O.mv rfl <| O.gt rfl rfl <| O.mv rfl <| O.gt rfl rfl <| O.len rfl <| O.gt rfl rfl <| ?_
      have hl : t[n - 1]? = some t[n - 1] := List.getElem?_eq_getElem (by omega)
      refine O.sb (r := ((n - 1 : Nat) : Int)) rfl rfl ((wI (by omega)).trans (by omega)) <| O.gt rfl rfl <| O.iaT (j := (n-1)) rfl rfl rfl h.to hl rfl fun b17 o17 hb17 => O.gt rfl rfl <| ?_
      refine O.ldTs rfl hb17.to.h fun p18 m18 c18 s18 => ?_
      have h18 := s18.v
      refine O.gt rfl rfl <| O.len rfl <| O.gt rfl rfl <| O.gtr rfl rfl <| O.gt rfl rfl <| O.pickT rfl rfl <| O.pickF rfl rfl <| JO.nil <| J.condD rfl (fun h22 => ?_) (fun h22 => ?_)
      · skip
        refine J.seq <| J.reg rfl <| O.as rfl <| JO.nil <| J.ret1 rfl (.tmp rfl) fun W' iE iP => ?_
        rfl
      · skip
        refine J.skip <| J.seq <| ?_
        obtain ⟨b0, hb0⟩ := dec_ex (redR t)
        refine J.reg rfl <| O.mv rfl <| ?_
        refine O.call rfl (law08_copied_ok h.to (by omega) hs.len) fun W24 v24 i24 e24 h24 => ?_
        obtain ⟨p24, m24, c24, rfl, s24⟩ := h24.sl
        obtain rfl : n = m24 := hn.trans s24.hn.symm
        refine O.call rfl ((root_Reduced_ok (N := 3) (r := 1537) s24.to hs.st (by omega) (by omega) hs.szt bds3.q1 bds3.v1).eqB hb0) fun W25 v25 i25 e25 h25 => ?_
        subst h25
        refine O.mv rfl <| ?_
        refine O.call rfl ((ref08_Reduced_ok (N := 3) (r := 1537) h.to hs.st (by omega) (by omega) hs.szt bds3.q1 bds3.v1 bds3.z1).eqB hb0) fun W27 v27 i27 e27 h27 => ?_
        subst h27
        refine O.beq rfl rfl <| O.as rfl <| JO.nil <| J.ret1 rfl (.tmp rfl) fun W' iE iP => ?_
        cases b0 <;> rfl
    · skip
      refine O.set (t := 12) (.bool false) rfl (by simp only [Value.bool.injEq, decide_eq_true_eq, decide_eq_false_iff_not]; omega) <| O.gs rfl rfl rfl <| O.gs rfl rfl rfl <| O.gs rfl rfl rfl <| O.gs rfl rfl rfl <| O.gs rfl rfl rfl <| O.gs rfl rfl rfl <| O.gs rfl rfl rfl <| O.gs rfl rfl rfl <| O.gt rfl rfl <| O.pickF rfl rfl <| O.pickF rfl rfl <| JO.nil <| J.condF rfl <| J.skip <| J.seq <| ?_
      obtain ⟨b0, hb0⟩ := dec_ex (redR t)
      refine J.reg rfl <| O.mv rfl <| ?_
      refine O.call rfl (law08_copied_ok h.to (by omega) hs.len) fun W24 v24 i24 e24 h24 => ?_
      obtain ⟨p24, m24, c24, rfl, s24⟩ := h24.sl
      obtain rfl : n = m24 := hn.trans s24.hn.symm
      refine O.call rfl ((root_Reduced_ok (N := 3) (r := 1537) s24.to hs.st (by omega) (by omega) hs.szt bds3.q1 bds3.v1).eqB hb0) fun W25 v25 i25 e25 h25 => ?_
      subst h25
      refine O.mv rfl <| ?_
      refine O.call rfl ((ref08_Reduced_ok (N := 3) (r := 1537) h.to hs.st (by omega) (by omega) hs.szt bds3.q1 bds3.v1 bds3.z1).eqB hb0) fun W27 v27 i27 e27 h27 => ?_
      subst h27
      refine O.beq rfl rfl <| O.as rfl <| JO.nil <| J.ret1 rfl (.tmp rfl) fun W' iE iP => ?_
      cases b0 <;> rfl
theorem law08_RootProducts_ok (h : Sl RE W p n c t) (h' : Sl RQ W q m d l) (h2 : Sl RQ W q2 m2 d2 l2) :
    Ok Tryz.prog 6 [.slice p n c, .slice q m d, .slice q2 m2 d2] W fun _ r => r = .bool true := by
  have hn := h.hn
  have hm := h'.hn
  have hm2 := h2.hn
  refine Ok.enter Tryz.func6 rfl rfl rfl rfl fun W0 iEn => ?_
  refine J.seq <| J.reg rfl <| O.as rfl <| JO.nil <| J.seq <| J.seq <| J.reg rfl <| ?_
  refine O.call rfl (law08_awake_ok) fun W11 v11 i11 e11 h11 => ?_
  subst h11
  refine O.not rfl <| JO.nil <| J.condF rfl <| J.skip <| J.seq <| J.seq <| J.reg rfl <| O.mv rfl <| O.mv rfl <| O.mv rfl <| O.bs (r := RE) [l, l2] rfl ⟨h'.to.v, h2.to.v, trivial⟩ rfl rfl rfl (by decide) (.inr rfl) (by decide) fun W16 p16 i16 e16 s16 => O.call rfl (law08_right_ok h.to s16.to (by simp)) fun W17 v17 i17 e17 h17 => ?_
  obtain ⟨b, rfl, hb⟩ := h17
  refine O.not rfl <| O.mv rfl <| ?_
  by_cases hg19 : b = false
  · skip
    refine O.set (t := 19) (.bool true) rfl (by simp [hg19]) <| O.gs rfl rfl rfl <| O.gs rfl rfl rfl <| O.pickT rfl rfl <| JO.nil <| J.condT rfl <| J.seq <| J.reg rfl <| O.as rfl <| JO.nil <| J.ret1 rfl (.tmp rfl) fun W' iE iP => ?_
    rfl
  · skip
    have hg := hb.1 (by simpa using hg19)
    have hs := (hg.1 l (by simp)).1
    have hs2 := (hg.1 l2 (by simp)).1
    have hk2 := (hg.1 l2 (by simp)).2.2
    obtain ⟨k, w, x, rfl, rfl, hw, hk⟩ := hg.ex
    rw [ct_length] at hn hk2
    subst hn
    obtain ⟨a, rfl⟩ := okE_typed hk2
    have hTs := hs.szt.ts (List.take_of_length_le (l := ct (toT n w)) (by rw [ct_length]; exact Nat.le_refl _))
    have hxS := hs.2.1.szr _ rfl
    have haS := hs2.2.1.szr _ rfl
    have B := bds3.le hk
    have BM := bdsM.le hk
    have hcB := cB_le3 hk
    have hlen2 := hs2.2.1.1
    refine O.set (t := 19) (.bool false) rfl (by simp at hg19; simp [hg19]) <| O.gt rfl rfl <| O.mv rfl <| O.gt rfl rfl <| ?_
    refine O.call rfl (ref06_Zero_ok h'.to) fun W21 v21 i21 e21 h21 => ?_
    subst h21
    refine O.pickF rfl rfl <| JO.nil <| J.condD rfl (fun h22 => ?_) (fun h22 => ?_)
    · skip
      refine J.seq <| J.reg rfl <| O.as rfl <| JO.nil <| J.ret1 rfl (.tmp rfl) fun W' iE iP => ?_
      rfl
    · skip
      have hx0 : x ≠ zero n := fun e => h22 ((eq_zero_iff n x).1 e)
      obtain ⟨b1, out1, hz1⟩ := SqIs.ex (ct (toT n w)) (cl (toL n a))
      obtain ⟨b2, out2, hz2⟩ := SqIs.ex (ct (toT n w)) (cl (toL n (mul n w a (mul n w x x))))
      have hbb : b1 = b2 := Bool.eq_iff_iff.2 ((hz1.iff hw).trans ((isSq_prod hw hx0).symm.trans (hz2.iff hw).symm))
      subst hbb
      refine J.skip <| J.seq <| J.reg rfl <| O.mv rfl <| ?_
      refine O.call rfl (law08_copied_ok h.to (by omega) hs.len) fun W25 v25 i25 e25 h25 => ?_
      obtain ⟨p25, m25, c25, rfl, s25⟩ := h25.sl
      obtain rfl : n = m25 := by rw [s25.hn, ct_length]
      refine O.mv rfl <| ?_
      refine O.call rfl (law08_own_ok h2.to (by omega)) fun W27 v27 i27 e27 h27 => ?_
      obtain ⟨p27, m27, c27, rfl, s27⟩ := h27.sl
      refine O.call rfl (sqP B hz1 s25.to s27.to hs.st hs2.2.1.small (by omega) hs.szt hs2.2.1.szr) fun W28 v28 i28 e28 h28 => ?_
      obtain ⟨v29, rfl, h29, _⟩ := h28
      obtain ⟨p29, m29, c29, rfl, s29⟩ := h29.sl
      refine O.mv rfl <| O.ext rfl rfl <| O.ext rfl rfl <| O.as rfl <| O.as rfl <| JO.nil <| J.seq <| J.reg rfl <| O.mv rfl <| ?_
      refine O.call rfl (law08_copied_ok h.to (by omega) hs.len) fun W33 v33 i33 e33 h33 => ?_
      obtain ⟨p33, m33, c33, rfl, s33⟩ := h33.sl
      obtain rfl : n = m33 := by rw [s33.hn, ct_length]
      refine O.mv rfl <| O.mv rfl <| O.mv rfl <| O.mv rfl <| O.mv rfl <| ?_
      refine O.call rfl ((ref06_Mul_own h.to h'.to h'.to hTs hxS hxS (by omega) (by omega)).own) fun W39 v39 i39 e39 h39 => ?_
      obtain ⟨p39, m39, c39, rfl, s39⟩ := h39.sl
      refine O.call rfl ((ref06_Mul_own h.to h2.to s39.to hTs haS (hxS.mul hTs hxS) (by omega) (by omega)).own) fun W40 v40 i40 e40 h40 => ?_
      obtain ⟨p40, m40, c40, rfl, s40⟩ := h40.sl
      have hpS := (haS.mul hTs (hxS.mul hTs hxS)).mono (show 1537 + (1537 + 1537 + cB 1537 n) + cB 1537 n ≤ 30000 by omega)
      refine O.call rfl (sqP BM hz2 s33.to s40.to hs.st (small_cl hpS.qs' (by decide)) (by omega) hs.szt (SZR_cl hpS)) fun W41 v41 i41 e41 h41 => ?_
      obtain ⟨v42, rfl, h42, _⟩ := h41
      obtain ⟨p42, m42, c42, rfl, s42⟩ := h42.sl
      refine O.mv rfl <| O.ext rfl rfl <| O.ext rfl rfl <| O.as rfl <| O.as rfl <| JO.nil <| J.seq <| J.reg rfl <| O.mv rfl <| O.mv rfl <| O.beq rfl rfl <| O.as rfl <| JO.nil <| J.ret1 rfl (.tmp rfl) fun W' iE iP => ?_
      cases b1 <;> rfl
theorem law08_RootNorm_ok (h : Sl RE W p n c t) (h' : Sl RQ W q m d l) :
    Ok Tryz.prog 7 [.slice p n c, .slice q m d] W fun _ r => r = .bool true := by
  have hn := h.hn
  have hm := h'.hn
  have hcc := h.hc
  have hCC := h.hC
  refine Ok.enter Tryz.func7 rfl rfl rfl rfl fun W0 iEn => ?_
  refine J.seq <| J.reg rfl <| O.as rfl <| JO.nil <| J.seq <| J.seq <| J.reg rfl <| ?_
  refine O.call rfl (law08_awake_ok) fun W10 v10 i10 e10 h10 => ?_
  subst h10
  refine O.not rfl <| JO.nil <| J.condF rfl <| J.skip <| J.seq <| J.seq <| J.reg rfl <| O.mv rfl <| O.len rfl <| O.eq rfl rfl <| O.mv rfl <| ?_
  by_cases hg15 : n = 0
  · skip
    refine O.set (t := 15) (.bool true) rfl (by simp only [Value.bool.injEq, decide_eq_true_eq, decide_eq_false_iff_not]; omega) <| O.gs rfl rfl rfl <| O.gs rfl rfl rfl <| O.gs rfl rfl rfl <| O.gs rfl rfl rfl <| O.gs rfl rfl rfl <| O.pickT rfl rfl <| JO.nil <| J.condT rfl <| J.seq <| J.reg rfl <| O.as rfl <| JO.nil <| J.ret1 rfl (.tmp rfl) fun W' iE iP => ?_
    rfl
  · skip
    refine O.set (t := 15) (.bool false) rfl (by simp only [Value.bool.injEq, decide_eq_true_eq, decide_eq_false_iff_not]; omega) <| O.gt rfl rfl <| O.mv rfl <| O.gt rfl rfl <| O.mv rfl <| O.gt rfl rfl <| O.bs (r := RE) [l] rfl ⟨h'.to.v, trivial⟩ rfl rfl rfl (by decide) (.inr rfl) (by decide) fun W18 p18 i18 e18 s18 => O.gt rfl rfl <| O.call rfl (law08_right_ok h.to s18.to (by simp)) fun W19 v19 i19 e19 h19 => ?_
    obtain ⟨b, rfl, hb⟩ := h19
    refine O.gt rfl rfl <| O.not rfl <| O.pickF rfl rfl <| JO.nil <| J.cond rfl (fun h21 => ?_) (fun h21 => ?_)
    · skip
      refine J.seq <| J.reg rfl <| O.as rfl <| JO.nil <| J.ret1 rfl (.tmp rfl) fun W' iE iP => ?_
      rfl
    · skip
      have hg := hb.1 (by simpa using h21)
      have hs := (hg.1 l (by simp)).1
      obtain ⟨k', w, a, rfl, rfl, hw, hk⟩ := hg.ex
      rw [ct_length] at hn
      obtain ⟨k, rfl⟩ : ∃ k, k' = k + 1 := ⟨k' - 1, by omega⟩
      have hTs := hs.szt.ts (List.take_of_length_le (l := ct (toT (k + 1) w)) (by rw [ct_length]; exact Nat.le_refl _))
      have haS := hs.2.1.szr _ rfl
      have hlen := hs.2.1.1
      have B := bds3.le hk
      have BM := bdsM.le (show k ≤ 3 by omega)
      have hcB := cB_le3 (show k ≤ 3 by omega)
      have hnB : nB 1537 k 1537 = 4 * 1537 + 3 * cB 1537 k + 1537 + 1 := rfl
      have hnS := (haS.normS hTs).mono (show nS 1537 k 1537 ≤ 30000 by unfold nS; omega)
      have s40 := h.take k (by omega)
      rw [ct_succ, List.take_left' (by rw [ct, List.length_map, toT_length])] at s40
      have hst1 := small_ct (hTs.1) (show 1537 ≤ 17592186044416 by decide)
      have hszt1 := SZT_ct hTs.1
      obtain ⟨b1, out1, hz1⟩ := SqIs.ex (ct (toT (k + 1) w)) (cl (toL (k + 1) a))
      obtain ⟨b2, out2, hz2⟩ := SqIs.ex (ct (toT k w.1)) (cl (toL k (Tow.norm k w a)))
      have hbb : b1 = true → b2 = true := fun e => (hz2.iff hw.1).2 (sq_norm ((hz1.iff hw).1 e))
      refine J.skip <| J.seq <| J.reg rfl <| O.mv rfl <| ?_
      refine O.call rfl (law08_copied_ok h.to (by omega) hs.len) fun W24 v24 i24 e24 h24 => ?_
      obtain ⟨p24, m24, c24, rfl, s24⟩ := h24.sl
      obtain rfl : n = m24 := by rw [s24.hn, ct_length]; omega
      refine O.mv rfl <| ?_
      refine O.call rfl (law08_own_ok h'.to (by omega)) fun W26 v26 i26 e26 h26 => ?_
      obtain ⟨p26, m26, c26, rfl, s26⟩ := h26.sl
      refine O.call rfl (sqP (by rw [hn]; exact B) hz1 s24.to s26.to hs.st hs.2.1.small (by omega) hs.szt hs.2.1.szr) fun W27 v27 i27 e27 h27 => ?_
      obtain ⟨v28, rfl, h28, _⟩ := h27
      obtain ⟨p28, m28, c28, rfl, s28⟩ := h28.sl
      refine O.mv rfl <| O.ext rfl rfl <| O.ext rfl rfl <| O.as rfl <| O.as rfl <| JO.nil <| J.seq <| J.reg rfl <| O.mv rfl <| ?_
      refine O.call rfl (law08_copied_ok h.to (by omega) hs.len) fun W31 v31 i31 e31 h31 => ?_
      obtain ⟨p31, m31, c31, rfl, s31⟩ := h31.sl
      refine O.mv rfl <| ?_
      refine O.call rfl (law08_own_ok h'.to (by omega)) fun W33 v33 i33 e33 h33 => ?_
      obtain ⟨p33, m33, c33, rfl, s33⟩ := h33.sl
      refine O.call rfl (tower_Norm_ok s31.to s33.to hTs haS (by omega) (by omega) (by omega)) fun W34 v34 i34 e34 h34 => ?_
      obtain ⟨p34, m34, c34, rfl, s34⟩ := h34.sl
      refine O.as rfl <| JO.nil <| J.seq <| J.reg rfl <| O.mv rfl <| O.mv rfl <| O.len rfl <| O.sb (r := (k : Int)) rfl rfl ((wI (by omega)).trans (by omega)) <| O.slh (hi := k) rfl rfl rfl (by omega) <| ?_
      refine O.call rfl (law08_copied_ok s40.to (by omega) (fun l hl => hs.len l (by rw [ct_succ]; exact List.mem_append_left _ hl))) fun W41 v41 i41 e41 h41 => ?_
      obtain ⟨p41, m41, c41, rfl, s41⟩ := h41.sl
      obtain rfl : k = m41 := by rw [s41.hn, ct_length]
      refine O.mv rfl <| O.call rfl (sqP BM hz2 s41.to s34.to hst1 (small_cl hnS.qs' (by decide)) (by omega) hszt1 (SZR_cl hnS)) fun W43 v43 i43 e43 h43 => ?_
      obtain ⟨v44, rfl, h44, _⟩ := h43
      obtain ⟨p44, m44, c44, rfl, s44⟩ := h44.sl
      refine O.mv rfl <| O.ext rfl rfl <| O.ext rfl rfl <| O.as rfl <| O.as rfl <| JO.nil <| J.seq <| ?_
      cases b1
      · skip
        refine J.reg rfl <| O.mv rfl <| O.not rfl <| O.mv rfl <| O.gs rfl rfl rfl <| O.pickT rfl rfl <| O.as rfl <| JO.nil <| J.ret1 rfl (.tmp rfl) fun W' iE iP => ?_
        rfl
      · skip
        obtain rfl : true = b2 := (hbb rfl).symm
        refine J.reg rfl <| O.mv rfl <| O.not rfl <| O.mv rfl <| O.gt rfl rfl <| O.mv rfl <| O.pickF rfl rfl <| O.as rfl <| JO.nil <| J.ret1 rfl (.tmp rfl) fun W' iE iP => ?_
        rfl
end
end
end Go.Proofs.YtcaikjefkkejbaaGreat
