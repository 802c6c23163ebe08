/- The program's integers, more: differences, comparisons, square roots. -/
import Derived.Test.YtcaikjefkkejbaaGreatIg
import Derived.Test.YtcaikjefkkejbaaGreatNb
import Derived.Test.YtcaikjefkkejbaaGreatRi
set_option linter.unusedVariables false
set_option linter.unusedSimpArgs false
set_option maxRecDepth 10000
set_option maxHeartbeats 2000000
namespace Go.Proofs.YtcaikjefkkejbaaGreat
open Go Go.Rx Go.Num
theorem cmpI_self_ne {a b : Int} (h : cmpI a 0 ≠ cmpI b 0) : cmpI (cmpI a 0) (cmpI b 0) = cmpI a b := by
  rcases cmpI_tri a 0 with ⟨h1, e1⟩ | ⟨h1, e1⟩ | ⟨h1, e1⟩ <;> rcases cmpI_tri b 0 with ⟨h2, e2⟩ | ⟨h2, e2⟩ | ⟨h2, e2⟩ <;> rw [e1, e2] at h ⊢ <;>
    first | exact absurd rfl h | (rcases cmpI_tri a b with ⟨h3, e3⟩ | ⟨h3, e3⟩ | ⟨h3, e3⟩ <;> rw [e3] <;> first | rfl | omega)
theorem cmpI_self_eq {a b : Int} (h : cmpI a 0 = cmpI b 0) : cmpI a 0 * cmpI (a.natAbs : Int) (b.natAbs : Int) = cmpI a b := by
  rcases cmpI_tri a 0 with ⟨h1, e1⟩ | ⟨h1, e1⟩ | ⟨h1, e1⟩ <;> rcases cmpI_tri b 0 with ⟨h2, e2⟩ | ⟨h2, e2⟩ | ⟨h2, e2⟩ <;> rw [e1, e2] at h <;>
    first | (exact absurd h (by decide)) | (rw [e1]; rcases cmpI_tri a b with ⟨h3, e3⟩ | ⟨h3, e3⟩ | ⟨h3, e3⟩ <;> rcases cmpI_tri (a.natAbs : Int) (b.natAbs : Int) with ⟨h4, e4⟩ | ⟨h4, e4⟩ | ⟨h4, e4⟩ <;> rw [e3, e4] <;> first | rfl | omega)
theorem integer_Cmp_ok {W : GW} {v v' : Value} {z z' : Int} (h : V RI W v (ci z)) (h' : V RI W v' (ci z')) :
    Ok Tryz.prog 145 [v, v'] W fun _ r => r = .int .i64 (cmpI z z') := by
  refine Ok.enter Tryz.func145 rfl rfl rfl rfl fun W0 iEn => ?_
  refine J.seq <| J.reg rfl <| O.boxT rfl h.to fun W2 b2 i2 hb2 => O.boxT rfl h'.to fun W3 b3 i3 hb3 => O.as rfl <| JO.nil <| J.seq <| ?_
  refine J.draw [.rel _, .ex _, .rel _] rfl rfl ⟨fun Wd id ed _ => O.ldTD rfl hb2.to.h rfl rfl (fun h => nomatch h), fun Wd id ed _ => fun v7 h7 => O.call rfl (integer_Sign_ok h7) fun Wd vd id ed hd => D.eq ed hd, fun Wd id ed _ => O.ldTD rfl hb3.to.h rfl rfl (fun h => nomatch h), trivial⟩ ?_
  intro Wr1 ir1 er1 v7 h7 v9 h9
  refine O.call rfl (integer_Sign_ok h9.to) fun W10 v10 i10 e10 h10 => ?_
  subst h10
  refine O.as rfl <| O.as rfl <| JO.nil <| J.seq <| J.seq <| J.reg rfl <| O.mv rfl <| O.mv rfl <| O.ne rfl rfl <| JO.nil <| J.condD rfl (fun h13 => ?_) (fun h13 => ?_)
  · skip
    refine J.seq <| J.reg rfl <| O.mv rfl <| O.mv rfl <| ?_
    refine O.call rfl (cmp_Compare_int_ok _ _) fun W16 v16 i16 e16 h16 => ?_
    subst h16
    refine O.as rfl <| JO.nil <| J.ret1 rfl (.tmp rfl) fun W' iE iP => ?_
    rw [cmpI_self_ne h13]
  · skip
    refine J.skip <| J.seq <| ?_
    refine J.draw [.ex _, .ex _, .rel _, .rel _, .ex _, .rel _, .rel _, .ex _] rfl rfl ⟨fun Wd id ed _ => O.mv rfl <| D.ex, fun Wd id ed _ => O.fa rfl <| D.ex, fun Wd id ed _ => O.ldTD rfl hb2.to.h.s rfl rfl (fun _ => rfl), fun Wd id ed _ => fun v19 h19 => (by obtain ⟨p19, m19, c19, rfl, s19⟩ := h19.sl; exact O.call rfl (integer_trimd_ok s19) fun Wd vd id ed hd => D.rel ed hd V.me), fun Wd id ed _ => O.fa rfl <| D.ex, fun Wd id ed _ => O.ldTD rfl hb3.to.h.s rfl rfl (fun _ => rfl), fun Wd id ed _ => fun v22 h22 => fun v20 h20 => (by obtain ⟨p22, m22, c22, rfl, s22⟩ := h22.sl; obtain ⟨p20, m20, c20, rfl, s20⟩ := h20.sl; exact O.call rfl (integer_trimd_ok s22) fun Wd vd id ed hd => D.rel ed hd V.me), fun Wd id ed _ => fun v20 h20 => fun _ _ => fun v23 h23 => (by obtain ⟨p20, m20, c20, rfl, s20⟩ := h20.sl; obtain ⟨p23, m23, c23, rfl, s23⟩ := h23.sl; exact O.call rfl (integer_compare_ok s20.to s23.to) fun Wd vd id ed hd => D.eq ed hd), trivial⟩ ?_
    intro Wr4 ir4 er4 v19 h19 v20 h20 v22 h22 v23 h23
    obtain ⟨p19, m19, c19, rfl, s19⟩ := h19.sl
    obtain ⟨p20, m20, c20, rfl, s20⟩ := h20.sl
    obtain ⟨p22, m22, c22, rfl, s22⟩ := h22.sl
    obtain ⟨p23, m23, c23, rfl, s23⟩ := h23.sl
    refine O.mul (r := cmpI z z') rfl rfl ((wI (by rw [cmpI_self_eq (Classical.not_not.1 h13)]; rcases cmpI_tri z z' with ⟨_, e⟩ | ⟨_, e⟩ | ⟨_, e⟩ <;> rw [e] <;> decide)).trans (cmpI_self_eq (Classical.not_not.1 h13))) <| O.as rfl <| JO.nil <| J.ret1 rfl (.tmp rfl) fun W' iE iP => ?_
    rfl
theorem bl_le32 {t : Nat} (h : t < 4294967296) : bl t ≤ 32 := by
  by_cases h0 : t = 0
  · subst h0; decide
  · have := (bl_bounds h0).1
    by_cases h2 : bl t ≤ 32
    · exact h2
    · have : 2 ^ 32 ≤ 2 ^ (bl t - 1) := Nat.pow_le_pow_right (by decide) (by omega)
      omega
theorem top_bits {n m t : Nat} (hm : m = (dig n).length) (hm0 : 0 < m) (ht : (dig n)[m - 1]? = some t) : n < 2 ^ (32 * (m - 1) + bl t) := by
  have h0 := val_digit ht
  have hd : (dig n).drop (m - 1 + 1) = [] := List.drop_eq_nil_of_le (by omega)
  rw [val_dig, hd] at h0
  have h1 := val_lt ((words_dig n).take (m - 1))
  rw [List.length_take, show min (m - 1) (dig n).length = m - 1 from by omega] at h1
  have e : (4294967296 : Nat) ^ (m - 1) = 2 ^ (32 * (m - 1)) := by rw [show (4294967296 : Nat) = 2 ^ 32 from rfl, ← Nat.pow_mul]
  have h2 : t < 2 ^ bl t := by
    by_cases ht0 : t = 0
    · subst ht0; exact Nat.two_pow_pos _
    · exact (bl_bounds ht0).2.1
  have h3 := Nat.mul_le_mul_left (4294967296 ^ (m - 1)) (show t + 1 ≤ 2 ^ bl t from h2)
  rw [Nat.mul_add, Nat.mul_one] at h3
  rw [Nat.pow_add, ← e]
  simp only [val, Nat.mul_zero, Nat.add_zero] at h0
  omega
theorem integer_Bits_ok {W : GW} {v : Value} {z : Int} (h : V RI W v (ci z)) (hl : (dig z.natAbs).length ≤ 1099511627776) :
    Ok Tryz.prog 159 [v] W fun _ r => ∃ B : Nat, r = .int .i64 (B : Int) ∧ z.natAbs < 2 ^ B ∧ B ≤ 32 * (dig z.natAbs).length := by
  refine Ok.enter Tryz.func159 rfl rfl rfl rfl fun W0 iEn => ?_
  refine J.seq <| J.reg rfl <| O.boxT rfl h.to fun W1 b1 i1 hb1 => O.as rfl <| JO.nil <| J.seq <| J.reg rfl <| O.fa rfl <| ?_
  refine O.ldTs rfl hb1.to.h.s fun p5 m5 c5 s5 => ?_
  have h5 := s5.v
  refine O.call rfl (integer_trimd_ok s5.to) fun W6 v6 i6 e6 h6 => ?_
  obtain ⟨p6, m6, c6, rfl, s6⟩ := h6.sl
  have hm6 := s6.hn
  refine O.as rfl <| JO.nil <| J.seq <| J.seq <| J.reg rfl <| O.mv rfl <| O.len rfl <| O.eq rfl rfl <| JO.nil <| J.condD rfl (fun h9 => ?_) (fun h9 => ?_)
  · skip
    refine J.seq <| J.reg rfl <| O.as rfl <| JO.nil <| J.ret1 rfl (.tmp rfl) fun W' iE iP => ?_
    have h0 := dig_eq_nil.1 (List.eq_nil_of_length_eq_zero (l := dig z.natAbs) (by omega))
    exact ⟨0, rfl, by rw [h0]; decide, Nat.zero_le _⟩
  · skip
    refine J.skip <| J.seq <| ?_
    obtain ⟨t, ht⟩ := xat (l := dig z.natAbs) (k := m6 - 1) (by omega)
    have htw := words_dig _ t (List.mem_of_getElem? ht)
    have hb := bl_le32 htw
    refine J.reg rfl <| O.mv rfl <| O.len rfl <| O.sb rfl rfl (wI (by omega)) <| O.mul rfl rfl (wI (by omega)) <| O.mv rfl <| O.mv rfl <| O.len rfl <| O.sb rfl rfl (wI (by omega)) <| O.ixW (j := m6 - 1) rfl rfl (by omega) s6.to ht fun a18 => ?_
    refine O.call rfl (math_bits_Len32_ok (x := t) htw) fun W20 v20 i20 e20 h20 => ?_
    subst h20
    refine O.add (r := ((32 * (m6 - 1) + bl t : Nat) : Int)) rfl rfl ((wI (by omega)).trans (by omega)) <| O.as rfl <| JO.nil <| J.ret1 rfl (.tmp rfl) fun W' iE iP => ?_
    exact ⟨_, rfl, top_bits hm6 (by omega) ht, by omega⟩
theorem shlW {j : Nat} (h : j < 32) : IntKind.u32.wrap ((1 : Int) * 2 ^ (min (Int.toNat (j : Int)) (IntKind.bits .u32))) = ((2 ^ j : Nat) : Int) := by
  have : ∀ j : Fin 32, IntKind.u32.wrap ((1 : Int) * 2 ^ (min (Int.toNat (j.val : Int)) (IntKind.bits .u32))) = ((2 ^ j.val : Nat) : Int) := by decide
  exact this ⟨j, h⟩
theorem pow32lt {n : Nat} : 2 ^ (n % 32) < 4294967296 := Nat.lt_of_lt_of_le (Nat.pow_lt_pow_right (by decide) (Nat.mod_lt n (by decide))) (by decide)
theorem integer_shifted_ok {W : GW} {n : Nat} (hn : n ≤ 8796093022210) :
    Ok Tryz.prog 160 [.int .i64 (n : Int)] W fun W' r => V (RSl RW) W' r (dig (2 ^ n)) := by
  have hq : Int.tdiv (n : Int) 32 = ((n / 32 : Nat) : Int) := rfl
  refine Ok.enter Tryz.func160 rfl rfl rfl rfl fun W0 iEn => ?_
  refine J.seq <| J.reg rfl <| O.as rfl <| JO.nil <| J.seq <| J.reg rfl <| O.mv rfl <| O.quo (r := ((n / 32 : Nat) : Int)) rfl rfl (by decide) (by rw [hq]; exact wI (by omega)) <| O.add (r := ((n / 32 + 1 : Nat) : Int)) rfl rfl ((wI (by omega)).trans (by omega)) <| O.mk (r := RW) (m := n / 32 + 1) (c := n / 32 + 1) 0 rfl rfl rfl rfl (by omega) (by omega) (by omega) rfl rfl (by decide) (fun _ => ⟨rfl, by decide⟩) fun W7 b7 i7 e7 hb7 o7 => O.as rfl <| JO.nil <| J.seq <| J.reg rfl <| O.mv rfl <| O.mv rfl <| O.quo (r := ((n / 32 : Nat) : Int)) rfl rfl (by decide) (by rw [hq]; exact wI (by omega)) <| O.mv rfl <| O.rem (r := ((n % 32 : Nat) : Int)) rfl rfl (by decide) (trem n 32) <| O.shl rfl rfl (by omega) (shlW (j := n % 32) (by omega)) <| O.iaB (r := RW) (j := n / 32) rfl rfl rfl o7 (by omega) rfl <| O.sto (r := RW) (j := n / 32) (u := 2 ^ (n % 32)) rfl rfl o7 (by omega) (rwv _ pow32lt) rfl (.inr rfl) fun W8 i8 o8 => JO.nil <| J.seq <| J.reg rfl <| O.mv rfl <| O.as rfl <| JO.nil <| J.ret1 rfl (.tmp rfl) fun W' iE iP => ?_
  rw [dig_pow]
  exact (o8.pub iE iP).v
theorem integer_half_ok {W : GW} {p : Option Addr} {m c x : Nat} (h : Sl RW W p m c (dig x)) (hx : (dig x).length ≤ 1099511627776) :
    Ok Tryz.prog 161 [.slice p m c] W fun W' r => V (RSl RW) W' r (dig (x / 2)) := by
  refine Ok.enter Tryz.func161 rfl rfl rfl rfl fun W0 iEn => ?_
  refine J.seq <| J.reg rfl <| O.as rfl <| JO.nil <| J.seq <| J.reg rfl <| O.mv rfl <| O.call rfl (integer_shiftRight_ok (n := 1) h.to hx (by decide)) fun W4 v4 i4 e4 h4 => ?_
  obtain ⟨l4, hl4, h4⟩ := h4
  obtain ⟨p4, m4, c4, rfl, s4⟩ := h4.sl
  refine O.call rfl (integer_trim_ok s4.to) fun W5 v5 i5 e5 h5 => ?_
  obtain ⟨p5, m5, c5, rfl, s5⟩ := h5.sl
  refine O.as rfl <| JO.nil <| J.ret1 rfl (.tmp rfl) fun W' iE iP => ?_
  rw [hl4, val_dig] at h5
  exact h5.to
theorem len_two_pow {n : Nat} : (dig (2 ^ n)).length = n / 32 + 1 := by rw [dig_pow]; simp
/-- Sqrt: the square root, rounded down -/
theorem integer_Sqrt_ok {W : GW} {v : Value} {a : Nat} (h : V RI W v (ci (a : Int))) (hl : (dig a).length ≤ 549755813888) :
    Ok Tryz.prog 144 [v] W fun W' r => ∃ v1, r = .tuple #[v1, .int .i64 0] ∧ V RI W' v1 (ci (rt a : Int)) := by
  refine Ok.enter Tryz.func144 rfl rfl rfl rfl fun W0 iEn => ?_
  refine J.seq <| J.reg rfl <| O.boxT rfl h.to fun W1 b1 i1 hb1 => ?_
  refine O.allocE fun W2 b2 i2 e2 hl2 hc2 hz2 => ?_
  refine O.as rfl <| JO.nil <| J.seq <| J.seq <| J.reg rfl <| O.ldT rfl hb1.to.h rfl rfl (fun h => nomatch h) fun v9 h9 => ?_
  refine O.call rfl (integer_Sign_ok h9.to) fun W10 v10 i10 e10 h10 => ?_
  subst h10
  refine JO.nil <| J.block <| J.seq <| J.reg rfl <| O.eq rfl rfl <| O.as rfl <| JO.nil <| J.condD rfl (fun h11 => ?_) (fun h11 => ?_)
  · skip
    have h11 : cmpI (a : Int) 0 = -1 := h11
    rcases cmpI_tri (a : Int) 0 with ⟨g1, g2⟩ | ⟨g1, g2⟩ | ⟨g1, g2⟩ <;> omega -- done
  · skip
    refine J.seq <| J.reg rfl <| O.eq rfl rfl <| O.as rfl <| JO.nil <| J.condD rfl (fun h14 => ?_) (fun h14 => ?_)
    · skip
      have h14 : cmpI (a : Int) 0 = 0 := h14
      have ha0 : a = 0 := by rcases cmpI_tri (a : Int) 0 with ⟨g1, g2⟩ | ⟨g1, g2⟩ | ⟨g1, g2⟩ <;> omega
      refine J.seq <| J.reg rfl <| O.bld0 <| ?_
      refine O.stT rfl rfl hl2.to (mkI (nil_sl _ _ _)) rfl fun Ws1 is1 hb2 F2 => ?_
      refine O.as rfl <| JO.nil <| J.retTv rfl rfl hb2.to.h rfl rfl rfl fun W' v' iE iP hv' => ?_
      subst ha0
      rw [show ((rt 0 : Nat) : Int) = 0 from rfl, ci_zero]
      exact ⟨_, rfl, hv'.to⟩
    · skip
      have h14 : ¬ cmpI (a : Int) 0 = 0 := h14
      have ha0 : a ≠ 0 := by rcases cmpI_tri (a : Int) 0 with ⟨g1, g2⟩ | ⟨g1, g2⟩ | ⟨g1, g2⟩ <;> omega
      refine J.skip <| J.bend <| J.seq <| J.reg rfl <| O.ldT rfl hb1.to.h rfl rfl (fun h => nomatch h) fun v17 h17 => O.call rfl (integer_Bits_ok h17.to (Nat.le_trans hl (by decide))) fun W18 v18 i18 e18 h18 => ?_
      obtain ⟨B, rfl, hB1, hB2⟩ := h18
      have hB1 : a < 2 ^ B := hB1
      have hB2 : B ≤ 32 * (dig a).length := hB2
      refine O.quo (r := ((B / 2 : Nat) : Int)) rfl rfl (by decide) (by rw [show Int.tdiv (B : Int) 2 = ((B / 2 : Nat) : Int) from rfl]; exact wI (by omega)) <| O.add (r := ((B / 2 + 1 : Nat) : Int)) rfl rfl ((wI (by omega)).trans (by omega)) <| O.as rfl <| JO.nil <| J.seq <| J.reg rfl <| O.mv rfl <| ?_
      refine O.call rfl (integer_shifted_ok (n := B / 2 + 1) (by omega)) fun W22 v22 i22 e22 h22 => ?_
      obtain ⟨p22, m22, c22, rfl, s22⟩ := h22.sl
      refine O.as rfl <| JO.nil <| J.block <| ?_
      refine J.loop (α := Option Addr × Nat × Nat × Nat) (fun g => [(1, .pointer (some ⟨b1, 0, none⟩)), (2, .pointer (some ⟨b2, 0, none⟩)), (5, .slice g.1 g.2.1 g.2.2.1)]) (fun g W' => Le W0 W' ∧ Rx.Loc W' b2 2 ∧ Pt RI W' b1 0 (ci (a : Int)) ∧ Sl RW W' g.1 g.2.1 g.2.2.1 (dig g.2.2.2) ∧ 0 < g.2.2.2 ∧ rt a ≤ g.2.2.2 ∧ g.2.2.2 ≤ 2 ^ (B / 2 + 1)) (fun g => g.2.2.2) (p22, m22, c22, 2 ^ (B / 2 + 1)) ⟨rfl, rfl, rfl, trivial⟩ ⟨inferInstance, hl2.to, hb1.to, s22.to, Nat.two_pow_pos _, Nat.le_of_lt (rt_lt_pow hB1 (by omega)), Nat.le_refl _⟩ ?_
      rintro ⟨p5, m5, c5, x⟩ W3 ⟨_, hl2, hb1, s5, hx0, hxr, hxp⟩
      dsimp only at *
      have hxl : (dig x).length ≤ 549755813889 := Nat.le_trans (len_mono hxp) (by rw [len_two_pow]; omega)
      have hql : (dig (a / x)).length ≤ 549755813888 := Nat.le_trans (len_mono (Nat.div_le_self a x)) hl
      refine J.block <| J.seq <| J.reg rfl <| O.fa rfl <| ?_
      refine O.ldTs rfl hb1.to.h.s fun p25 m25 c25 s25 => ?_
      have h25 := s25.v
      refine O.call rfl (integer_trimd_ok s25.to) fun W26 v26 i26 e26 h26 => ?_
      obtain ⟨p26, m26, c26, rfl, s26⟩ := h26.sl
      refine O.mv rfl <| O.call rfl (integer_divide_ok s26.to s5.to (Nat.le_trans hl (by decide)) (by omega) (by omega)) fun W28 v28 i28 e28 h28 => ?_
      obtain ⟨v29, v30, rfl, h29, h30⟩ := h28
      obtain ⟨p29, m29, c29, rfl, s29⟩ := h29.sl
      obtain ⟨p30, m30, c30, rfl, s30⟩ := h30.sl
      refine O.mv rfl <| O.ext rfl rfl <| O.ext rfl rfl <| O.as rfl <| O.as rfl <| JO.nil <| J.seq <| J.reg rfl <| O.mv rfl <| O.mv rfl <| ?_
      refine O.call rfl (integer_plus_ok (y := a / x) s5.to s29.to (by omega) (by omega)) fun W33 v33 i33 e33 h33 => ?_
      obtain ⟨p33, m33, c33, rfl, s33⟩ := h33.sl
      refine O.call rfl (integer_half_ok s33.to (Nat.le_trans (len_add _ _) (by omega))) fun W34 v34 i34 e34 h34 => ?_
      obtain ⟨p34, m34, c34, rfl, s34⟩ := h34.sl
      refine O.as rfl <| JO.nil <| J.seq <| J.seq <| J.reg rfl <| O.mv rfl <| O.mv rfl <| ?_
      refine O.call rfl (integer_compare_ok s34.to s5.to) fun W37 v37 i37 e37 h37 => ?_
      subst h37
      refine O.ge rfl rfl <| JO.nil <| J.condD rfl (fun h38 => ?_) (fun h38 => ?_)
      · skip
        have hge : x ≤ (x + a / x) / 2 := by rcases cmpI_tri (((x + a / x) / 2 : Nat) : Int) (x : Int) with ⟨g1, g2⟩ | ⟨g1, g2⟩ | ⟨g1, g2⟩ <;> omega
        refine J.seq <| J.reg rfl <| O.mv rfl <| O.call rfl (integer_signedd_ok false s5.to) fun W40 v40 i40 e40 h40 => ?_
        refine O.stT rfl rfl hl2.to h40.to rfl fun Ws2 is2 hb2 F2 => ?_
        refine O.as rfl <| JO.nil <| J.retTv rfl rfl hb2.to.h rfl rfl rfl fun W' v' iE iP hv' => ?_
        rw [newton_end hx0 hge hxr]
        exact ⟨_, rfl, hv'.to⟩
      · skip
        have hlt : (x + a / x) / 2 < x := by rcases cmpI_tri (((x + a / x) / 2 : Nat) : Int) (x : Int) with ⟨g1, g2⟩ | ⟨g1, g2⟩ | ⟨g1, g2⟩ <;> omega
        refine J.skip <| J.reg rfl <| O.mv rfl <| O.as rfl <| JO.nil <| J.bend <| ?_
        exact J.at' (p34, m34, c34, (x + a / x) / 2) ⟨rfl, rfl, rfl, trivial⟩ ⟨⟨inferInstance, hl2.to, hb1.to, s34.to, Nat.lt_of_lt_of_le (rt_pos ha0) (newton hx0), newton hx0, by show (x + a / x) / 2 ≤ _; omega⟩, hlt⟩
end Go.Proofs.YtcaikjefkkejbaaGreat
