/- The reference's integers, fourth part: division, the greatest common divisor. -/
import Derived.Test.YtcaikjefkkejbaaGreatKa
set_option linter.unusedVariables false
set_option linter.unusedSimpArgs false
set_option maxRecDepth 10000
set_option maxHeartbeats 4000000
namespace Go.Proofs.YtcaikjefkkejbaaGreat
open Go Go.Rx Go.Num
/-- digit: the first digit of a quotient, and its product. -/
theorem ref01_digit_ok {W : GW} {p q : Option Addr} {m c n c' y : Nat} {l : List Nat} (h : Sl RW W p m c l) (h' : Sl RW W q n c' (dig y)) (hm : m = n + 1) (hy0 : y ≠ 0) (hn40 : n ≤ 1099511627776) (hlt : val l < 4294967296 * y) :
    Ok Tryz.prog 140 [.slice p m c, .slice q n c'] W fun W' v => ∃ v2, v = .tuple #[.int .u32 ((val l / y : Nat) : Int), v2] ∧ NewR RW W W' v2 (dig (y * (val l / y))) := by
  have hn := h.hn
  have hn' := h'.hn
  have hlw := slw h
  have hn0 : n ≠ 0 := fun e => hy0 (dig_len0.1 (by omega))
  obtain ⟨t, ht, ht0⟩ : ∃ t, (dig y)[n - 1]? = some t ∧ t ≠ 0 := by
    rcases trim_dig y with h1 | h1
    · exact absurd (dig_eq_nil.1 h1) hy0
    · rw [← hn'] at h1; exact h1
  have htb := words_dig y t (List.mem_of_getElem? ht)
  obtain ⟨u0, hu0⟩ := xat (l := l) (k := n) (by omega)
  obtain ⟨u1, hu1⟩ := xat (l := l) (k := n - 1) (by omega)
  have hub0 := hlw u0 (List.mem_of_getElem? hu0)
  have hub1 := hlw u1 (List.mem_of_getElem? hu1)
  obtain ⟨bx, ox, rfl, hjx0, hwx0⟩ := h.word hu0
  obtain ⟨bx2, ox2, hp2, hjx1, hwx1⟩ := h.word hu1
  obtain ⟨rfl, rfl⟩ : bx = bx2 ∧ ox = ox2 := by injection hp2 with h; injection h with h1 h2; exact ⟨h1, h2⟩
  obtain ⟨by', oy, rfl, hjy, hwy⟩ := h'.word ht
  have hqB : val l / y < 4294967296 := by rw [Nat.div_lt_iff_lt_mul (Nat.pos_of_ne_zero hy0)]; exact hlt
  have hq00 := Nat.zero_le (val l / y)
  -- the estimate is not too small
  have hest : val l / y ≤ (u0 * 2 ^ 32 + u1) / t := by
    have e1 := val_take_succ hu1
    rw [show n - 1 + 1 = n from by omega] at e1
    have e2 := val_take_succ hu0
    rw [show n + 1 = l.length from by omega, List.take_length, e1] at e2
    have e3 := val_take_succ ht
    rw [show n - 1 + 1 = (dig y).length from by omega, List.take_length, val_dig] at e3
    have hlow := val_lt (hlw.take (n - 1))
    rw [List.length_take, Nat.min_eq_left (by omega)] at hlow
    have hM : 4294967296 ^ n = 4294967296 ^ (n - 1) * 4294967296 := by rw [← Nat.pow_succ]; congr 1; omega
    rw [hM] at e2
    generalize 4294967296 ^ (n - 1) = M at *
    generalize val (l.take (n - 1)) = low at *
    generalize val ((dig y).take (n - 1)) = vlow at *
    have h1 : val l < M * (u0 * 2 ^ 32 + u1 + 1) := by
      have : M * (u0 * 2 ^ 32 + u1 + 1) = M * u1 + M * 4294967296 * u0 + M := by grind
      omega
    have h2 : M * t ≤ y := by omega
    have hM0 : 0 < M := by omega
    have h3 : val l / y ≤ val l / (M * t) := Nat.div_le_div_left h2 (Nat.mul_pos hM0 (Nat.pos_of_ne_zero ht0))
    refine Nat.le_trans h3 ?_
    rw [← Nat.div_div_eq_div_mul]
    refine Nat.div_le_div_right ?_
    have := (Nat.div_lt_iff_lt_mul hM0).2 (by rw [Nat.mul_comm]; exact h1)
    omega
  refine Ok.enter Tryz.func140 rfl rfl rfl rfl fun W0 iEn => ?_
  refine J.seq <| J.reg rfl <| O.as rfl <| O.as rfl <| JO.nil <| J.seq <| J.reg rfl <| O.mv rfl <| O.len rfl <| O.as rfl <| JO.nil <| J.seq <| ?_
  refine J.draw [.ex _, .ex _, .ex _, .ex _, .ex _, .ex _, .ex _, .ex _, .ex _, .ex _, .ex _, .ex _, .ex _, .ex _, .ex _, .ex _, .ex _, .ex _, .ex _, .ex _] rfl rfl ⟨fun W1 i1 e1 _ => O.mv rfl <| D.ex, fun W1 i1 e1 _ => O.mv rfl <| D.ex, fun W1 i1 e1 _ => O.ia (j := n) rfl rfl rfl hjx0 <| D.ex, fun W1 i1 e1 _ => O.ldC rfl (hwx0 _ Lf.s) <| D.ex, fun W1 i1 e1 _ => O.cv rfl (wU (by omega)) <| D.ex, fun W1 i1 e1 _ => O.shl (r := ((u0 * 2 ^ 32 : Nat) : Int)) rfl rfl (by decide) (shl_eq (u := u0) (n := 32) (by omega) (by omega)) <| D.ex, fun W1 i1 e1 _ => O.mv rfl <| D.ex, fun W1 i1 e1 _ => O.mv rfl <| D.ex, fun W1 i1 e1 _ => O.sb rfl rfl (wI (by omega)) <| D.ex, fun W1 i1 e1 _ => O.ia (j := n - 1) rfl rfl (by omega) hjx1 <| D.ex, fun W1 i1 e1 _ => O.ldC rfl (hwx1 _ Lf.s) <| D.ex, fun W1 i1 e1 _ => O.cv rfl (wU (by omega)) <| D.ex, fun W1 i1 e1 _ => O.or (p := u0 * 2 ^ 32) (q := u1) (r := ((u0 * 2 ^ 32 + u1 : Nat) : Int)) rfl rfl rfl rfl (by show _ < 18446744073709551616; omega) (by show _ < 18446744073709551616; omega) (by rw [or_add u1 u0 32 (by omega)]; exact wU (by omega)) <| D.ex, fun W1 i1 e1 _ => O.mv rfl <| D.ex, fun W1 i1 e1 _ => O.mv rfl <| D.ex, fun W1 i1 e1 _ => O.sb rfl rfl (wI (by omega)) <| D.ex, fun W1 i1 e1 _ => O.ia (j := n - 1) rfl rfl (by omega) hjy <| D.ex, fun W1 i1 e1 _ => O.ldC rfl (hwy _ Lf.s) <| D.ex, fun W1 i1 e1 _ => O.cv rfl (wU (by omega)) <| D.ex, fun W1 i1 e1 _ => O.quo (r := (((u0 * 2 ^ 32 + u1) / t : Nat) : Int)) rfl rfl (by omega) (tquo _ t (by omega)) <| D.ex, trivial⟩ ?_
  intro W1 i1 e1
  refine O.as rfl <| JO.nil <| J.seq <| J.seq <| J.reg rfl <| O.mv rfl <| O.gtr rfl rfl <| JO.nil <| ?_
  refine J.cut (α := Nat) (fun g => [(0, .slice (some ⟨bx, ox, none⟩) m c), (1, .slice (some ⟨by', oy, none⟩) n c'), (7, .int .u64 (g : Int))]) (fun g W' => W' = W1 ∧ val l / y ≤ g ∧ g < 4294967296) ?_ ?_
  · skip
    refine J.condD rfl (fun h32 => ?_) (fun h32 => ?_)
    · skip
      refine J.reg rfl <| O.as rfl <| JO.nil <| ?_
      exact J.at' 4294967295 ⟨rfl, rfl, rfl, trivial⟩ ⟨rfl, by omega, by decide⟩
    · skip
      refine J.skip <| ?_
      exact J.at' ((u0 * 2 ^ 32 + u1) / t) ⟨rfl, rfl, rfl, trivial⟩ ⟨rfl, hest, by omega⟩
  · skip
    rintro g0 W2 ⟨rfl, hg0, hgB⟩
    refine J.seq <| J.reg rfl <| O.mv rfl <| O.mv rfl <| O.cv (r := ((g0 : Nat) : Int)) rfl (wW (by omega)) <| O.bs (r := RW) [g0] rfl ⟨rwv _ (by omega), trivial⟩ rfl rfl rfl (by decide) (.inr rfl) (by decide) fun W3 p3 i3 e3 s3 => O.call rfl (ref01_times_new h'.to s3 (by omega) (by simp)) fun W4 v4 i4 e4 h4 => ?_
    rw [val_dig, show val [g0] = g0 from by simp [val]] at h4
    obtain ⟨b4, m4, c4, rfl, hb4, s4⟩ := h4
    have hW : W.size = W0.size := by rw [GW.size, GW.size, iEn.w]
    have hle3 : W0.size ≤ W3.size := Le.s.size
    refine O.as rfl <| JO.nil <| J.seq <| J.block <| ?_
    refine J.loop (α := Nat × Nat × Nat × Nat) (fun g => [(0, .slice (some ⟨bx, ox, none⟩) m c), (1, .slice (some ⟨by', oy, none⟩) n c'), (7, .int .u64 (g.1 : Int)), (8, .slice (some ⟨g.2.1, 0, none⟩) g.2.2.1 g.2.2.2)]) (fun g W' => Le W0 W' ∧ val l / y ≤ g.1 ∧ g.1 < 4294967296 ∧ W0.size ≤ g.2.1 ∧ Sl RW W' (some ⟨g.2.1, 0, none⟩) g.2.2.1 g.2.2.2 (dig (y * g.1))) (fun g => g.1) (g0, b4, m4, c4) ⟨rfl, rfl, rfl, rfl, trivial⟩ ⟨inferInstance, hg0, hgB, by show W0.size ≤ b4; omega, s4⟩ ?_
    rintro ⟨g, b5, m5, c5⟩ W5 ⟨_, hg, hgB, hb5, s5⟩
    dsimp only at *
    refine J.seq <| J.seq <| J.reg rfl <| O.mv rfl <| O.call rfl (ref01_trim_ok h.to) fun W6 v6 i6 e6 h6 => ?_
    obtain ⟨p6, m6, c6, rfl, s6⟩ := h6.sl
    refine O.mv rfl <| O.call rfl (ref01_compare_ok s6 s5.to) fun W7 v7 i7 e7 h7 => ?_
    subst h7
    refine O.lt rfl rfl <| JO.nil <| J.condD rfl (fun h42 => ?_) (fun h42 => ?_)
    · skip
      have hlt2 : val l < y * g := cmpI_neg.1 h42
      have hg1 : val l / y < g := by rw [Nat.div_lt_iff_lt_mul (Nat.pos_of_ne_zero hy0), Nat.mul_comm]; exact hlt2
      have hyg : y * g - y = y * (g - 1) := by rw [Nat.mul_sub_one]
      have hle : y ≤ y * g := Nat.le_mul_of_pos_right _ (by omega)
      have hlen : (dig (y * g)).length ≤ 4398046511104 := by
        have h1 := len_mul y g
        have h2 : (dig g).length ≤ 1 := dig_len_le (by omega)
        omega
      refine J.skip <| J.block <| J.seq <| J.reg rfl <| O.mv rfl <| O.sb (r := ((g - 1 : Nat) : Int)) rfl rfl ((wU (by omega)).trans (by omega)) <| O.as rfl <| JO.nil <| J.reg rfl <| O.mv rfl <| O.mv rfl <| O.call rfl (ref01_minus_new s5.to h'.to hlen hle) fun W8 v8 i8 e8 h8 => ?_
      rw [hyg] at h8
      obtain ⟨b8, m8, c8, rfl, hb8, s8⟩ := h8
      have hle7 : W0.size ≤ W7.size := Le.s.size
      refine O.as rfl <| JO.nil <| J.bend <| ?_
      exact J.at' (g - 1, b8, m8, c8) ⟨rfl, rfl, rfl, rfl, trivial⟩ ⟨⟨inferInstance, by show _ ≤ g - 1; omega, by show g - 1 < _; omega, by show W0.size ≤ b8; omega, s8⟩, by show g - 1 < g; omega⟩
    · skip
      have hge2 : y * g ≤ val l := Nat.le_of_not_lt fun hlt => h42 (cmpI_neg.2 hlt)
      have hg2 : g = val l / y := Nat.le_antisymm ((Nat.le_div_iff_mul_le (Nat.pos_of_ne_zero hy0)).2 (by rw [Nat.mul_comm]; exact hge2)) hg
      refine J.exit rfl <| J.seq <| J.reg rfl <| O.mv rfl <| O.cv (r := ((g : Nat) : Int)) rfl (wW (by omega)) <| O.mv rfl <| O.as rfl <| O.as rfl <| JO.nil <| J.ret2 rfl (.tmp rfl) (.tmp rfl) fun W' iE iP => ?_
      rw [← hg2]
      exact ⟨_, rfl, _, _, _, rfl, by omega, s5.to⟩
/-- divide -/
theorem ref01_divide_ok {W : GW} {p q : Option Addr} {m c m' c' x y : Nat} (h : Sl RW W p m c (dig x)) (h' : Sl RW W q m' c' (dig y)) (hx : (dig x).length ≤ 1099511627776) (hy : (dig y).length ≤ 1099511627776) (hy0 : y ≠ 0) :
    Ok Tryz.prog 108 [.slice p m c, .slice q m' c'] W fun W' v => ∃ v1 v2, v = .tuple #[v1, v2] ∧ V (RSl RW) W' v1 (dig (x / y)) ∧ V (RSl RW) W' v2 (dig (x % y)) := by
  have hn := h.hn
  have hn' := h'.hn
  have hb := h.hC
  have hb1 := h.hc
  refine Ok.enter Tryz.func108 rfl rfl rfl rfl fun W0 iEn => ?_
  refine J.seq <| J.reg rfl <| O.as rfl <| O.as rfl <| JO.nil <| J.seq <| J.seq <| J.reg rfl <| O.mv rfl <| O.mv rfl <| O.call rfl (ref01_compare_ok h.to h'.to) fun W2 v2 i2 e2 h2 => ?_
  subst h2
  refine O.lt rfl rfl <| JO.nil <| J.condD rfl (fun h23 => ?_) (fun h23 => ?_)
  · skip
    refine J.seq <| J.reg rfl <| O.mv rfl <| O.as rfl <| O.as rfl <| JO.nil <| J.ret2 rfl (.tmp rfl) (.tmp rfl) fun W' iE iP => ?_
    have hlt : x < y := cmpI_neg.1 h23
    rw [Nat.div_eq_of_lt hlt, Nat.mod_eq_of_lt hlt, dig_zero]
    exact ⟨_, _, rfl, (nil_sl _ _ _).v, h.to.v⟩
  · skip
    have hge : y ≤ x := Nat.le_of_not_lt fun hlt => h23 (cmpI_neg.2 hlt)
    have hlenle := len_mono hge
    refine J.skip <| J.seq <| J.seq <| J.reg rfl <| O.mv rfl <| O.len rfl <| O.le rfl rfl <| JO.nil <| J.condD rfl (fun h27 => ?_) (fun h27 => ?_)
    · skip
      have hx64 : x < 18446744073709551616 := dig_lt2 (by omega)
      refine J.seq <| J.reg rfl <| O.mv rfl <| O.call rfl (ref01_short_ok h.to (by omega)) fun W3 v3 i3 e3 h3 => ?_
      rw [val_dig] at h3
      subst h3
      refine O.mv rfl <| O.call rfl (ref01_short_ok h'.to (by omega)) fun W4 v4 i4 e4 h4 => ?_
      rw [val_dig] at h4
      subst h4
      refine O.as rfl <| O.as rfl <| JO.nil <| J.seq <| ?_
      refine J.sub [(6, .int .u64 (x : Int)), (7, .int .u64 (y : Int))] ⟨rfl, rfl, trivial⟩ ?_
      have hq64 : x / y < 18446744073709551616 := Nat.lt_of_le_of_lt (Nat.div_le_self ..) hx64
      have hr64 : x % y < 18446744073709551616 := Nat.lt_of_le_of_lt (Nat.mod_le ..) hx64
      refine J.draw [.ex _, .ex _, .ex _, .rel _, .ex _, .ex _, .ex _, .rel _, .rel _] rfl rfl ⟨fun W1 i1 e1 _ => O.mv rfl <| D.ex, fun W1 i1 e1 _ => O.mv rfl <| D.ex, fun W1 i1 e1 _ => O.quo (r := ((x / y : Nat) : Int)) rfl rfl (by omega) (tquo x y hx64) <| D.ex, fun W1 i1 e1 _ => O.call rfl (ref01_words_ok hq64) fun W5 v5 i5 e5 h5 => D.rel e5 h5 V.me, fun W1 i1 e1 _ => O.mv rfl <| D.ex, fun W1 i1 e1 _ => O.mv rfl <| D.ex, fun W1 i1 e1 _ => O.rem (r := ((x % y : Nat) : Int)) rfl rfl (by omega) (trem x y) <| D.ex, fun W1 i1 e1 _ => fun v35 h35 => O.call rfl (ref01_words_ok hr64) fun W6 v6 i6 e6 h6 => D.rel e6 h6 V.me, fun W1 i1 e1 _ => fun _ _ => fun v39 h39 => fun v35 h35 => O.as rfl (D.rel (Ext.refl _) h35 V.me), trivial⟩ ?_
      intro W1 i1 e1 v35 h35 v39 h39 v4 h4
      refine O.as rfl <| JO.nil <| J.ret2 rfl (.tmp rfl) (.tmp rfl) fun W' iE iP => ?_
      exact ⟨_, _, rfl, h4.to, h39.to⟩
    · skip
      refine J.skip <| J.seq <| J.seq <| J.reg rfl <| O.mv rfl <| O.len rfl <| O.eq rfl rfl <| JO.nil <| J.condD rfl (fun h42 => ?_) (fun h42 => ?_)
      · skip
        obtain ⟨t, ht⟩ := xat (l := dig y) (k := 0) (by omega)
        have htb := words_dig y t (List.mem_of_getElem? ht)
        have hyt : y = t := by
          have := val_take_succ ht
          rw [List.take_of_length_le (by omega), val_dig] at this
          simpa [val] using this
        refine J.seq <| J.reg rfl <| O.mv rfl <| O.mv rfl <| O.ixW (j := 0) rfl rfl rfl h'.to ht fun a1 => O.call rfl (ref01_by_ok (y := t) h.to hx htb (by omega)) fun W5 v5 i5 e5 h5 => ?_
        obtain ⟨v6, rfl, h6⟩ := h5
        have hrt : x % t < 4294967296 := Nat.lt_of_lt_of_le (Nat.mod_lt _ (by omega)) (Nat.le_of_lt htb)
        refine O.mv rfl <| O.ext rfl rfl <| O.ext rfl rfl <| O.as rfl <| O.as rfl <| JO.nil <| J.seq <| J.reg rfl <| O.mv rfl <| O.mv rfl <| O.cv (r := ((x % t : Nat) : Int)) rfl (wU ⟨Int.natCast_nonneg _, Int.ofNat_lt.2 (Nat.lt_trans hrt (by decide))⟩) <| O.call rfl (ref01_words_ok (n := x % t) (Nat.lt_trans hrt (by decide))) fun W6 v7 i6 e6 h7 => O.as rfl <| O.as rfl <| JO.nil <| J.ret2 rfl (.tmp rfl) (.tmp rfl) fun W' iE iP => ?_
        rw [hyt]
        exact ⟨_, _, rfl, h6.to, h7.to⟩
      · skip
        refine J.skip <| J.seq <| J.reg rfl <| O.mv rfl <| O.len rfl <| O.mul rfl rfl (wI (by omega)) <| O.mv rfl <| O.call rfl (ref01_length_ok h'.to hy hy0) fun W3 v3 i3 e3 h3 => ?_
        obtain ⟨t, ht, ht0, htb, rfl⟩ := h3
        have hy1 : 1 ≤ (dig y).length := by
          have : (dig y).length ≠ 0 := fun h => hy0 (dig_eq_nil.1 (List.eq_nil_of_length_eq_zero h))
          omega
        obtain ⟨bb1, bb2, bb3⟩ := bl_bounds ht0
        have hb32 : bl t ≤ 32 := by
          have : 2 ^ (bl t - 1) < 2 ^ 32 := Nat.lt_of_le_of_lt bb1 htb
          have := (Nat.pow_lt_pow_iff_right (by decide : 1 < 2)).1 this
          omega
        obtain ⟨s, hs⟩ : ∃ s, s = 32 - bl t := ⟨_, rfl⟩
        have hs32 : s < 32 := by omega
        have hs1 : 2147483648 ≤ t * 2 ^ s := by
          have h1 := Nat.mul_le_mul_right (2 ^ (32 - bl t)) bb1
          rw [← Nat.pow_add, show bl t - 1 + (32 - bl t) = 31 from by omega] at h1
          rw [hs]; exact h1
        have hs2 : t * 2 ^ s < 4294967296 := by
          have h1 := Nat.mul_lt_mul_of_pos_right bb2 (Nat.two_pow_pos (32 - bl t))
          rw [← Nat.pow_add, show bl t + (32 - bl t) = 32 from by omega] at h1
          rw [hs]; exact h1
        refine O.sb (r := (s : Int)) rfl rfl ((wI (by omega)).trans (by omega)) <| O.as rfl <| JO.nil <| J.seq <| ?_
        obtain ⟨hlen, t', ht', htt⟩ := norm_len hy0 ht hs1 hs2
        refine J.reg rfl <| O.mv rfl <| O.mv rfl <| O.call rfl (ref01_shifted_own h.to hx hs32) fun W4 v4 i4 e4 h4 => ?_
        obtain ⟨lu0, hul, huv, pu, mu, cu, rfl, hou0, hfu⟩ := h4
        refine O.mv rfl <| O.mv rfl <| O.call rfl (ref01_shifted_ok h'.to hy hs32) fun W5 v5 i5 e5 h5 => ?_
        obtain ⟨lv, hvl, hvv, hv⟩ := h5
        obtain ⟨pv0, mv0, cv0, rfl, hsv⟩ := hv.sl
        refine O.call rfl (ref01_trim_ok hsv) fun W6 v6 i6 e6 h6 => ?_
        rw [hvv] at h6
        obtain ⟨pv, mv, cv, rfl, hsv2⟩ := h6.sl
        have hou1 := (hou0.ext e5).ext e6
        have hmu := hou0.hn
        have hmv := hsv2.hn
        generalize hY : y * 2 ^ s = Y at *
        obtain ⟨bu, rfl⟩ : ∃ b, pu = some ⟨b, 0, none⟩ := by
          rcases hou0.h with h0 | ⟨b, _, _, hp, _⟩
          · have := hou0.hc; omega
          · exact ⟨b, hp⟩
        refine O.as rfl <| O.as rfl <| JO.nil <| J.seq <| J.reg rfl <| O.mv rfl <| O.len rfl <| O.mk (r := RW) (m := m) (c := m) 0 rfl rfl (by omega) (by omega) (Nat.le_refl _) (by omega) (by omega) rfl rfl (by decide) (fun _ => ⟨rfl, by decide⟩) fun W7 bq i7 e7 hbq hoq0 => O.as rfl <| JO.nil <| J.seq <| J.seq <| ?_
        have hou := hou1.ext e7
        have hbne : bu ≠ bq := by
          rcases hou1.h with h0 | ⟨b, cs, T, hp, hA, hm, hb, _⟩
          · have := hou1.hc; omega
          · injection hp with hp
            injection hp with hp _ _
            have : b < W6.size := lt_of_heap hb
            omega
        have hY0 : Y ≠ 0 := by
          rw [← hY]; exact Nat.mul_ne_zero hy0 (Nat.pos_iff_ne_zero.1 (Nat.two_pow_pos s))
        have hYl := dig_ub Y
        have hR0 : val (lu0.drop (mu - mv)) < Y := by
          have h1 := val_split lu0 (mu - mv) (by omega)
          rw [huv] at h1
          have h2 := dig_lb hy0
          have h3 := dig_ub x
          have hp := Nat.two_pow_pos s
          apply Classical.byContradiction
          intro hn2
          have h4 : 4294967296 ^ (mu - mv) * Y ≤ x * 2 ^ s := by
            rw [h1]
            have := Nat.mul_le_mul_left (4294967296 ^ (mu - mv)) (Nat.le_of_not_lt hn2)
            omega
          rw [← hY, ← Nat.mul_assoc] at h4
          have h5 := Nat.le_of_mul_le_mul_right h4 hp
          have h6 := Nat.mul_le_mul_left (4294967296 ^ (mu - mv)) h2
          rw [← Nat.pow_add, show mu - mv + ((dig y).length - 1) = (dig x).length from by omega] at h6
          omega
        refine J.reg rfl <| O.mv rfl <| O.len rfl <| O.mv rfl <| O.len rfl <| O.sb (r := ((mu - mv : Nat) : Int) - 1) rfl rfl ((wI (by omega)).trans (by omega)) <| O.as rfl <| JO.nil <| J.block <| ?_
        refine J.loop (α := Nat × List Nat × List Nat) (fun g => [(10, .int .i64 (s : Int)), (11, .slice (some ⟨bu, 0, none⟩) mu cu), (12, .slice pv mv cv), (13, .slice (some ⟨bq, 0, none⟩) m m), (14, .int .i64 ((g.1 : Int) - 1))]) (fun g W' => Le W0 W' ∧ Le W6 W' ∧ Ows RW W' (some ⟨bu, 0, none⟩) mu cu g.2.1 ∧ Ows RW W' (some ⟨bq, 0, none⟩) m m g.2.2 ∧ g.1 ≤ mu - mv ∧ (∀ j, j < g.1 → g.2.1[j]? = lu0[j]?) ∧ val (g.2.1.drop g.1) < Y ∧ val (g.2.2.drop g.1) * Y + val (g.2.1.drop g.1) = val (lu0.drop g.1)) (fun g => g.1) (mu - mv, lu0, List.replicate m 0) ⟨rfl, rfl, rfl, rfl, rfl, trivial⟩ ⟨inferInstance, inferInstance, hou, hoq0, Nat.le_refl _, fun _ _ => rfl, hR0, by dsimp only; rw [List.drop_replicate, val_zeros, Nat.zero_mul, Nat.zero_add]⟩ ?_
        rintro ⟨k, lu, lq⟩ W9 ⟨_, _, ho, hoq, hk, hsame, hRlt, hQR⟩
        dsimp only at *
        have hln := ho.hn
        have hlq := hoq.hn
        have hcu := ho.hc
        have hcu2 := ho.hC
        refine J.seq <| J.seq <| J.reg rfl <| O.mv rfl <| O.ge rfl rfl <| JO.nil <| J.condD rfl (fun h77 => ?_) (fun h77 => ?_)
        · skip
          obtain ⟨hwin, hUlt⟩ := window (n := mv) (i := k - 1) (Y := Y) (ownw ho) (by omega) (by rw [show k - 1 + 1 = k from by omega]; exact hRlt) (by rw [hmv]; exact Nat.le_of_lt hYl)
          obtain ⟨u, hu⟩ := xat (l := lu) (k := k - 1) (by omega)
          have hdr := val_drop hu
          rw [show k - 1 + 1 = k from by omega] at hdr
          generalize hU : val (lu.drop (k - 1)) = U at *
          have hqB : U / Y < 4294967296 := by rw [Nat.div_lt_iff_lt_mul (Nat.pos_of_ne_zero hY0)]; exact hUlt
          have hUm := Nat.div_add_mod U Y
          have hUlt2 := Nat.mod_lt U (Nat.pos_of_ne_zero hY0)
          obtain ⟨hbA, hbs, hbm, hpub⟩ := ho.lend (by omega)
          have hpart := hpub.part (k - 1) (mv + 1) (by omega) (by omega)
          refine J.skip <| J.seq <| J.block <| J.seq <| J.reg rfl <| O.mv rfl <| O.mv rfl <| O.mv rfl <| O.mv rfl <| O.len rfl <| O.add rfl rfl (wI (by omega)) <| O.add rfl rfl (wI (by omega)) <| O.slQ (q := 0) (lo := k - 1) (hi := k - 1 + mv + 1) rfl rfl rfl (by omega) (by omega) (by omega) (by omega) (by omega) <| O.set (t := 87) (.slice (some ⟨bu, k - 1, none⟩) (mv + 1) (cu - (k - 1))) rfl (by rw [show 0 + (k - 1) * 1 = k - 1 from by omega, show k - 1 + mv + 1 - (k - 1) = mv + 1 from by omega]) <| O.as rfl <| JO.nil <| J.seq <| J.reg rfl <| O.mv rfl <| O.mv rfl <| O.call rfl (Ok.lend hbA (fun W1 W2 v l h => by obtain ⟨v2, e, h⟩ := h; exact ⟨v2, e, h.mono l⟩) (ref01_digit_ok hpart hsv2.to.lend rfl hY0 (by omega) (by rw [← hwin]; exact hUlt))) fun W10 v10 i10 e10 h10 => ?_
          obtain ⟨v11, rfl, bp, mp, cp, rfl, hbp, hsp⟩ := h10
          rw [← hwin] at hsp
          have hbp2 : bp ≠ bu := by have : W9.size ≤ bp := hbp; omega
          have hsp2 := hsp.unlend hbp2
          have ho2 := ho.ext e10
          have hoq2 := hoq.ext e10
          refine O.mv rfl <| O.ext rfl rfl <| O.ext rfl rfl <| O.as rfl <| O.as rfl <| JO.nil <| J.seq <| J.reg rfl <| O.mv rfl <| O.mv rfl <| O.mv rfl <| O.iaB (r := RW) (j := k - 1) rfl rfl (by omega) hoq2 (by omega) rfl <| O.stoF (r := RW) (j := k - 1) (u := val ((lu.drop (k - 1)).take (mv + 1)) / Y) rfl rfl hoq2 (by omega) (rwv _ (by rw [← hwin]; exact hqB)) rfl (.inr rfl) fun W15 i15 f15 z15 o15 => ?_
          have ho3 := ho2.only i15.s f15 hbne
          rw [← hwin] at o15
          obtain ⟨hbA3, hbs3, hbm3, hpub3⟩ := ho3.lend (by omega)
          have hpart3 := hpub3.part (k - 1) (mv + 1) (by omega) (by omega)
          refine JO.nil <| J.seq <| J.reg rfl <| O.mv rfl <| O.call rfl (Ok.lend hbA3 (fun W1 W2 v l h => h.mono l) (ref01_trim_ok hpart3)) fun W16 v16 i16 e16 h16 => ?_
          obtain ⟨p16, m16, c16, rfl, s16⟩ := h16.sl
          rw [← hwin] at s16
          have hbA4 : bu ∈ W16.A := i16.s.keep bu hbA3
          have hUY : Y * (U / Y) ≤ U := Nat.mul_div_le U Y
          have hUlen : (dig U).length ≤ 4398046511104 := by
            have h1 : U < 4294967296 ^ (mv + 1) := by
              have := Nat.mul_le_mul_left 4294967296 (Nat.le_of_lt hYl)
              rw [Nat.pow_succ, hmv, Nat.mul_comm (4294967296 ^ (dig Y).length)]
              omega
            have := dig_len_le h1
            omega
          have hUmod : U - Y * (U / Y) = U % Y := by omega
          refine O.mv rfl <| O.call rfl (Ok.lend hbA4 (fun W1 W2 v l h => h.mono l) (ref01_minus_new s16 hsp2.to.lend hUlen hUY)) fun W17 v17 i17 e17 h17 => ?_
          obtain ⟨bd, md, cd, rfl, hbd, hsd⟩ := h17
          rw [hUmod] at hsd
          have hle9 : W9.size ≤ W16.size := Le.s.size
          have hbd2 : bd ≠ bu := by have : W16.size ≤ bd := hbd; omega
          have hsd2 := hsd.unlend hbd2
          have hmd := hsd2.hn
          have hdlen := len_mono (Nat.le_of_lt hUlt2)
          have ho4 := (ho3.ext e16).ext e17
          have ho5 := (o15.ext e16).ext e17
          refine O.as rfl <| JO.nil <| J.seq <| J.reg rfl <| O.as rfl <| JO.nil <| J.block <| ?_
          refine J.loop (α := Nat × List Nat) (fun g => [(10, .int .i64 (s : Int)), (11, .slice (some ⟨bu, 0, none⟩) mu cu), (12, .slice pv mv cv), (13, .slice (some ⟨bq, 0, none⟩) m m), (14, .int .i64 ((k : Int) - 1)), (15, .slice (some ⟨bu, k - 1, none⟩) (mv + 1) (cu - (k - 1))), (18, .slice (some ⟨bd, 0, none⟩) md cd), (19, .int .i64 (g.1 : Int))]) (fun g W' => Le W0 W' ∧ Le W6 W' ∧ Le W17 W' ∧ Ows RW W' (some ⟨bu, 0, none⟩) mu cu g.2 ∧ Ows RW W' (some ⟨bq, 0, none⟩) m m (lq.set (k - 1) (U / Y)) ∧ g.1 ≤ mv + 1 ∧ (∀ j, (j < k - 1 ∨ k - 1 + g.1 ≤ j) → g.2[j]? = lu[j]?) ∧ val ((g.2.drop (k - 1)).take g.1) = val ((dig (U % Y)).take g.1)) (fun g => mv + 1 - g.1) (0, lu) ⟨rfl, rfl, rfl, rfl, rfl, rfl, rfl, rfl, trivial⟩ ⟨inferInstance, inferInstance, inferInstance, ho4, ho5, Nat.zero_le _, fun _ _ => rfl, rfl⟩ ?_
          rintro ⟨i, lo⟩ W18 ⟨_, _, _, ho6, hoq6, hi, hsame2, hval2⟩
          dsimp only at *
          have hlo := ho6.hn
          refine J.seq <| J.seq <| J.reg rfl <| O.mv rfl <| O.mv rfl <| O.len rfl <| O.lt rfl rfl <| JO.nil <| J.condD rfl (fun h105 => ?_) (fun h105 => ?_)
          · skip
            refine J.skip <| J.seq <| J.block <| J.seq <| J.reg rfl <| O.mv rfl <| O.mv rfl <| O.iaQ (q := k - 1) (j := i) rfl rfl rfl (by omega) <| O.stoF (r := RW) (j := k - 1 + i) (u := 0) rfl rfl ho6 (by omega) (rwv _ (by decide)) rfl (.inr rfl) fun W19 i19 f19 z19 o19 => ?_
            have hoq7 := hoq6.only i19.s f19 (Ne.symm hbne)
            refine JO.nil <| J.seq <| J.reg rfl <| O.mv rfl <| O.mv rfl <| O.len rfl <| O.lt rfl rfl <| JO.nil <| ?_
            refine J.cut (α := Nat) (fun g => [(10, .int .i64 (s : Int)), (11, .slice (some ⟨bu, 0, none⟩) mu cu), (12, .slice pv mv cv), (13, .slice (some ⟨bq, 0, none⟩) m m), (14, .int .i64 ((k : Int) - 1)), (15, .slice (some ⟨bu, k - 1, none⟩) (mv + 1) (cu - (k - 1))), (18, .slice (some ⟨bd, 0, none⟩) md cd), (19, .int .i64 (i : Int))]) (fun g W' => Le W0 W' ∧ Le W6 W' ∧ Le W17 W' ∧ Ows RW W' (some ⟨bu, 0, none⟩) mu cu (lo.set (k - 1 + i) g) ∧ Ows RW W' (some ⟨bq, 0, none⟩) m m (lq.set (k - 1) (U / Y)) ∧ val ((dig (U % Y)).take (i + 1)) = val ((dig (U % Y)).take i) + 4294967296 ^ i * g) ?_ ?_
            · skip
              refine J.condD rfl (fun h114 => ?_) (fun h114 => ?_)
              · skip
                obtain ⟨w, hw⟩ := xat (l := dig (U % Y)) (k := i) (by omega)
                have hwb := words_dig (U % Y) w (List.mem_of_getElem? hw)
                refine J.reg rfl <| O.mv rfl <| O.mv rfl <| O.mv rfl <| O.mv rfl <| O.ixW (j := i) rfl rfl rfl hsd2.to hw fun a1 => O.iaQ (q := k - 1) (j := i) rfl rfl rfl (by omega) <| O.stoF (r := RW) (j := k - 1 + i) (u := w) rfl rfl o19 (by omega) (rwv _ hwb) rfl (.inr rfl) fun W20 i20 f20 z20 o20 => ?_
                have hoq8 := hoq7.only i20.s f20 (Ne.symm hbne)
                rw [List.set_set] at o20
                refine JO.nil <| ?_
                exact J.at' w ⟨rfl, rfl, rfl, rfl, rfl, rfl, rfl, rfl, trivial⟩ ⟨inferInstance, inferInstance, inferInstance, o20, hoq8, val_take_succ hw⟩
              · skip
                refine J.skip <| ?_
                exact J.at' 0 ⟨rfl, rfl, rfl, rfl, rfl, rfl, rfl, rfl, trivial⟩ ⟨inferInstance, inferInstance, inferInstance, o19, hoq7, by rw [take_ge (by omega)]; rfl⟩
            · skip
              rintro g W21 ⟨_, _, _, o21, oq21, hg⟩
              refine J.bend <| J.reg rfl <| O.mv rfl <| O.add rfl rfl (wI (by omega)) <| O.as rfl <| JO.nil <| ?_
              exact J.at' (i + 1, lo.set (k - 1 + i) g) ⟨rfl, rfl, rfl, rfl, rfl, rfl, rfl, rfl, trivial⟩ ⟨⟨inferInstance, inferInstance, inferInstance, o21, oq21, by show i + 1 ≤ _; omega, fun j hj => by rw [List.getElem?_set_ne (by have : j < k - 1 ∨ k - 1 + (i + 1) ≤ j := hj; omega)]; exact hsame2 j (by have : j < k - 1 ∨ k - 1 + (i + 1) ≤ j := hj; omega), by show val (((lo.set (k - 1 + i) g).drop (k - 1)).take (i + 1)) = _; rw [val_wset (by omega), hval2, hg]⟩, by show mv + 1 - (i + 1) < mv + 1 - i; omega⟩
          · skip
            have hik : i = mv + 1 := by omega
            subst hik
            rw [List.take_of_length_le (l := dig (U % Y)) (by omega), val_dig] at hval2
            refine J.exit rfl <| J.bend <| J.reg rfl <| O.mv rfl <| O.sb (r := (((k - 1 : Nat) : Int) - 1)) rfl rfl ((wI (by omega)).trans (by omega)) <| O.as rfl <| JO.nil <| ?_
            have hab : val (lo.drop (k - 1)) = U % Y := by
              have g1 := val_split (lo.drop (k - 1)) (mv + 1) (by rw [List.length_drop]; omega)
              have g2 := val_split (lu.drop (k - 1)) (mv + 1) (by rw [List.length_drop]; omega)
              have g3 : (lo.drop (k - 1)).drop (mv + 1) = (lu.drop (k - 1)).drop (mv + 1) := by
                rw [List.drop_drop, List.drop_drop]
                exact drop_congr fun j hj => hsame2 j (.inr hj)
              rw [hU, ← hwin] at g2
              rw [g1, hval2, g3]
              omega
            obtain ⟨w, hw⟩ := xat (l := lu) (k := k - 1) (by omega)
            have hw2 : lu0[k - 1]? = some w := by rw [← hsame (k - 1) (by omega)]; exact hw
            have hfin : val ((lq.set (k - 1) (U / Y)).drop (k - 1)) * Y + val (lo.drop (k - 1)) = val (lu0.drop (k - 1)) := by
              have g1 := val_drop hw
              have g2 := val_drop hw2
              have g3 := val_drop (l := lq.set (k - 1) (U / Y)) (k := k - 1) (List.getElem?_set_self (by omega))
              have g4 : (lq.set (k - 1) (U / Y)).drop (k - 1 + 1) = lq.drop (k - 1 + 1) := drop_congr fun j hj => List.getElem?_set_ne (by omega)
              rw [show k - 1 + 1 = k from by omega] at g1 g2 g3 g4
              rw [hab, g2, g3, g4, ← hQR, Nat.add_mul, Nat.mul_assoc, Nat.mul_add]
              have g5 := Nat.div_add_mod U Y
              rw [Nat.mul_comm] at g5
              rw [hU] at g1
              omega
            exact J.at' (k - 1, lo, lq.set (k - 1) (U / Y)) ⟨rfl, rfl, rfl, rfl, rfl, trivial⟩ ⟨⟨inferInstance, inferInstance, ho6, hoq6, by show k - 1 ≤ _; omega, fun j hj => (hsame2 j (.inl hj)).trans (hsame j (by have : j < k - 1 := hj; omega)), by show val (lo.drop (k - 1)) < Y; rw [hab]; exact hUlt2, hfin⟩, by show k - 1 < k; omega⟩
        · skip
          have hk0 : k = 0 := by omega
          subst hk0
          rw [List.drop_zero] at hRlt hQR
          rw [List.drop_zero, List.drop_zero, huv] at hQR
          obtain ⟨hQ, hR⟩ := div_fin hY hQR hRlt
          refine J.pub2 ho hoq fun W10 i10 s1 s2 => ?_
          refine J.exit rfl <| J.seq <| J.reg rfl <| O.mv rfl <| O.call rfl (ref01_trim_ok s2.to) fun W15 v15 i15 e15 h15 => O.mv rfl <| O.call rfl (ref01_trim_ok s1.to) fun W16 v16 i16 e16 h16 => ?_
          obtain ⟨p7, m7, c7, rfl, hs7⟩ := h16.sl
          refine O.mv rfl <| O.call rfl (ref01_back_ok hs7 (by have := len_mono (Nat.le_of_lt hRlt); omega) hs32) fun W17 v17 i17 e17 h17 => ?_
          rw [val_dig, hR, Nat.mul_div_cancel _ (Nat.two_pow_pos s)] at h17
          rw [hQ] at h15
          refine O.as rfl <| O.as rfl <| JO.nil <| J.ret2 rfl (.tmp rfl) (.tmp rfl) fun W' iE iP => ?_
          exact ⟨_, _, rfl, h15.to, h17.to⟩
/-- GCD -/
theorem ref01_GCD_ok {W : GW} {v v' : Value} {z z' : Int} (h : V RI W v (ci z)) (h' : V RI W v' (ci z')) (hl : (dig z.natAbs).length ≤ 1099511627776) (hl' : (dig z'.natAbs).length ≤ 1099511627776) :
    Ok Tryz.prog 71 [v, v'] W fun W' r => V RI W' r (ci (Int.gcd z z' : Int)) := by
  obtain ⟨p, m, c, rfl, hs⟩ := unI h
  obtain ⟨p', m', c', rfl, hs'⟩ := unI h'
  refine Ok.enter Tryz.func71 rfl rfl rfl rfl fun W0 iEn => ?_
  refine J.seq <| J.reg rfl <| O.box rfl fun W1 b1 i1 hb1 => O.box rfl fun W2 b2 i2 hb2 => O.alloc fun W3 b3 i3 hl3 hc3 hb3 => JO.nil <| J.seq <| ?_
  refine J.draw [.ex _, .ex _, .rel _, .ex _, .ex _, .rel _, .rel _] rfl rfl ⟨fun W1 i1 e1 _ => O.fa rfl <| D.ex, fun W1 i1 e1 _ => O.ldB rfl hb1.to rfl <| D.ex, fun W1 i1 e1 _ => O.call rfl (ref01_trimd_ok hs.to) fun W5 v5 i5 e5 h5 => D.rel e5 h5 V.me, fun W1 i1 e1 _ => O.fa rfl <| D.ex, fun W1 i1 e1 _ => O.ldB rfl hb2.to rfl <| D.ex, fun W1 i1 e1 _ => fun v11 h11 => O.call rfl (ref01_trimd_ok hs'.to) fun W5 v5 i5 e5 h5 => D.rel e5 h5 V.me, fun W1 i1 e1 _ => fun _ _ => fun v14 h14 => fun v11 h11 => O.as rfl (D.rel (Ext.refl _) h11 V.me), trivial⟩ ?_
  intro W1 i1 e1 v11 h11 v14 h14 v5 h5
  obtain ⟨px, mx, cx, rfl, hsx⟩ := h5.sl
  obtain ⟨py, my, cy, rfl, hsy⟩ := h14.sl
  refine O.as rfl <| JO.nil <| J.seq <| J.block <| ?_
  refine J.loop (α := (Option Addr × Nat × Nat × Nat) × Option Addr × Nat × Nat × Nat) (fun q => [(4, .pointer (some ⟨b3, 0, none⟩)), (5, .slice q.1.1 q.1.2.1 q.1.2.2.1), (6, .slice q.2.1 q.2.2.1 q.2.2.2.1)]) (fun q W => Lk W3 W ∧ Le W0 W ∧ Sl RW W q.1.1 q.1.2.1 q.1.2.2.1 (dig q.1.2.2.2) ∧ Sl RW W q.2.1 q.2.2.1 q.2.2.2.1 (dig q.2.2.2.2) ∧ Nat.gcd q.1.2.2.2 q.2.2.2.2 = Int.gcd z z' ∧ (dig q.1.2.2.2).length ≤ 1099511627776 ∧ (dig q.2.2.2.2).length ≤ 1099511627776) (fun q => q.2.2.2.2) ((px, mx, cx, z.natAbs), py, my, cy, z'.natAbs) ⟨rfl, rfl, rfl, trivial⟩ ⟨inferInstance, inferInstance, hsx.to, hsy.to, rfl, hl, hl'⟩ ?_
  rintro ⟨⟨p1, n1, c1, x1⟩, p2, n2, c2, x2⟩ W4 ⟨iL, _, h1, h2, hg, hx1, hx2⟩
  dsimp only at *
  have hn1 := h1.hn
  have hn2 := h2.hn
  have hz2 := @dig_len0 x2
  refine J.seq <| J.seq <| J.reg rfl <| O.mv rfl <| O.len rfl <| O.gtr rfl rfl <| JO.nil <| J.condD rfl (fun h17 => ?_) (fun h17 => ?_)
  · skip
    have hx20 : x2 ≠ 0 := fun e => by have := hz2.2 e; omega
    refine J.skip <| J.block <| J.seq <| J.reg rfl <| O.mv rfl <| O.mv rfl <| O.call rfl (ref01_divide_ok h1.to h2.to hx1 hx2 hx20) fun W5 v5 i5 e5 h5 => ?_
    obtain ⟨v6, v7, rfl, h6, h7⟩ := h5
    obtain ⟨p6, m6, c6, rfl, s6⟩ := h6.sl
    obtain ⟨p7, m7, c7, rfl, s7⟩ := h7.sl
    have hlt := Nat.mod_lt x1 (Nat.pos_of_ne_zero hx20)
    refine O.mv rfl <| O.ext rfl rfl <| O.ext rfl rfl <| O.as rfl <| O.as rfl <| JO.nil <| J.reg rfl <| O.mv rfl <| O.mv rfl <| O.as rfl <| O.as rfl <| JO.nil <| J.bend <| ?_
    exact J.at' ((p2, n2, c2, x2), p7, m7, c7, x1 % x2) ⟨rfl, rfl, rfl, trivial⟩ ⟨⟨inferInstance, inferInstance, h2.to, s7.to, by rw [← hg]; show Nat.gcd x2 (x1 % x2) = _; rw [Nat.gcd_comm x2, ← Nat.gcd_rec, Nat.gcd_comm], hx2, Nat.le_trans (len_mono (Nat.le_of_lt hlt)) hx2⟩, hlt⟩
  · skip
    refine J.exit rfl <| J.seq <| J.reg rfl <| O.mv rfl <| O.call rfl (ref01_signedd_ok false h1.to) fun W6 v6 i6 e6 h6 => ?_
    obtain ⟨p4, m4, c4, rfl, hs4⟩ := unI h6
    refine O.st rfl rfl hl3.to rfl (by simp [oneC, Value.cells]) fun W4 i4 hc4 => JO.nil <| J.ret1 rfl (.cell rfl hc4 rfl) fun W' iE iP => ?_
    have h0 : x2 = 0 := hz2.1 (by omega)
    subst h0
    rw [Nat.gcd_zero_right] at hg
    rw [← hg, ← sg_false]
    exact mkI hs4.to
end Go.Proofs.YtcaikjefkkejbaaGreat
