/- The program's integers, the words, sixth part: divide. -/
import Derived.Test.YtcaikjefkkejbaaGreatIu
set_option linter.unusedVariables false
set_option linter.unusedSimpArgs false
set_option maxRecDepth 10000
set_option maxHeartbeats 4000000
namespace Go.Proofs.YtcaikjefkkejbaaGreat
open Go Go.Rx Go.Num
/-- a number of n words, shifted until its first bit is 1 -/
theorem norm_len {y n : Nat} (hy : y ≠ 0) {t : Nat} (ht : (dig y)[(dig y).length - 1]? = some t) (h1 : 2147483648 ≤ t * 2 ^ n) (h2 : t * 2 ^ n < 4294967296) :
    (dig (y * 2 ^ n)).length = (dig y).length ∧ ∃ t', (dig (y * 2 ^ n))[(dig y).length - 1]? = some t' ∧ 2147483648 ≤ t' := by
  have hl : (dig y).length ≠ 0 := fun h => hy (dig_eq_nil.1 (List.eq_nil_of_length_eq_zero h))
  have hs := val_take_succ ht
  rw [show (dig y).length - 1 + 1 = (dig y).length from by omega, List.take_length, val_dig] at hs
  have hlo := val_lt ((words_dig y).take ((dig y).length - 1))
  rw [List.length_take, Nat.min_eq_left (by omega)] at hlo
  generalize hk : (dig y).length - 1 = k at *
  have hlow : 4294967296 ^ k * 2147483648 ≤ y * 2 ^ n := by
    rw [hs, Nat.add_mul, Nat.mul_assoc]
    have := Nat.mul_le_mul_left (4294967296 ^ k) h1
    omega
  have hup : y * 2 ^ n < 4294967296 ^ (k + 1) := by
    have e : y + 1 ≤ 4294967296 ^ k * (t + 1) := by rw [hs, Nat.mul_add]; omega
    have e2 : t * 2 ^ n + 2 ^ n ≤ 4294967296 := by
      have hd : 2 ^ n ∣ 4294967296 := by
        have hn : n < 32 := by
          have : 2 ^ n < 2 ^ 32 := by
            have := Nat.le_mul_of_pos_left (2 ^ n) (show 0 < t from by rcases Nat.eq_zero_or_pos t with h | h; rw [h] at h1; simp at h1; exact h)
            omega
          exact (Nat.pow_lt_pow_iff_right (by decide : 1 < 2)).1 this
        exact ⟨2 ^ (32 - n), by rw [← Nat.pow_add, show n + (32 - n) = 32 from by omega]⟩
      obtain ⟨q, hq⟩ := hd
      rw [hq, Nat.mul_comm t] at h2
      have := Nat.lt_of_mul_lt_mul_left h2
      rw [hq, Nat.mul_comm t, ← Nat.mul_succ]
      exact Nat.mul_le_mul_left _ this
    have e3 := Nat.mul_le_mul_right (2 ^ n) e
    rw [Nat.mul_assoc, Nat.add_mul t, Nat.one_mul] at e3
    have e4 := Nat.mul_le_mul_left (4294967296 ^ k) e2
    have hp := Nat.two_pow_pos n
    rw [Nat.add_mul, Nat.one_mul] at e3
    rw [Nat.pow_succ]
    omega
  have hlen : (dig (y * 2 ^ n)).length = (dig y).length := by
    have h3 := dig_len_le hup
    have h4 : k < (dig (y * 2 ^ n)).length := by
      apply Classical.byContradiction
      intro hn
      have := dig_ub (y * 2 ^ n)
      have h5 : 4294967296 ^ (dig (y * 2 ^ n)).length ≤ 4294967296 ^ k := Nat.pow_le_pow_right (by decide) (by omega)
      have : 4294967296 ^ k ≤ 4294967296 ^ k * 2147483648 := Nat.le_mul_of_pos_right _ (by decide)
      omega
    omega
  refine ⟨hlen, ?_⟩
  obtain ⟨t', ht'⟩ := xat (l := dig (y * 2 ^ n)) (k := k) (by omega)
  refine ⟨t', ht', ?_⟩
  have hs' := val_take_succ ht'
  rw [show k + 1 = (dig (y * 2 ^ n)).length from by omega, List.take_length, val_dig] at hs'
  have hlo' := val_lt ((words_dig (y * 2 ^ n)).take k)
  rw [List.length_take, Nat.min_eq_left (by omega)] at hlo'
  apply Classical.byContradiction
  intro hn
  have : 4294967296 ^ k * (t' + 1) ≤ 4294967296 ^ k * 2147483648 := Nat.mul_le_mul_left _ (by omega)
  rw [Nat.mul_add] at this
  omega
/-- the window of the long division -/
theorem window {lu : List Nat} {i n : Nat} {Y : Nat} (hw : Words lu) (hi : i + n < lu.length) (hR : val (lu.drop (i + 1)) < Y) (hY : Y ≤ 4294967296 ^ n) :
    val (lu.drop i) = val ((lu.drop i).take (n + 1)) ∧ val (lu.drop i) < 4294967296 * Y := by
  obtain ⟨u, hu⟩ := xat (l := lu) (k := i) (by omega)
  have hub := hw u (List.mem_of_getElem? hu)
  have h1 := val_drop hu
  have h2 : val (lu.drop i) < 4294967296 * Y := by
    rw [h1]
    have := Nat.mul_le_mul_left 4294967296 (show val (lu.drop (i + 1)) + 1 ≤ Y from hR)
    omega
  refine ⟨?_, h2⟩
  have h3 := val_split (lu.drop i) (n + 1) (by rw [List.length_drop]; omega)
  rw [h3]
  have h4 : val (lu.drop i) < 4294967296 ^ (n + 1) := by
    have := Nat.mul_le_mul_left 4294967296 hY
    rw [Nat.pow_succ, Nat.mul_comm (4294967296 ^ n)]
    omega
  rcases Nat.eq_zero_or_pos (val ((lu.drop i).drop (n + 1))) with h5 | h5
  · rw [h5, Nat.mul_zero, Nat.add_zero]
  · have := Nat.le_mul_of_pos_right (4294967296 ^ (n + 1)) h5
    omega
theorem drop_congr {l m : List Nat} {k : Nat} (h : ∀ j, k ≤ j → l[j]? = m[j]?) : l.drop k = m.drop k := by
  apply List.ext_getElem?
  intro i
  rw [List.getElem?_drop, List.getElem?_drop]
  exact h _ (by omega)
theorem usplit (M low u0 u1 u2 : Nat) : low + M * u2 + M * 4294967296 * u1 + M * 4294967296 * 4294967296 * u0 = low + M * (u2 + 4294967296 * (u0 * 2 ^ 32 + u1)) := by
  grind
theorem cmpI_neg {x y : Nat} : cmpI (x : Int) (y : Int) < 0 ↔ x < y := by
  unfold cmpI
  split
  · constructor <;> intro <;> omega
  · split
    · constructor <;> intro <;> omega
    · constructor <;> intro <;> omega
theorem V.exme {r : Rep (List Nat)} {p : List Nat → Prop} : MonoR (fun W v => ∃ l, p l ∧ V r W v l) := fun _ _ _ e ⟨l, h1, h2⟩ => ⟨l, h1, h2.mono e.toLeS.f⟩
theorem div_fin {x y Y s Q R : Nat} (hY : y * 2 ^ s = Y) (h : Q * Y + R = x * 2 ^ s) (hR : R < Y) : Q = x / y ∧ R = x % y * 2 ^ s := by
  have h1 : Q = (x * 2 ^ s) / (y * 2 ^ s) := by
    rw [hY, ← h, Nat.mul_comm, Nat.mul_add_div (by omega), Nat.div_eq_of_lt hR, Nat.add_zero]
  have h2 : R = (x * 2 ^ s) % (y * 2 ^ s) := by
    rw [hY, ← h, Nat.mul_comm, Nat.mul_add_mod, Nat.mod_eq_of_lt hR]
  rw [Nat.mul_div_mul_right _ _ (Nat.two_pow_pos s)] at h1
  rw [Nat.mul_mod_mul_right] at h2
  exact ⟨h1, h2⟩
/-- divide -/
theorem integer_divide_ok {W : GW} {p q : Option Addr} {m c m' c' x y : Nat} (h : Sl RW W p m c (dig x)) (h' : Sl RW W q m' c' (dig y)) (hx : (dig x).length ≤ 1099511627776) (hy : (dig y).length ≤ 1099511627776) (hy0 : y ≠ 0) :
    Ok Tryz.prog 156 [.slice p m c, .slice q m' c'] W fun W' v => ∃ v1 v2, v = .tuple #[v1, v2] ∧ V (RSl RW) W' v1 (dig (x / y)) ∧ V (RSl RW) W' v2 (dig (x % y)) := by
  have hn := h.hn
  have hn' := h'.hn
  have hb := h.hC
  have hb1 := h.hc
  refine Ok.enter Tryz.func156 rfl rfl rfl rfl fun W0 iEn => ?_
  refine J.seq <| J.reg rfl <| O.as rfl <| O.as rfl <| JO.nil <| J.seq <| J.block <| J.seq <| J.reg rfl <| O.mv rfl <| O.mv rfl <| O.call rfl (integer_compare_ok h.to h'.to) fun W2 v2 i2 e2 h2 => ?_
  subst h2
  refine O.lt rfl rfl <| O.as rfl <| JO.nil <| J.condD rfl (fun h19 => ?_) (fun h19 => ?_)
  · skip
    refine J.seq <| J.reg rfl <| O.mv rfl <| O.call rfl (clone_u32_ok h.to (by omega)) fun W3 v3 i3 e3 h3 => O.as rfl <| O.as rfl <| JO.nil <| J.ret2 rfl (.tmp rfl) (.tmp rfl) fun W' iE iP => ?_
    have hlt : x < y := cmpI_neg.1 h19
    rw [Nat.div_eq_of_lt hlt, Nat.mod_eq_of_lt hlt, dig_zero]
    exact ⟨_, _, rfl, (nil_sl _ _ _).v, h3.to⟩
  · skip
    have hge : y ≤ x := Nat.le_of_not_lt fun hlt => h19 (cmpI_neg.2 hlt)
    have hlenle := len_mono hge
    refine J.seq <| J.reg rfl <| O.mv rfl <| O.len rfl <| O.le rfl rfl <| O.as rfl <| JO.nil <| J.condD rfl (fun h26 => ?_) (fun h26 => ?_)
    · skip
      have hx64 : x < 18446744073709551616 := by
        have := dig_ub x
        have h1 : 4294967296 ^ (dig x).length ≤ 4294967296 ^ 2 := Nat.pow_le_pow_right (by decide) (by omega)
        omega
      refine J.seq <| J.reg rfl <| O.mv rfl <| O.call rfl (integer_toUint_ok h.to hx64) fun W3 v3 i3 e3 h3 => ?_
      subst h3
      refine O.mv rfl <| O.call rfl (integer_toUint_ok h'.to (by omega)) fun W4 v4 i4 e4 h4 => ?_
      subst h4
      refine O.as rfl <| O.as rfl <| JO.nil <| J.seq <| ?_
      refine J.sub [(6, .int .u64 (x : Int)), (7, .int .u64 (y : Int))] ⟨rfl, rfl, trivial⟩ ?_
      have hq64 : x / y < 18446744073709551616 := Nat.lt_of_le_of_lt (Nat.div_le_self ..) hx64
      have hr64 : x % y < 18446744073709551616 := Nat.lt_of_le_of_lt (Nat.mod_le ..) hx64
      refine J.draw [.ex _, .ex _, .ex _, .rel _, .ex _, .ex _, .ex _, .rel _, .rel _] rfl rfl ⟨fun W1 i1 e1 _ => O.mv rfl <| D.ex, fun W1 i1 e1 _ => O.mv rfl <| D.ex, fun W1 i1 e1 _ => O.quo (r := ((x / y : Nat) : Int)) rfl rfl (by omega) (tquo x y hx64) <| D.ex, fun W1 i1 e1 _ => O.call rfl (integer_fromUint_ok hq64) fun W5 v5 i5 e5 h5 => D.rel e5 h5 V.me, fun W1 i1 e1 _ => O.mv rfl <| D.ex, fun W1 i1 e1 _ => O.mv rfl <| D.ex, fun W1 i1 e1 _ => O.rem (r := ((x % y : Nat) : Int)) rfl rfl (by omega) (trem x y) <| D.ex, fun W1 i1 e1 _ => fun v37 h37 => O.call rfl (integer_fromUint_ok hr64) fun W6 v6 i6 e6 h6 => D.rel e6 h6 V.me, fun W1 i1 e1 _ => fun _ _ => fun v41 h41 => fun v37 h37 => O.as rfl (D.rel (Ext.refl _) h37 V.me), trivial⟩ ?_
      intro W1 i1 e1 v37 h37 v41 h41 v4 h4
      refine O.as rfl <| JO.nil <| J.ret2 rfl (.tmp rfl) (.tmp rfl) fun W' iE iP => ?_
      exact ⟨_, _, rfl, h4.to, h41.to⟩
    · skip
      refine J.seq <| J.reg rfl <| O.mv rfl <| O.len rfl <| O.eq rfl rfl <| O.as rfl <| JO.nil <| J.condD rfl (fun h42 => ?_) (fun h42 => ?_)
      · skip
        obtain ⟨t, ht⟩ := xat (l := dig y) (k := 0) (by omega)
        have htb := words_dig y t (List.mem_of_getElem? ht)
        have hyt : y = t := by
          have := val_take_succ ht
          rw [List.take_of_length_le (by omega), val_dig] at this
          simpa [val] using this
        refine J.seq <| J.reg rfl <| O.mv rfl <| O.mv rfl <| O.ixW (j := 0) rfl rfl rfl h'.to ht fun a1 => O.call rfl (integer_divideWord_ok (y := t) h.to hx htb (by omega)) fun W5 v5 i5 e5 h5 => ?_
        obtain ⟨v6, v7, rfl, h6, h7⟩ := h5
        refine O.ext rfl rfl <| O.ext rfl rfl <| O.as rfl <| O.as rfl <| JO.nil <| J.ret2 rfl (.tmp rfl) (.tmp rfl) fun W' iE iP => ?_
        rw [hyt]
        exact ⟨_, _, rfl, h6.to, h7.to⟩
      · skip
        have hy2 : 2 ≤ (dig y).length := by
          have : (dig y).length ≠ 0 := fun h => hy0 (dig_eq_nil.1 (List.eq_nil_of_length_eq_zero h))
          omega
        obtain ⟨t, ht⟩ := xat (l := dig y) (k := m' - 1) (by omega)
        have htb := words_dig y t (List.mem_of_getElem? ht)
        have ht0 : t ≠ 0 := by
          rcases trim_dig y with h | ⟨t2, h2, h3⟩
          · rw [h] at hy2; simp at hy2
          · rw [← hn', ht] at h2; injection h2 with h2; rw [h2]; exact h3
        refine J.skip <| J.bend <| J.seq <| J.reg rfl <| O.mv rfl <| O.mv rfl <| O.len rfl <| O.sb rfl rfl (wI (by omega)) <| O.ixW (j := m' - 1) rfl rfl (by omega) h'.to ht fun a1 => O.call rfl (math_bits_LeadingZeros32_ok htb ht0) fun W3 v3 i3 e3 h3 => ?_
        obtain ⟨s, rfl, hs32, hs1, hs2⟩ := h3
        rw [hn'] at ht
        obtain ⟨hlen, t', ht', htt⟩ := norm_len hy0 ht hs1 hs2
        refine O.as rfl <| JO.nil <| J.seq <| J.reg rfl <| O.mv rfl <| O.mv rfl <| O.call rfl (integer_shiftLeft_own h.to hx hs32) fun W4 v4 i4 e4 h4 => ?_
        obtain ⟨lu0, hul, huv, pu, mu, cu, rfl, hou0, hfu⟩ := h4
        refine O.mv rfl <| O.mv rfl <| O.call rfl (integer_shiftLeft_ok h'.to hy hs32) fun W5 v5 i5 e5 h5 => ?_
        obtain ⟨lv, hvl, hvv, hv⟩ := h5
        obtain ⟨pv0, mv0, cv0, rfl, hsv⟩ := hv.sl
        refine O.call rfl (integer_trim_ok hsv) fun W6 v6 i6 e6 h6 => ?_
        rw [hvv] at h6
        obtain ⟨pv, mv, cv, rfl, hsv2⟩ := h6.sl
        have hou1 := (hou0.ext e5).ext e6
        have hmu := hou0.hn
        have hmv := hsv2.hn
        generalize hY : y * 2 ^ s = Y at *
        obtain ⟨bu, rfl⟩ : ∃ b, pu = some ⟨b, 0, none⟩ := by
          rcases hou0.h with h0 | ⟨b, _, _, hp, _⟩
          · have := hou0.hc; omega
          · exact ⟨b, hp⟩
        refine O.as rfl <| O.as rfl <| JO.nil <| J.seq <| J.reg rfl <| O.mv rfl <| O.len rfl <| O.as rfl <| JO.nil <| J.seq <| J.reg rfl <| O.mv rfl <| O.len rfl <| O.mv rfl <| O.sb rfl rfl (wI (by omega)) <| O.mk (r := RW) (m := mu - mv) (c := mu - mv) 0 rfl rfl (by omega) (by omega) (Nat.le_refl _) (by omega) (by omega) rfl rfl (by decide) (fun _ => ⟨rfl, by decide⟩) fun W7 bq i7 e7 hbq hoq0 => O.as rfl <| JO.nil <| J.seq <| ?_
        have hou := hou1.ext e7
        have hbne : bu ≠ bq := by
          rcases hou1.h with h0 | ⟨b, cs, T, hp, hA, hm, hb, _⟩
          · have := hou1.hc; omega
          · injection hp with hp
            injection hp with hp _ _
            have : b < W6.size := lt_of_heap hb
            omega
        obtain ⟨tn, htn⟩ := xat (l := dig Y) (k := mv - 2) (by omega)
        have htnb := words_dig Y tn (List.mem_of_getElem? htn)
        have ht1 : (dig Y)[mv - 1]? = some t' := by rw [hmv, hlen]; exact ht'
        have htb1 := words_dig Y t' (List.mem_of_getElem? ht1)
        obtain ⟨bv, ov, rfl, hjv, hwv⟩ := hsv2.word ht1
        obtain ⟨bv2, ov2, hp2, hjn, hwn⟩ := hsv2.word htn
        obtain ⟨rfl, rfl⟩ : bv = bv2 ∧ ov = ov2 := by injection hp2 with h; injection h with h1 h2; exact ⟨h1, h2⟩
        refine J.draw [.ex _, .ex _, .ex _, .ex _, .ex _, .ex _, .ex _, .ex _, .ex _, .ex _, .ex _, .ex _, .ex _] rfl rfl ⟨fun W1 i1 e1 _ => O.mv rfl <| D.ex, fun W1 i1 e1 _ => O.mv rfl <| D.ex, fun W1 i1 e1 _ => O.sb rfl rfl (wI (by omega)) <| D.ex, fun W1 i1 e1 _ => O.ia (j := mv - 1) rfl rfl (by omega) hjv <| D.ex, fun W1 i1 e1 _ => O.ldC rfl (hwv _ Lf.s) <| D.ex, fun W1 i1 e1 _ => O.cv rfl (wU (by omega)) <| D.ex, fun W1 i1 e1 _ => O.mv rfl <| D.ex, fun W1 i1 e1 _ => O.mv rfl <| D.ex, fun W1 i1 e1 _ => O.sb rfl rfl (wI (by omega)) <| D.ex, fun W1 i1 e1 _ => O.ia (j := mv - 2) rfl rfl (by omega) hjn <| D.ex, fun W1 i1 e1 _ => O.ldC rfl (hwn _ Lf.s) <| D.ex, fun W1 i1 e1 _ => O.cv rfl (wU (by omega)) <| D.ex, fun W1 i1 e1 _ => O.as rfl <| D.ex, trivial⟩ ?_
        intro W1 i1 e1
        refine O.as rfl <| JO.nil <| J.seq <| J.seq <| J.reg rfl <| O.mv rfl <| O.len rfl <| O.sb rfl rfl (wI (by omega)) <| O.as rfl <| JO.nil <| J.block <| ?_
        have hY0 : Y ≠ 0 := by
          rw [← hY]; exact Nat.mul_ne_zero hy0 (Nat.pos_iff_ne_zero.1 (Nat.two_pow_pos s))
        have hYl := dig_ub Y
        have hYsplit : Y = val ((dig Y).take (mv - 2)) + 4294967296 ^ (mv - 2) * (tn + 4294967296 * t') := by
          have h1 := val_take_succ htn
          have h2 := val_take_succ (k := mv - 2 + 1) (l := dig Y) (x := t') (by rw [show mv - 2 + 1 = mv - 1 from by omega]; exact ht1)
          rw [show mv - 2 + 1 + 1 = (dig Y).length from by omega, List.take_length, val_dig, h1, Nat.pow_succ, Nat.mul_assoc] at h2
          rw [Nat.mul_add]; omega
        have hvlow : val ((dig Y).take (mv - 2)) < 4294967296 ^ (mv - 2) := by
          have := val_lt ((words_dig Y).take (mv - 2))
          rwa [List.length_take, Nat.min_eq_left (by omega)] at this
        have hM : 0 < 4294967296 ^ (mv - 2) := Nat.pow_pos (by decide)
        have hou2 := hou.ext e1
        have hoq2 := hoq0.ext e1
        have hR0 : val (lu0.drop (mu - mv)) < Y := by
          have h1 := val_split lu0 (mu - mv) (by omega)
          rw [huv] at h1
          have h2 := dig_lb hy0
          have h3 := dig_ub x
          have hp := Nat.two_pow_pos s
          apply Classical.byContradiction
          intro hn2
          have h4 : 4294967296 ^ (mu - mv) * Y ≤ x * 2 ^ s := by
            rw [h1]
            have := Nat.mul_le_mul_left (4294967296 ^ (mu - mv)) (Nat.le_of_not_lt hn2)
            omega
          rw [← hY, ← Nat.mul_assoc] at h4
          have h5 := Nat.le_of_mul_le_mul_right h4 hp
          have h6 := Nat.mul_le_mul_left (4294967296 ^ (mu - mv)) h2
          rw [← Nat.pow_add, show mu - mv + ((dig y).length - 1) = (dig x).length from by omega] at h6
          omega
        refine J.loop (α := Nat × List Nat × List Nat) (fun g => [(8, .int .i64 (s : Int)), (9, .slice (some ⟨bu, 0, none⟩) mu cu), (10, .slice (some ⟨bv, ov, none⟩) mv cv), (11, .int .i64 (mv : Int)), (12, .slice (some ⟨bq, 0, none⟩) (mu - mv) (mu - mv)), (13, .int .u64 (t' : Int)), (14, .int .u64 (tn : Int)), (15, .int .i64 ((g.1 : Int) - 1))]) (fun g W' => Le W0 W' ∧ Le W6 W' ∧ Ows RW W' (some ⟨bu, 0, none⟩) mu cu g.2.1 ∧ Ows RW W' (some ⟨bq, 0, none⟩) (mu - mv) (mu - mv) g.2.2 ∧ g.1 ≤ mu - mv ∧ (∀ j, j < g.1 → g.2.1[j]? = lu0[j]?) ∧ val (g.2.1.drop g.1) < Y ∧ val (g.2.2.drop g.1) * Y + val (g.2.1.drop g.1) = val (lu0.drop g.1)) (fun g => g.1) (mu - mv, lu0, List.replicate (mu - mv) 0) ⟨rfl, rfl, rfl, rfl, rfl, rfl, rfl, by rw [show ((mu - mv : Nat) : Int) - 1 = ((mu - mv : Nat) : Int) - 1 from rfl]; rfl, trivial⟩ ⟨inferInstance, inferInstance, hou2, hoq2, Nat.le_refl _, fun _ _ => rfl, hR0, by dsimp only; rw [List.drop_eq_nil_of_le (by simp : (List.replicate (mu - mv) 0).length ≤ mu - mv)]; simp [val]⟩ ?_
        rintro ⟨k, lu, lq⟩ W9 ⟨_, _, ho, hoq, hk, hsame, hRlt, hQR⟩
        dsimp only at *
        have hln := ho.hn
        have hlq := hoq.hn
        refine J.seq <| J.seq <| J.reg rfl <| O.mv rfl <| O.ge rfl rfl <| JO.nil <| J.condD rfl (fun h90 => ?_) (fun h90 => ?_)
        · skip
          obtain ⟨u0, hu0⟩ := xat (l := lu) (k := k - 1 + mv) (by omega)
          obtain ⟨u1, hu1⟩ := xat (l := lu) (k := k - 1 + mv - 1) (by omega)
          obtain ⟨u2, hu2⟩ := xat (l := lu) (k := k - 1 + mv - 2) (by omega)
          have hub0 := own_val_word ho hu0
          have hub1 := own_val_word ho hu1
          have hub2 := own_val_word ho hu2
          obtain ⟨_, hw0⟩ := ho.word hu0
          obtain ⟨_, hw1⟩ := ho.word hu1
          obtain ⟨hwin, hUlt⟩ := window (n := mv) (i := k - 1) (Y := Y) (ownw ho) (by omega) (by rw [show k - 1 + 1 = k from by omega]; exact hRlt) (by rw [hmv]; exact Nat.le_of_lt hYl)
          generalize hU : val (lu.drop (k - 1)) = U at *
          have hUsplit : U = val ((lu.drop (k - 1)).take (mv - 2)) + 4294967296 ^ (mv - 2) * (u2 + 4294967296 * (u0 * 2 ^ 32 + u1)) := by
            have g1 := val_wsucc (l := lu) (q := k - 1) (i := mv - 2) (u := u2) (by rw [show k - 1 + (mv - 2) = k - 1 + mv - 2 from by omega]; exact hu2)
            have g2 := val_wsucc (l := lu) (q := k - 1) (i := mv - 2 + 1) (u := u1) (by rw [show k - 1 + (mv - 2 + 1) = k - 1 + mv - 1 from by omega]; exact hu1)
            have g3 := val_wsucc (l := lu) (q := k - 1) (i := mv - 2 + 1 + 1) (u := u0) (by rw [show k - 1 + (mv - 2 + 1 + 1) = k - 1 + mv from by omega]; exact hu0)
            rw [show mv - 2 + 1 + 1 + 1 = mv + 1 from by omega, g2, g1, ← hwin] at g3
            rw [g3, Nat.pow_succ, Nat.pow_succ]
            exact usplit ..
          have hlow : val ((lu.drop (k - 1)).take (mv - 2)) < 4294967296 ^ (mv - 2) := by
            have := val_lt (((ownw ho).drop (k - 1)).take (mv - 2))
            rwa [List.length_take, List.length_drop, Nat.min_eq_left (by omega)] at this
          generalize hlowg : val ((lu.drop (k - 1)).take (mv - 2)) = low at *
          generalize hvlowg : val ((dig Y).take (mv - 2)) = vlow at *
          generalize hMg : 4294967296 ^ (mv - 2) = M at *
          refine J.skip <| J.seq <| J.block <| J.seq <| ?_
          refine J.draw [.ex _, .ex _, .ex _, .ex _, .ex _, .ex _, .ex _, .ex _, .ex _, .ex _, .ex _, .ex _, .ex _, .ex _, .ex _, .ex _, .ex _] rfl rfl ⟨fun W1 i1 e1 _ => O.mv rfl <| D.ex, fun W1 i1 e1 _ => O.mv rfl <| D.ex, fun W1 i1 e1 _ => O.mv rfl <| D.ex, fun W1 i1 e1 _ => O.add rfl rfl (wI (by omega)) <| D.ex, fun W1 i1 e1 _ => O.ia (j := k - 1 + mv) rfl rfl (by omega) (by omega) <| D.ex, fun W1 i1 e1 _ => O.ldC rfl (hw0 _ i1 e1) <| D.ex, fun W1 i1 e1 _ => O.cv rfl (wU (by omega)) <| D.ex, fun W1 i1 e1 _ => O.shl (r := ((u0 * 2 ^ 32 : Nat) : Int)) rfl rfl (by decide) (shl_eq (u := u0) (n := 32) (by omega) (by omega)) <| D.ex, fun W1 i1 e1 _ => O.mv rfl <| D.ex, fun W1 i1 e1 _ => O.mv rfl <| D.ex, fun W1 i1 e1 _ => O.mv rfl <| D.ex, fun W1 i1 e1 _ => O.add rfl rfl (wI (by omega)) <| D.ex, fun W1 i1 e1 _ => O.sb rfl rfl (wI (by omega)) <| D.ex, fun W1 i1 e1 _ => O.ia (j := k - 1 + mv - 1) rfl rfl (by omega) (by omega) <| D.ex, fun W1 i1 e1 _ => O.ldC rfl (hw1 _ i1 e1) <| D.ex, fun W1 i1 e1 _ => O.cv rfl (wU (by omega)) <| D.ex, fun W1 i1 e1 _ => O.or (p := u0 * 2 ^ 32) (q := u1) (r := ((u0 * 2 ^ 32 + u1 : Nat) : Int)) rfl rfl rfl rfl (by show _ < 18446744073709551616; omega) (by show _ < 18446744073709551616; omega) (by rw [or_add u1 u0 32 (by omega)]; exact wU (by omega)) <| D.ex, trivial⟩ ?_
          intro W1 i1 e1
          refine O.as rfl <| JO.nil <| J.seq <| ?_
          have htop : u0 * 2 ^ 32 + u1 < 18446744073709551616 := by omega
          generalize htopg : u0 * 2 ^ 32 + u1 = top at *
          have ho2 := ho.ext e1
          have hoq3 := hoq.ext e1
          refine J.draw [.ex _, .ex _, .ex _, .ex _, .ex _, .ex _, .ex _] rfl rfl ⟨fun W1 i1 e1 _ => O.mv rfl <| D.ex, fun W1 i1 e1 _ => O.mv rfl <| D.ex, fun W1 i1 e1 _ => O.quo (r := ((top / t' : Nat) : Int)) rfl rfl (by omega) (tquo top t' htop) <| D.ex, fun W1 i1 e1 _ => O.mv rfl <| D.ex, fun W1 i1 e1 _ => O.mv rfl <| D.ex, fun W1 i1 e1 _ => O.rem (r := ((top % t' : Nat) : Int)) rfl rfl (by omega) (trem top t') <| D.ex, fun W1 i1 e1 _ => O.as rfl <| D.ex, trivial⟩ ?_
          intro W1 i1 e1
          refine O.as rfl <| JO.nil <| J.seq <| ?_
          refine J.cut (α := Nat) (fun dd => [(8, .int .i64 (s : Int)), (9, .slice (some ⟨bu, 0, none⟩) mu cu), (10, .slice (some ⟨bv, ov, none⟩) mv cv), (11, .int .i64 (mv : Int)), (12, .slice (some ⟨bq, 0, none⟩) (mu - mv) (mu - mv)), (13, .int .u64 (t' : Int)), (14, .int .u64 (tn : Int)), (15, .int .i64 ((k : Int) - 1)), (17, .int .u64 (dd : Int))]) (fun dd W' => W' = W1 ∧ dd < 4294967296 ∧ U / Y ≤ dd ∧ dd ≤ U / Y + 1) ?_ ?_
          · skip
            refine J.block <| ?_
            have ho3 := ho2.ext e1
            have hoq4 := hoq3.ext e1
            have hUM : U = low + M * (u2 + 4294967296 * top) := hUsplit
            have hYM : Y = vlow + M * (tn + 4294967296 * t') := hYsplit
            have hd63 : top / t' < 9223372036854775808 := by
              rw [Nat.div_lt_iff_lt_mul (by omega)]
              have := Nat.mul_le_mul_left 9223372036854775808 htt
              omega
            have hq0 : U / Y ≤ top / t' := by
              apply Nat.le_of_not_lt
              intro hlt
              have h1 : (top / t' + 1) * Y ≤ U := by
                have := Nat.div_mul_le_self U Y
                exact Nat.le_trans (Nat.mul_le_mul_right _ hlt) this
              have h2 := Nat.div_add_mod top t'
              have h3 := Nat.mod_lt top (show 0 < t' by omega)
              have h4 : (top / t' + 1) * t' ≥ top + 1 := by rw [Nat.add_mul, Nat.mul_comm, Nat.one_mul]; omega
              have h5 : (top / t' + 1) * (M * (4294967296 * t')) ≤ (top / t' + 1) * Y := Nat.mul_le_mul_left _ (by rw [hYM, Nat.mul_add]; omega)
              have h6 : (top / t' + 1) * (M * (4294967296 * t')) = M * (4294967296 * ((top / t' + 1) * t')) := by grind
              have h7 : M * (4294967296 * (top + 1)) ≤ M * (4294967296 * ((top / t' + 1) * t')) := Nat.mul_le_mul_left _ (Nat.mul_le_mul_left _ h4)
              have h8 : M * (u2 + 4294967296 * top + 1) ≤ M * (4294967296 * (top + 1)) := Nat.mul_le_mul_left _ (by omega)
              rw [Nat.mul_add M _ 1, Nat.mul_one] at h8
              omega
            refine J.loop (α := Nat × Nat) (fun g => [(8, .int .i64 (s : Int)), (9, .slice (some ⟨bu, 0, none⟩) mu cu), (10, .slice (some ⟨bv, ov, none⟩) mv cv), (11, .int .i64 (mv : Int)), (12, .slice (some ⟨bq, 0, none⟩) (mu - mv) (mu - mv)), (13, .int .u64 (t' : Int)), (14, .int .u64 (tn : Int)), (15, .int .i64 ((k : Int) - 1)), (17, .int .u64 (g.1 : Int)), (18, .int .u64 (g.2 : Int))]) (fun g W' => W' = W1 ∧ U / Y ≤ g.1 ∧ g.1 * t' + g.2 = top ∧ g.2 < 4294967296 ∧ g.1 < 9223372036854775808) (fun g => g.1) (top / t', top % t') ⟨rfl, rfl, rfl, rfl, rfl, rfl, rfl, rfl, rfl, rfl, trivial⟩ ⟨rfl, hq0, by dsimp only; rw [Nat.mul_comm]; exact Nat.div_add_mod .., by show top % t' < _; have := Nat.mod_lt top (show 0 < t' by omega); omega, hd63⟩ ?_
            rintro ⟨dd, r⟩ Wd ⟨rfl, hdq, hdt, hr, hd63⟩
            dsimp only at *
            refine J.seq <| J.seq <| J.reg rfl <| O.mv rfl <| O.ge rfl rfl <| O.mv rfl <| ?_
            by_cases hg118 : 4294967296 ≤ dd
            · skip
              refine O.set (t := 118) (.bool true) rfl (by simp only [Value.bool.injEq, decide_eq_true_eq, decide_eq_false_iff_not]; omega) <| O.gs rfl rfl rfl <| O.gs rfl rfl rfl <| O.gs rfl rfl rfl <| O.gs rfl rfl rfl <| O.gs rfl rfl rfl <| O.gs rfl rfl rfl <| O.gs rfl rfl rfl <| O.gs rfl rfl rfl <| O.gs rfl rfl rfl <| O.gs rfl rfl rfl <| O.gs rfl rfl rfl <| O.gs rfl rfl rfl <| O.gs rfl rfl rfl <| O.gs rfl rfl rfl <| O.gs rfl rfl rfl <| O.pickT rfl rfl <| JO.nil <| J.condT rfl <| ?_
              have hUq : U / Y < dd := est_ge hUlt (Nat.pos_of_ne_zero hY0) hg118
              have hdd1 : 1 ≤ dd := Nat.lt_of_le_of_lt (Nat.zero_le _) hUq
              have hdd : (dd - 1) * t' + (r + t') = top := by
                obtain ⟨e, rfl⟩ : ∃ e, dd = e + 1 := ⟨dd - 1, by omega⟩
                rw [Nat.add_sub_cancel]; rw [Nat.add_mul, Nat.one_mul] at hdt; omega
              refine J.skip <| J.block <| J.seq <| J.reg rfl <| O.mv rfl <| O.sb (r := ((dd - 1 : Nat) : Int)) rfl rfl ((wU (by omega)).trans (by omega)) <| O.as rfl <| JO.nil <| J.seq <| J.reg rfl <| O.mv rfl <| O.mv rfl <| O.add (r := ((r + t' : Nat) : Int)) rfl rfl ((wU (by omega)).trans (by omega)) <| O.as rfl <| JO.nil <| J.seq <| J.reg rfl <| O.mv rfl <| O.ge rfl rfl <| JO.nil <| J.condD rfl (fun h141 => ?_) (fun h141 => ?_)
              · skip
                refine J.exit rfl <| ?_
                have hdB : dd - 1 < 4294967296 := by
                  apply Classical.byContradiction
                  intro hn2
                  have h1 := Nat.mul_le_mul_right t' (show 4294967296 ≤ dd - 1 by omega)
                  have h2 : top < 4294967296 * t' + 4294967296 := by
                    apply Classical.byContradiction
                    intro hn3
                    have h3 : M * (4294967296 * (4294967296 * t' + 4294967296)) ≤ M * (4294967296 * top) := Nat.mul_le_mul_left _ (Nat.mul_le_mul_left _ (by omega))
                    have h4 : Y < M * (4294967296 * t' + 4294967296) := by
                      rw [hYM]
                      have : M * (tn + 4294967296 * t' + 1) ≤ M * (4294967296 * t' + 4294967296) := Nat.mul_le_mul_left _ (by omega)
                      rw [Nat.mul_add M _ 1, Nat.mul_one] at this
                      omega
                    have h5 : M * (4294967296 * (4294967296 * t' + 4294967296)) = 4294967296 * (M * (4294967296 * t' + 4294967296)) := by grind
                    have h6 : M * (4294967296 * top) ≤ U := by rw [hUM, Nat.mul_add]; omega
                    omega
                  omega
                have hdle : dd - 1 ≤ U / Y + 1 := by
                  rw [hUM, hYM]
                  refine est_le (r := r + t') hM hvlow hdd ?_ hdB (by omega)
                  have h1 := mulB (a := dd - 1) (b := tn) hdB htnb
                  omega
                exact J.at' (dd - 1) ⟨rfl, rfl, rfl, rfl, rfl, rfl, rfl, rfl, rfl, trivial⟩ ⟨rfl, hdB, by omega, hdle⟩
              · skip
                refine J.skip <| J.bend <| ?_
                exact J.at' (dd - 1, r + t') ⟨rfl, rfl, rfl, rfl, rfl, rfl, rfl, rfl, rfl, rfl, trivial⟩ ⟨⟨rfl, by show U / Y ≤ dd - 1; omega, hdd, by show r + t' < 4294967296; omega, by show dd - 1 < _; omega⟩, by show dd - 1 < dd; omega⟩
            · skip
              refine O.set (t := 118) (.bool false) rfl (by simp only [Value.bool.injEq, decide_eq_true_eq, decide_eq_false_iff_not]; omega) <| O.gt rfl rfl <| O.mv rfl <| O.gt rfl rfl <| O.mv rfl <| O.gt rfl rfl <| ?_
              have htd : dd * tn < 18446744073709551616 := by have := mulB (a := dd) (b := tn) (by omega) htnb; omega
              refine O.mul (r := ((dd * tn : Nat) : Int)) rfl rfl ((wU (by rw [← Int.natCast_mul]; omega)).trans (by rw [Int.natCast_mul])) <| O.gt rfl rfl <| O.mv rfl <| O.gt rfl rfl <| O.shl (r := ((r * 2 ^ 32 : Nat) : Int)) rfl rfl (by decide) (shl_eq (u := r) (n := 32) (by omega) (by omega)) <| O.gt rfl rfl <| O.mv rfl <| O.gt rfl rfl <| O.mv rfl <| O.gt rfl rfl <| O.mv rfl <| O.gt rfl rfl <| O.add rfl rfl (wI (by omega)) <| O.gt rfl rfl <| O.sb rfl rfl (wI (by omega)) <| O.gt rfl rfl <| O.ia (j := k - 1 + mv - 2) rfl rfl (by omega) (by omega) <| O.gt rfl rfl <| O.ldQ rfl ho3 hu2 <| O.gt rfl rfl <| O.cv rfl (wU (by omega)) <| O.gt rfl rfl <| O.or (p := r * 2 ^ 32) (q := u2) (r := ((r * 2 ^ 32 + u2 : Nat) : Int)) rfl rfl rfl rfl (by show _ < 18446744073709551616; omega) (by show _ < 18446744073709551616; omega) (by rw [or_add u2 r 32 (by omega)]; exact wU (by omega)) <| O.gt rfl rfl <| O.gtr rfl rfl <| O.pickF rfl rfl <| JO.nil <| J.condD rfl (fun h134 => ?_) (fun h134 => ?_)
              · skip
                have hUq : U / Y < dd := by
                  have h1 : r * 4294967296 + u2 < dd * tn := Int.ofNat_lt.1 h134
                  have h2 := est_gt hlow hM hdt h1 (by rw [← hYM]; exact Nat.pos_of_ne_zero hY0)
                  rwa [← hUM, ← hYM] at h2
                have hdd1 : 1 ≤ dd := Nat.lt_of_le_of_lt (Nat.zero_le _) hUq
                have hdd : (dd - 1) * t' + (r + t') = top := by
                  obtain ⟨e, rfl⟩ : ∃ e, dd = e + 1 := ⟨dd - 1, by omega⟩
                  rw [Nat.add_sub_cancel]; rw [Nat.add_mul, Nat.one_mul] at hdt; omega
                refine J.skip <| J.block <| J.seq <| J.reg rfl <| O.mv rfl <| O.sb (r := ((dd - 1 : Nat) : Int)) rfl rfl ((wU (by omega)).trans (by omega)) <| O.as rfl <| JO.nil <| J.seq <| J.reg rfl <| O.mv rfl <| O.mv rfl <| O.add (r := ((r + t' : Nat) : Int)) rfl rfl ((wU (by omega)).trans (by omega)) <| O.as rfl <| JO.nil <| J.seq <| J.reg rfl <| O.mv rfl <| O.ge rfl rfl <| JO.nil <| J.condD rfl (fun h141 => ?_) (fun h141 => ?_)
                · skip
                  refine J.exit rfl <| ?_
                  have hdB : dd - 1 < 4294967296 := by
                    apply Classical.byContradiction
                    intro hn2
                    have h1 := Nat.mul_le_mul_right t' (show 4294967296 ≤ dd - 1 by omega)
                    have h2 : top < 4294967296 * t' + 4294967296 := by
                      apply Classical.byContradiction
                      intro hn3
                      have h3 : M * (4294967296 * (4294967296 * t' + 4294967296)) ≤ M * (4294967296 * top) := Nat.mul_le_mul_left _ (Nat.mul_le_mul_left _ (by omega))
                      have h4 : Y < M * (4294967296 * t' + 4294967296) := by
                        rw [hYM]
                        have : M * (tn + 4294967296 * t' + 1) ≤ M * (4294967296 * t' + 4294967296) := Nat.mul_le_mul_left _ (by omega)
                        rw [Nat.mul_add M _ 1, Nat.mul_one] at this
                        omega
                      have h5 : M * (4294967296 * (4294967296 * t' + 4294967296)) = 4294967296 * (M * (4294967296 * t' + 4294967296)) := by grind
                      have h6 : M * (4294967296 * top) ≤ U := by rw [hUM, Nat.mul_add]; omega
                      omega
                    omega
                  have hdle : dd - 1 ≤ U / Y + 1 := by
                    rw [hUM, hYM]
                    refine est_le (r := r + t') hM hvlow hdd ?_ hdB (by omega)
                    have h1 := mulB (a := dd - 1) (b := tn) hdB htnb
                    omega
                  exact J.at' (dd - 1) ⟨rfl, rfl, rfl, rfl, rfl, rfl, rfl, rfl, rfl, trivial⟩ ⟨rfl, hdB, by omega, hdle⟩
                · skip
                  refine J.skip <| J.bend <| ?_
                  exact J.at' (dd - 1, r + t') ⟨rfl, rfl, rfl, rfl, rfl, rfl, rfl, rfl, rfl, rfl, trivial⟩ ⟨⟨rfl, by show U / Y ≤ dd - 1; omega, hdd, by show r + t' < 4294967296; omega, by show dd - 1 < _; omega⟩, by show dd - 1 < dd; omega⟩
              · skip
                refine J.exit rfl <| ?_
                exact J.at' dd ⟨rfl, rfl, rfl, rfl, rfl, rfl, rfl, rfl, rfl, trivial⟩ ⟨rfl, by omega, hdq, by
                  rw [hUM, hYM]
                  exact est_le (r := r) hM hvlow hdt (by omega) (by omega) (by omega)⟩
          · skip
            rintro dd W10 ⟨rfl, hdB, hdq, hdq1⟩
            have hq00 := Nat.zero_le (U / Y)
            have hcu := ho.hc
            have hcu2 := ho.hC
            have ho3 := ho2.ext e1
            have hoq4 := hoq3.ext e1
            refine J.seq <| J.seq <| J.reg rfl <| O.mv rfl <| O.mv rfl <| O.mv rfl <| O.mv rfl <| O.add rfl rfl (wI (by omega)) <| O.add rfl rfl (wI (by omega)) <| O.slQ (q := 0) (lo := k - 1) (hi := k - 1 + mv + 1) rfl rfl rfl (by omega) (by omega) (by omega) (by omega) (by omega) <| O.set (t := 148) (.slice (some ⟨bu, k - 1, none⟩) (mv + 1) (cu - (k - 1))) rfl (by rw [show 0 + (k - 1) * 1 = k - 1 from by omega, show k - 1 + mv + 1 - (k - 1) = mv + 1 from by omega]) <| O.mv rfl <| O.mv rfl <| O.callK rfl (integer_subtract_ok ho3 (by omega) hsv2.to hdB (by omega)) fun W11 v11 i11 h11 => ?_
            obtain ⟨neg, lu1, rfl, of1, ou1, hout1, hv1⟩ := h11
            have hwin1 := val_lt (((ownw ou1).drop (k - 1)).take (mv + 1))
            have hwin0 := val_lt (((ownw ho).drop (k - 1)).take (mv + 1))
            have hl1 := ou1.hn
            rw [List.length_take, List.length_drop, Nat.min_eq_left (by omega)] at hwin1 hwin0
            rw [← hwin] at hv1 hwin0
            have hstep := step_ok (Nat.pos_of_ne_zero hY0) hdq hdq1 hv1 (by split <;> omega) hwin1 hwin0
            refine JO.nil <| ?_
            refine J.cut (α := Nat × List Nat) (fun g => [(8, .int .i64 (s : Int)), (9, .slice (some ⟨bu, 0, none⟩) mu cu), (10, .slice (some ⟨bv, ov, none⟩) mv cv), (11, .int .i64 (mv : Int)), (12, .slice (some ⟨bq, 0, none⟩) (mu - mv) (mu - mv)), (13, .int .u64 (t' : Int)), (14, .int .u64 (tn : Int)), (15, .int .i64 ((k : Int) - 1)), (17, .int .u64 (g.1 : Int))]) (fun g W' => Le W0 W' ∧ Le W6 W' ∧ Ows RW W' (some ⟨bu, 0, none⟩) mu cu g.2 ∧ Ows RW W' (some ⟨bq, 0, none⟩) (mu - mv) (mu - mv) lq ∧ g.1 = U / Y ∧ (∀ j, (j < k - 1 ∨ k - 1 + (mv + 1) ≤ j) → g.2[j]? = lu[j]?) ∧ val ((g.2.drop (k - 1)).take (mv + 1)) = U % Y) ?_ ?_
            · skip
              have hoq5 := hoq4.only i11.s of1 (Ne.symm hbne)
              refine J.cond rfl (fun h151 => ?_) (fun h151 => ?_)
              · skip
                subst h151
                rw [if_pos rfl] at hstep hv1
                obtain ⟨hdd1, hrest1⟩ := hstep.2 rfl
                refine J.seq <| J.reg rfl <| O.mv rfl <| O.sb (r := ((U / Y : Nat) : Int)) rfl rfl ((wU (by omega)).trans (by omega)) <| O.as rfl <| JO.nil <| J.reg rfl <| O.mv rfl <| O.mv rfl <| O.mv rfl <| O.mv rfl <| O.add rfl rfl (wI (by omega)) <| O.add rfl rfl (wI (by omega)) <| O.slQ (q := 0) (lo := k - 1) (hi := k - 1 + mv + 1) rfl rfl rfl (by omega) (by omega) (by omega) (by omega) (by omega) <| O.set (t := 160) (.slice (some ⟨bu, k - 1, none⟩) (mv + 1) (cu - (k - 1))) rfl (by rw [show 0 + (k - 1) * 1 = k - 1 from by omega, show k - 1 + mv + 1 - (k - 1) = mv + 1 from by omega]) <| O.mv rfl <| O.callK rfl (integer_restore_ok ou1 (by omega) hsv2.to (by omega)) fun W12 v12 i12 h12 => ?_
                obtain ⟨e', lu2, he1, of2, ou2, hout2, hv2⟩ := h12
                have hwin2 := val_lt (((ownw ou2).drop (k - 1)).take (mv + 1))
                have hl2 := ou2.hn
                rw [List.length_take, List.length_drop, Nat.min_eq_left (by omega)] at hwin2
                have hoq6 := hoq5.only i12.s of2 (Ne.symm hbne)
                refine JO.nil <| ?_
                exact J.at' (U / Y, lu2) ⟨rfl, rfl, rfl, rfl, rfl, rfl, rfl, rfl, rfl, trivial⟩ ⟨inferInstance, inferInstance, ou2, hoq6, rfl, fun j hj => (hout2 j hj).trans (hout1 j hj), hrest1 _ e' hwin2 hv2 he1⟩
              · skip
                subst h151
                obtain ⟨hdd1, hrest1⟩ := hstep.1 rfl
                refine J.skip <| ?_
                exact J.at' (dd, lu1) ⟨rfl, rfl, rfl, rfl, rfl, rfl, rfl, rfl, rfl, trivial⟩ ⟨inferInstance, inferInstance, ou1, hoq5, hdd1, hout1, hrest1⟩
            · skip
              rintro ⟨dd1, lu2⟩ W13 ⟨_, _, ou2, hoq5, hdd, hout, hwinv⟩
              dsimp only at *
              subst hdd
              have hl2 := ou2.hn
              refine J.reg rfl <| O.mv rfl <| O.mv rfl <| O.mv rfl <| O.cv rfl (wW (by omega)) <| O.iaB (r := RW) (j := k - 1) rfl rfl (by omega) hoq5 (by omega) rfl <| O.stoF (r := RW) (j := k - 1) (u := U / Y) rfl rfl hoq5 (by omega) (rwv _ (by omega)) rfl (.inr rfl) fun W15 i15 f15 z15 o15 => JO.nil <| J.bend <| J.reg rfl <| O.mv rfl <| O.sb (r := (((k - 1 : Nat) : Int) - 1)) rfl rfl ((wI (by omega)).trans (by omega)) <| O.as rfl <| JO.nil <| ?_
              have hab : val (lu2.drop (k - 1)) = U % Y := by
                have g1 := val_split (lu2.drop (k - 1)) (mv + 1) (by rw [List.length_drop]; omega)
                have g2 := val_split (lu.drop (k - 1)) (mv + 1) (by rw [List.length_drop]; omega)
                have g3 : (lu2.drop (k - 1)).drop (mv + 1) = (lu.drop (k - 1)).drop (mv + 1) := by
                  rw [List.drop_drop, List.drop_drop]
                  exact drop_congr fun j hj => hout j (.inr hj)
                rw [hU, ← hwin] at g2
                rw [g1, hwinv, g3]
                omega
              obtain ⟨w, hw⟩ := xat (l := lu) (k := k - 1) (by omega)
              have hw2 : lu0[k - 1]? = some w := by rw [← hsame (k - 1) (by omega)]; exact hw
              have hY1 : 0 < Y := Nat.pos_of_ne_zero hY0
              have hfin : val ((lq.set (k - 1) (U / Y)).drop (k - 1)) * Y + val (lu2.drop (k - 1)) = val (lu0.drop (k - 1)) := by
                have g1 := val_drop hw
                have g2 := val_drop hw2
                have g3 := val_drop (l := lq.set (k - 1) (U / Y)) (k := k - 1) (List.getElem?_set_self (by omega))
                have g4 : (lq.set (k - 1) (U / Y)).drop (k - 1 + 1) = lq.drop (k - 1 + 1) := drop_congr fun j hj => List.getElem?_set_ne (by omega)
                rw [show k - 1 + 1 = k from by omega] at g1 g2 g3 g4
                rw [hab, g2, g3, g4, ← hQR, Nat.add_mul, Nat.mul_assoc, Nat.mul_add]
                have g5 := Nat.div_add_mod U Y
                rw [Nat.mul_comm] at g5
                rw [hU] at g1
                omega
              exact J.at' (k - 1, lu2, lq.set (k - 1) (U / Y)) ⟨rfl, rfl, rfl, rfl, rfl, rfl, rfl, rfl, trivial⟩ ⟨⟨inferInstance, inferInstance, ou2.only i15.s f15 hbne, o15, by show k - 1 ≤ _; omega, fun j hj => (hout j (.inl hj)).trans (hsame j (by have : j < k - 1 := hj; omega)), by show val (lu2.drop (k - 1)) < Y; rw [hab]; exact Nat.mod_lt _ hY1, hfin⟩, by show k - 1 < k; omega⟩
        · skip
          refine J.exit rfl <| J.seq <| ?_
          have hk0 : k = 0 := by omega
          subst hk0
          rw [List.drop_zero] at hRlt hQR
          rw [List.drop_zero, List.drop_zero, huv] at hQR
          obtain ⟨hQ, hR⟩ := div_fin hY hQR hRlt
          have hcu := ho.hc
          refine J.pub2 ho hoq fun W10 i10 s1 s2 => ?_
          have htk : val (lu.take mv) = val lu := by
            have g := val_split lu mv (by omega)
            rw [hmv] at g
            rcases Nat.eq_zero_or_pos (val (lu.drop (dig Y).length)) with h5 | h5
            · rw [h5, Nat.mul_zero] at g; rw [hmv]; omega
            · have := Nat.le_mul_of_pos_right (4294967296 ^ (dig Y).length) h5
              omega
          have s3 := s1.take mv (by omega)
          refine J.draw [.ex _, .rel _, .ex _, .ex _, .ex _, .rel _, .ex _, .rel _, .rel _] rfl rfl ⟨fun W1 i1 e1 _ => O.mv rfl <| D.ex, fun W1 i1 e1 _ => O.call rfl (integer_trim_ok s2.to) fun W15 v15 i15 e15 h15 => D.rel e15 h15 V.me, fun W1 i1 e1 _ => O.mv rfl <| D.ex, fun W1 i1 e1 _ => O.mv rfl <| D.ex, fun W1 i1 e1 _ => O.slh (hi := mv) rfl rfl rfl (by omega) <| D.ex, fun W1 i1 e1 _ => fun v169 h169 => O.call rfl (integer_trim_ok s3.to) fun W15 v15 i15 e15 h15 => D.rel e15 h15 V.me, fun W1 i1 e1 _ => O.mv rfl <| D.ex, fun W1 i1 e1 _ => fun _ _ => fun v173 h173 => (by obtain ⟨p7, m7, c7, rfl, hs7⟩ := h173.sl; exact O.call rfl (integer_shiftRight_ok hs7.to (by rw [htk]; have := len_mono (Nat.le_of_lt hRlt); omega) hs32) fun W15 v15 i15 e15 h15 => D.rel e15 h15 V.exme), fun W1 i1 e1 _ => fun _ _ => fun v175 h175 => (by obtain ⟨l8, hl8, hv8⟩ := h175; obtain ⟨p8, m8, c8, rfl, hs8⟩ := hv8.sl; rw [val_dig, htk, hR, Nat.mul_div_cancel _ (Nat.two_pow_pos s)] at hl8; exact O.call rfl (integer_trim_ok hs8.to) fun W15 v15 i15 e15 h15 => D.rel e15 (show V (RSl RW) W15 v15 (dig (x % y)) from hl8 ▸ h15) V.me), trivial⟩ ?_
          intro W1 i1 e1 v169 h169 v173 h173 v175 h175 v176 h176
          refine O.as rfl <| O.as rfl <| JO.nil <| J.ret2 rfl (.tmp rfl) (.tmp rfl) fun W' iE iP => ?_
          rw [hQ] at h169
          exact ⟨_, _, rfl, h169.to, h176.to⟩
end Go.Proofs.YtcaikjefkkejbaaGreat
