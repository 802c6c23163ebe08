/- The reference's integers, more: comparisons, powers, square roots. -/
import Derived.Test.YtcaikjefkkejbaaGreatKz
import Derived.Test.YtcaikjefkkejbaaGreatLa
import Derived.Test.YtcaikjefkkejbaaGreatSa
import Derived.Test.YtcaikjefkkejbaaGreatLy
import Derived.Test.YtcaikjefkkejbaaGreatRi
set_option linter.unusedVariables false
set_option linter.unusedSimpArgs false
set_option maxRecDepth 10000
set_option maxHeartbeats 2000000
namespace Go.Proofs.YtcaikjefkkejbaaGreat
open Go Go.Rx Go.Num
section
theorem cmpI_sub (a b : Int) : cmpI (a - b) 0 = cmpI a b := by
  rcases cmpI_tri (a - b) 0 with ⟨h1, e1⟩ | ⟨h1, e1⟩ | ⟨h1, e1⟩ <;> rcases cmpI_tri a b with ⟨h2, e2⟩ | ⟨h2, e2⟩ | ⟨h2, e2⟩ <;> rw [e1, e2] <;> omega
theorem ref01_Cmp_ok {W : GW} {v v' : Value} {z z' : Int} (h : V RI W v (ci z)) (h' : V RI W v' (ci z')) (hl : (dig z.natAbs).length ≤ 1099511627776) (hl' : (dig z'.natAbs).length ≤ 1099511627776) :
    Ok Tryz.prog 72 [v, v'] W fun _ r => r = .int .i64 (cmpI z z') := by
  refine Ok.enter Tryz.func72 rfl rfl rfl rfl fun W0 iEn => ?_
  refine J.seq <| J.reg rfl <| O.boxT rfl h.to fun W2 b2 i2 hb2 => O.boxT rfl h'.to fun W3 b3 i3 hb3 => O.as rfl <| JO.nil <| J.seq <| J.reg rfl <| O.ldT rfl hb2.to.h rfl rfl (fun h => nomatch h) fun v5 h5 => O.ldT rfl hb3.to.h rfl rfl (fun h => nomatch h) fun v6 h6 => O.call rfl (ref01_Sub_ok h5.to h6.to hl hl') fun W7 v7 i7 e7 h7 => ?_
  refine O.call rfl (ref01_Sign_ok h7.to) fun W8 v8 i8 e8 h8 => ?_
  subst h8
  refine O.as rfl <| JO.nil <| J.ret1 rfl (.tmp rfl) fun W' iE iP => ?_
  rw [cmpI_sub]
theorem ref01_length0_ok {W : GW} {p : Option Addr} {c : Nat} :
    Ok Tryz.prog 138 [.slice p 0 c] W fun W' v => v = .int .i64 0 := by
  refine Ok.enter Tryz.func138 rfl rfl rfl rfl fun W0 iEn => ?_
  refine J.seq <| J.reg rfl <| O.as rfl <| JO.nil <| J.seq <| J.seq <| J.reg rfl <| O.mv rfl <| O.len rfl <| O.eq rfl rfl <| JO.nil <| J.condD rfl (fun h7 => ?_) (fun h7 => ?_)
  · skip
    refine J.seq <| J.reg rfl <| O.as rfl <| JO.nil <| J.ret1 rfl (.tmp rfl) fun W' iE iP => ?_
    rfl
  · skip
    exact absurd rfl h7 -- done
theorem ref01_Bits_ok {W : GW} {v : Value} {z : Int} (h : V RI W v (ci z)) (hl : (dig z.natAbs).length ≤ 1099511627776) :
    Ok Tryz.prog 148 [v] W fun _ r => ∃ B : Nat, r = .int .i64 (B : Int) ∧ z.natAbs < 2 ^ B ∧ B ≤ 32 * (dig z.natAbs).length := by
  refine Ok.enter Tryz.func148 rfl rfl rfl rfl fun W0 iEn => ?_
  refine J.seq <| J.reg rfl <| O.boxT rfl h.to fun W1 b1 i1 hb1 => O.as rfl <| JO.nil <| J.seq <| J.reg rfl <| O.fa rfl <| ?_
  refine O.ldTs rfl hb1.to.h.s fun p4 m4 c4 s4 => ?_
  have h4 := s4.v
  refine O.call rfl (ref01_trimd_ok s4.to) fun W5 v5 i5 e5 h5 => ?_
  obtain ⟨p5, m5, c5, rfl, s5⟩ := h5.sl
  have hm5 := s5.hn
  have hlen : Ok Tryz.prog 138 [.slice p5 m5 c5] W5 fun _ r => ∃ B : Nat, r = .int .i64 (B : Int) ∧ z.natAbs < 2 ^ B ∧ B ≤ 32 * (dig z.natAbs).length := by
    by_cases h0 : z.natAbs = 0
    · have hm0 : m5 = 0 := by rw [hm5, h0, dig_zero]; rfl
      subst hm0
      exact ref01_length0_ok.mono fun _ _ _ e => ⟨0, e, by rw [h0]; decide, Nat.zero_le _⟩
    · refine (ref01_length_ok s5.to hl h0).mono fun _ _ _ ⟨t, ht, _, htw, e⟩ => ⟨_, e, ?_, ?_⟩
      · exact top_bits rfl (by have := (List.getElem?_eq_some_iff.1 ht).1; omega) ht
      · have := bl_le32 htw
        have := (List.getElem?_eq_some_iff.1 ht).1
        omega
  refine O.call rfl (hlen) fun W6 v6 i6 e6 h6 => O.as rfl <| JO.nil <| J.ret1 rfl (.tmp rfl) fun W' iE iP => ?_
  exact h6
theorem bit_clear {l : List Nat} {i w : Nat} (hl : Words l) (hw : l[i / 32]? = some w) (h : val l % 2 ^ (i + 1) = 0) : w % 2 ^ (i % 32 + 1) = 0 := by
  have h0 := val_digit hw
  have hj : i / 32 < l.length := (List.getElem?_eq_some_iff.1 hw).1
  have hlow := val_lt (hl.take (i / 32))
  rw [List.length_take, show min (i / 32) l.length = i / 32 from by omega] at hlow
  have hp : 4294967296 ^ (i / 32) * 2 ^ (i % 32 + 1) = 2 ^ (i + 1) := by
    rw [show (4294967296 : Nat) = 2 ^ 32 from rfl, ← Nat.pow_mul, ← Nat.pow_add]; congr 1; omega
  obtain ⟨c, hc⟩ := Nat.dvd_of_mod_eq_zero h
  rw [← hp, Nat.mul_assoc] at hc
  generalize 4294967296 ^ (i / 32) = B at *
  generalize val (l.drop (i / 32 + 1)) = R at *
  have e1 : w + 4294967296 * R = 2 ^ (i % 32 + 1) * c := by
    have hB : 0 < B := by omega
    have h1 : (val (l.take (i / 32)) + B * (w + 4294967296 * R)) / B = w + 4294967296 * R := by
      rw [Nat.add_mul_div_left _ _ hB, Nat.div_eq_of_lt hlow, Nat.zero_add]
    have h2 : B * (2 ^ (i % 32 + 1) * c) / B = 2 ^ (i % 32 + 1) * c := Nat.mul_div_cancel_left _ hB
    rw [← h1, ← h0, hc, h2]
  have e2 : (4294967296 : Nat) = 2 ^ (i % 32 + 1) * 2 ^ (31 - i % 32) := by
    rw [← Nat.pow_add, show i % 32 + 1 + (31 - i % 32) = 32 from by omega]
  rw [e2, Nat.mul_assoc] at e1
  have e3 : (w + 2 ^ (i % 32 + 1) * (2 ^ (31 - i % 32) * R)) % 2 ^ (i % 32 + 1) = 0 := by rw [e1, Nat.mul_mod_right]
  rwa [Nat.add_mul_mod_self_left] at e3
theorem or_bit {w s : Nat} (h : w % 2 ^ (s + 1) = 0) : w ||| 2 ^ s = w + 2 ^ s := by
  obtain ⟨c, rfl⟩ := Nat.dvd_of_mod_eq_zero h
  rw [Nat.mul_comm]
  exact or_add (2 ^ s) c (s + 1) (Nat.pow_lt_pow_right (by decide) (Nat.lt_succ_self s))
theorem and_bit {w s : Nat} (h : w % 2 ^ (s + 1) = 0) : (w + 2 ^ s) &&& 2 ^ s = 2 ^ s := by
  obtain ⟨c, rfl⟩ := Nat.dvd_of_mod_eq_zero h
  have e : (2 ^ (s + 1) * c + 2 ^ s) / 2 ^ s = 2 * c + 1 := by
    rw [Nat.pow_succ, show 2 ^ s * 2 * c + 2 ^ s = 2 ^ s * (2 * c + 1) from by rw [Nat.mul_add, Nat.mul_assoc, Nat.mul_one]]
    exact Nat.mul_div_cancel_left _ (Nat.two_pow_pos s)
  have ht : (2 ^ (s + 1) * c + 2 ^ s).testBit s = true := by
    rw [Nat.testBit_eq_decide_div_mod_eq, e]
    simp
  apply Nat.eq_of_testBit_eq
  intro i
  rw [Nat.testBit_and]
  by_cases hi : s = i
  · subst hi; rw [ht, Bool.true_and]
  · rw [Nat.testBit_two_pow_of_ne hi, Bool.and_false]
theorem add_bit_lt {w s : Nat} (hw : w < 4294967296) (hs : s < 32) (h : w % 2 ^ (s + 1) = 0) : w + 2 ^ s < 4294967296 := by
  rw [← or_bit h]
  exact Nat.or_lt_two_pow (n := 32) hw (Nat.lt_of_lt_of_le (Nat.pow_lt_pow_right (by decide) hs) (by decide))
theorem set_bit {l : List Nat} {i w x : Nat} (hw : l[i / 32]? = some w) (hx : x = w + 2 ^ (i % 32)) : val (l.set (i / 32) x) = val l + 2 ^ i := by
  have hj : i / 32 < l.length := (List.getElem?_eq_some_iff.1 hw).1
  have h0 := val_digit hw
  have h1 := val_digit (l := l.set (i / 32) x) (j := i / 32) (x := x) (by rw [List.getElem?_set_self hj])
  rw [h1, h0, List.take_set_of_le (Nat.le_refl _), List.drop_set_of_lt (by omega), hx, ← pow_words i]
  grind
/-- Sqrt: the square root, bit by bit -/
theorem ref01_Sqrt_ok {W : GW} {v : Value} {a : Nat} (h : V RI W v (ci (a : Int))) (hl : (dig a).length ≤ 549755813888) :
    Ok Tryz.prog 120 [v] W fun W' r => ∃ v1, r = .tuple #[v1, .int .i64 0] ∧ V RI W' v1 (ci (rt a : Int)) := by
  have hbits := fun (B n : Nat) (hB : a < 2 ^ B) (hn : B ≤ 2 * n) => Nat.lt_of_lt_of_le hB (Nat.pow_le_pow_right (by decide) hn : 2 ^ B ≤ 2 ^ (2 * n))
  refine Ok.enter Tryz.func120 rfl rfl rfl rfl fun W0 iEn => ?_
  refine J.seq <| J.reg rfl <| ?_
  refine O.boxC rfl h.to fun W1 b1 i1 e1 hl1 hk1 hz1 => ?_
  refine O.allocE fun W2 b2 i2 e2 hl2 hc2 hz2 => ?_
  have n1_2 : b1 ≠ b2 := Nat.ne_of_lt (Nat.lt_of_lt_of_le (by exact hl1.to.lt) hz2)
  refine O.as rfl <| JO.nil <| J.seq <| J.reg rfl <| O.ldT rfl (hk1.ext e2).h rfl rfl (fun h => nomatch h) fun v7 h7 => O.call rfl (ref01_Norm_ok h7.to) fun W8 v8 i8 e8 h8 => ?_
  refine O.stM rfl rfl hl1.to h8.to rfl fun Ws1 is1 hk1 F1 => ?_
  refine JO.nil <| J.seq <| J.seq <| J.reg rfl <| O.fa rfl <| O.ldTb rfl hk1.h.f <| ?_
  refine O.set (t := 10) (.bool false) rfl (by simp only [Value.bool.injEq, decide_eq_false_iff_not]; omega) ?_
  refine JO.nil <| J.condF rfl <| J.skip <| J.seq <| J.reg rfl <| O.ldT rfl hk1.h rfl rfl (fun h => nomatch h) fun v12 h12 => O.call rfl (ref01_Bits_ok h12.to (Nat.le_trans hl (by decide))) fun W13 v13 i13 e13 h13 => ?_
  obtain ⟨B, rfl, hB1, hB2⟩ := h13
  have hB1 : a < 2 ^ B := hB1
  have hB2 : B ≤ 32 * (dig a).length := hB2
  obtain ⟨n, hn⟩ : ∃ n, n = (B + 1) / 2 := ⟨_, rfl⟩
  refine O.add (r := ((B + 1 : Nat) : Int)) rfl rfl ((wI (by omega)).trans (by omega)) <| O.quo (r := (n : Int)) rfl rfl (by decide) (by rw [show Int.tdiv ((B + 1 : Nat) : Int) 2 = (((B + 1) / 2 : Nat) : Int) from rfl, ← hn]; exact wI (by omega)) <| O.as rfl <| JO.nil <| J.seq <| J.reg rfl <| O.mv rfl <| O.quo (r := ((n / 32 : Nat) : Int)) rfl rfl (by decide) (by rw [show Int.tdiv (n : Int) 32 = ((n / 32 : Nat) : Int) from rfl]; exact wI (by omega)) <| O.add (r := ((n / 32 + 1 : Nat) : Int)) rfl rfl ((wI (by omega)).trans (by omega)) <| O.mk (r := RW) (m := n / 32 + 1) (c := n / 32 + 1) 0 rfl rfl rfl rfl (by omega) (by omega) (by omega) rfl rfl (by decide) (fun _ => ⟨rfl, by decide⟩) fun W19 b19 i19 e19 hb19 o19 => ?_
  have hk1 := (hk1.ext e13).ext e19
  refine O.as rfl <| JO.nil <| J.seq <| J.seq <| J.reg rfl <| O.mv rfl <| O.sb rfl rfl (wI (by omega)) <| O.as rfl <| JO.nil <| J.block <| ?_
  have hne1 : b1 ≠ b19 := Nat.ne_of_lt (Nat.lt_of_lt_of_le (by exact hl1.to.lt) hb19)
  have hne2 : b2 ≠ b19 := Nat.ne_of_lt (Nat.lt_of_lt_of_le (by exact hl2.to.lt) hb19)
  refine J.loop (α := Nat × List Nat) (fun g => [(1, .pointer (some ⟨b1, 0, none⟩)), (2, .pointer (some ⟨b2, 0, none⟩)), (5, .slice (some ⟨b19, 0, none⟩) (n / 32 + 1) (n / 32 + 1)), (6, .int .i64 ((g.1 : Int) - 1))]) (fun g W' => Le W0 W' ∧ Rx.Loc W' b1 2 ∧ Rx.Loc W' b2 2 ∧ Pc RI W' b1 (ci (a : Int)) ∧ Ows RW W' (some ⟨b19, 0, none⟩) (n / 32 + 1) (n / 32 + 1) g.2 ∧ g.1 ≤ n ∧ Words g.2 ∧ val g.2 % 2 ^ g.1 = 0 ∧ val g.2 * val g.2 ≤ a ∧ a < (val g.2 + 2 ^ g.1) * (val g.2 + 2 ^ g.1)) (fun g => g.1) (n, List.replicate (n / 32 + 1) 0) ⟨rfl, rfl, rfl, rfl, trivial⟩ ⟨inferInstance, hl1.to, hl2.to, hk1, o19, Nat.le_refl _, fun y hy => by have := List.eq_of_mem_replicate hy; omega, by show val (List.replicate (n / 32 + 1) 0) % _ = 0; rw [val_zeros, Nat.zero_mod], by show val (List.replicate (n / 32 + 1) 0) * _ ≤ a; rw [val_zeros, Nat.zero_mul]; exact Nat.zero_le _, by show a < (val (List.replicate (n / 32 + 1) 0) + 2 ^ n) * (val (List.replicate (n / 32 + 1) 0) + 2 ^ n); rw [val_zeros, Nat.zero_add, ← Nat.pow_add, ← Nat.two_mul]; exact hbits B n hB1 (by omega)⟩ ?_
  rintro ⟨k, lo⟩ W3 ⟨_, hl1, hl2, hk1, ho, hk, hwl, hmod, hsq1, hsq2⟩
  dsimp only at *
  have hlo := ho.hn
  refine J.seq <| J.seq <| J.reg rfl <| O.mv rfl <| O.ge rfl rfl <| JO.nil <| J.condD rfl (fun h23 => ?_) (fun h23 => ?_)
  · skip
    obtain ⟨i, rfl⟩ : ∃ i, k = i + 1 := ⟨k - 1, by omega⟩
    obtain ⟨w, hw⟩ := xat (l := lo) (k := i / 32) (by omega)
    have hww := hwl w (List.mem_of_getElem? hw)
    have hwc := bit_clear hwl hw hmod
    have hwb := add_bit_lt hww (by omega) hwc
    refine J.skip <| J.seq <| J.block <| J.seq <| ?_
    refine J.set (t := 6) (.int .i64 (i : Int)) rfl (by congr 1; omega) ?_
    refine J.draw [.ex _, .ex _, .ex _, .ex _, .ex _, .ex _, .ex _, .ex _, .ex _, .ex _, .ex _, .ex _] rfl rfl ⟨fun Wd id ed _ => O.mv rfl <| D.ex, fun Wd id ed _ => O.mv rfl <| D.ex, fun Wd id ed _ => O.quo (r := ((i / 32 : Nat) : Int)) rfl rfl (by decide) (by rw [show Int.tdiv (i : Int) 32 = ((i / 32 : Nat) : Int) from rfl]; exact wI (by omega)) <| D.ex, fun Wd id ed _ => O.mv rfl <| D.ex, fun Wd id ed _ => O.mv rfl <| D.ex, fun Wd id ed _ => O.quo (r := ((i / 32 : Nat) : Int)) rfl rfl (by decide) (by rw [show Int.tdiv (i : Int) 32 = ((i / 32 : Nat) : Int) from rfl]; exact wI (by omega)) <| D.ex, fun Wd id ed _ => O.iaB (r := RW) (j := i / 32) rfl rfl rfl (ho.ext ed) (by omega) rfl <| D.ex, fun Wd id ed _ => O.ldQ rfl (ho.ext ed) hw <| D.ex, fun Wd id ed _ => O.mv rfl <| D.ex, fun Wd id ed _ => O.rem (r := ((i % 32 : Nat) : Int)) rfl rfl (by decide) (trem i 32) <| D.ex, fun Wd id ed _ => O.shl rfl rfl (by omega) (shlW (j := i % 32) (by omega)) <| D.ex, fun Wd id ed _ => O.or (p := w) (q := 2 ^ (i % 32)) (r := ((w + 2 ^ (i % 32) : Nat) : Int)) rfl rfl rfl rfl (by show w < 4294967296; omega) (by show 2 ^ (i % 32) < 4294967296; exact pow32lt) (by rw [or_bit hwc]; exact wW (by omega)) <| D.ex, trivial⟩ ?_
    intro Wr9 ir9 er9
    refine O.iaB (r := RW) (j := i / 32) rfl rfl rfl (ho.ext er9) (by omega) rfl <| ?_
    refine O.stoF (r := RW) (j := i / 32) (u := w + 2 ^ (i % 32)) rfl rfl (ho.ext er9) (by omega) (rwv _ hwb) rfl (.inr rfl) fun W38 i38 F38 hz38 o38 => ?_
    have hk1 := (hk1.ext er9).only F38 hne1
    have hv1 := set_bit hw rfl
    have hw1 : Words (lo.set (i / 32) (w + 2 ^ (i % 32))) := fun y hy => (List.mem_or_eq_of_mem_set hy).elim (hwl y) (fun e => by omega)
    generalize hlo1 : lo.set (i / 32) (w + 2 ^ (i % 32)) = lo1 at *
    have hlen1 : (dig (val lo1)).length ≤ 4398046511104 := by
      have h1 := dig_len_le (val_lt hw1)
      have h2 := o38.hn
      omega
    refine JO.nil <| J.seq <| ?_
    refine J.lendC (α := Unit) (fun _ => [(1, .pointer (some ⟨b1, 0, none⟩)), (2, .pointer (some ⟨b2, 0, none⟩)), (5, .slice (some ⟨b19, 0, none⟩) (n / 32 + 1) (n / 32 + 1)), (6, .int .i64 (i : Int)), (47, .bool (decide (a < val lo1 * val lo1)))]) (fun _ => True) o38 (by omega) ?_ ?_
    · skip
      intro Wl il hwl5 s19
      have hk1 := hk1.eqw hwl5
      refine J.draw [.ex _, .rel _, .ex _, .rel _, .rel _, .ex _, .rel _] rfl rfl ⟨fun Wd id ed _ => O.mv rfl <| D.ex, fun Wd id ed _ => O.call rfl (ref01_trim_ok s19.to) fun Wd vd id ed hd => D.rel ed hd V.me, fun Wd id ed _ => O.mv rfl <| D.ex, fun Wd id ed _ => fun v40 h40 => (by obtain ⟨p40, m40, c40, rfl, s40⟩ := h40.sl; exact O.call rfl (ref01_trim_ok s19.to) fun Wd vd id ed hd => D.rel ed hd V.me), fun Wd id ed _ => fun v40 h40 => fun _ _ => fun v42 h42 => (by obtain ⟨p40, m40, c40, rfl, s40⟩ := h40.sl; obtain ⟨p42, m42, c42, rfl, s42⟩ := h42.sl; exact O.call rfl (ref01_times_ok s40 s42 hlen1 hlen1) fun Wd vd id ed hd => D.rel ed hd V.me), fun Wd id ed _ => O.fa rfl <| D.ex, fun Wd id ed _ => O.ldTD rfl (hk1.ext ed).h.s rfl rfl (fun _ => rfl), trivial⟩ ?_
      intro Wr10 ir10 er10 v40 h40 v42 h42 v43 h43 v45 h45
      obtain ⟨p40, m40, c40, rfl, s40⟩ := h40.sl
      obtain ⟨p42, m42, c42, rfl, s42⟩ := h42.sl
      obtain ⟨p43, m43, c43, rfl, s43⟩ := h43.sl
      obtain ⟨p45, m45, c45, rfl, s45⟩ := h45.sl
      refine O.call rfl (ref01_compare_ok s43.to s45.to) fun W46 v46 i46 e46 h46 => ?_
      subst h46
      refine O.gtr rfl rfl <| ?_
      refine O.set (t := 47) (.bool (decide (a < val lo1 * val lo1))) rfl (by congr 1; rcases cmpI_tri ((val lo1 * val lo1 : Nat) : Int) (a : Int) with ⟨g1, g2⟩ | ⟨g1, g2⟩ | ⟨g1, g2⟩ <;> (apply decide_eq_decide.2; show cmpI ((val lo1 * val lo1 : Nat) : Int) (a : Int) > 0 ↔ _; omega)) ?_
      refine JO.nil <| ?_
      exact J.at' () ⟨rfl, rfl, rfl, rfl, rfl, trivial⟩ ⟨er10.trans e46, trivial⟩
    · skip
      rintro ⟨⟩ W10 i10 e10 _
      have hk1 := hk1.ext e10
      have ho := o38.ext e10
      refine J.condD rfl (fun h47 => ?_) (fun h47 => ?_)
      · skip
        have hw2 : lo1[i / 32]? = some (w + 2 ^ (i % 32)) := by rw [← hlo1, List.getElem?_set_self (by omega)]
        refine J.draw [.ex _, .ex _, .ex _, .ex _, .ex _, .ex _, .ex _, .ex _, .ex _, .ex _, .ex _, .ex _] rfl rfl ⟨fun Wd id ed _ => O.mv rfl <| D.ex, fun Wd id ed _ => O.mv rfl <| D.ex, fun Wd id ed _ => O.quo (r := ((i / 32 : Nat) : Int)) rfl rfl (by decide) (by rw [show Int.tdiv (i : Int) 32 = ((i / 32 : Nat) : Int) from rfl]; exact wI (by omega)) <| D.ex, fun Wd id ed _ => O.mv rfl <| D.ex, fun Wd id ed _ => O.mv rfl <| D.ex, fun Wd id ed _ => O.quo (r := ((i / 32 : Nat) : Int)) rfl rfl (by decide) (by rw [show Int.tdiv (i : Int) 32 = ((i / 32 : Nat) : Int) from rfl]; exact wI (by omega)) <| D.ex, fun Wd id ed _ => O.iaB (r := RW) (j := i / 32) rfl rfl rfl (ho.ext ed) (by omega) rfl <| D.ex, fun Wd id ed _ => O.ldQ rfl (ho.ext ed) hw2 <| D.ex, fun Wd id ed _ => O.mv rfl <| D.ex, fun Wd id ed _ => O.rem (r := ((i % 32 : Nat) : Int)) rfl rfl (by decide) (trem i 32) <| D.ex, fun Wd id ed _ => O.shl rfl rfl (by omega) (shlW (j := i % 32) (by omega)) <| D.ex, fun Wd id ed _ => O.andNot (p := w + 2 ^ (i % 32)) (q := 2 ^ (i % 32)) (r := (w : Int)) rfl rfl rfl rfl (by show _ < 4294967296; omega) (by show 2 ^ (i % 32) < 4294967296; exact pow32lt) (and_bit hwc) (by rw [Nat.add_sub_cancel]; exact wW (by omega)) <| D.ex, trivial⟩ ?_
        intro Wr11 ir11 er11
        refine O.iaB (r := RW) (j := i / 32) rfl rfl rfl (ho.ext er11) (by omega) rfl <| ?_
        refine O.stoF (r := RW) (j := i / 32) (u := w) rfl rfl (ho.ext er11) (by omega) (rwv _ hww) rfl (.inr rfl) fun W60 i60 F60 hz60 o60 => ?_
        have hk1 := (hk1.ext er11).only F60 hne1
        have hback : lo1.set (i / 32) w = lo := by
          rw [← hlo1, List.set_set]
          apply List.ext_getElem?
          intro q
          by_cases hq : i / 32 = q
          · subst hq; rw [List.getElem?_set_self (by omega), hw]
          · rw [List.getElem?_set_ne hq]
        rw [hback] at o60
        refine JO.nil <| J.bend <| J.reg rfl <| O.mv rfl <| O.sb (r := (i : Int) - 1) rfl rfl (wI (by omega)) <| O.as rfl <| JO.nil <| ?_
        have hm2 : val lo % 2 ^ i = 0 := by
          obtain ⟨c, hc⟩ := Nat.dvd_of_mod_eq_zero hmod
          rw [hc, Nat.pow_succ, Nat.mul_assoc]; exact Nat.mul_mod_right _ _
        exact J.at' (i, lo) ⟨rfl, rfl, rfl, rfl, trivial⟩ ⟨⟨inferInstance, hl1.to, hl2.to, hk1, o60, by show i ≤ n; omega, hwl, hm2, hsq1, by rw [← hv1]; exact h47⟩, by show i < i + 1; omega⟩
      · skip
        refine J.skip <| J.bend <| J.reg rfl <| O.mv rfl <| O.sb (r := (i : Int) - 1) rfl rfl (wI (by omega)) <| O.as rfl <| JO.nil <| ?_
        have hm2 : val lo1 % 2 ^ i = 0 := by
          rw [hv1]
          obtain ⟨c, hc⟩ := Nat.dvd_of_mod_eq_zero hmod
          rw [hc, Nat.pow_succ, Nat.mul_assoc, Nat.add_mod_right]; exact Nat.mul_mod_right _ _
        exact J.at' (i, lo1) ⟨rfl, rfl, rfl, rfl, trivial⟩ ⟨⟨inferInstance, hl1.to, hl2.to, hk1, ho, by show i ≤ n; omega, hw1, hm2, Nat.le_of_not_lt h47, by rw [hv1, Nat.add_assoc, ← Nat.two_mul, Nat.mul_comm 2, ← Nat.pow_succ]; exact hsq2⟩, by show i < i + 1; omega⟩
  · skip
    have hk0 : k = 0 := by omega
    subst hk0
    refine J.exit rfl <| J.seq <| ?_
    refine J.pubS ho fun Wq iq s19 hwq hloc => ?_
    have hk1 := hk1.eqw hwq
    have hl1 := hloc hl1 (fun a ha _ => by injection ha with ha; subst ha; exact hne1)
    have hl2 := hloc hl2 (fun a ha _ => by injection ha with ha; subst ha; exact hne2)
    refine J.reg rfl <| O.mv rfl <| O.call rfl (ref01_signed_ok false s19.to) fun W62 v62 i62 e62 h62 => ?_
    refine O.stT rfl rfl hl2.to h62.to rfl fun Ws2 is2 hb2 F2 => ?_
    have hl1 := F2.loc hl1.to n1_2
    have hk1 := (hk1.ext e62).stf F2 n1_2
    refine O.as rfl <| JO.nil <| J.retTv rfl rfl hb2.to.h rfl rfl rfl fun W' v' iE iP hv' => ?_
    have : rt a = val lo := rt_eq hsq1 (by simpa using hsq2)
    rw [this]
    exact ⟨_, rfl, hv'.to⟩
end
section
theorem integer_Norm_ok {W : GW} {v : Value} {z : Int} (h : V RI W v (ci z)) (hl : (dig z.natAbs).length ≤ 17592186044416) :
    Ok Tryz.prog 164 [v] W fun W' r => V RI W' r (ci z) := by
  refine Ok.enter Tryz.func164 rfl rfl rfl rfl fun W0 iEn => ?_
  refine J.seq <| J.reg rfl <| O.boxT rfl h.to fun W1 b1 i1 hb1 => ?_
  refine O.allocE fun W2 b2 i2 e2 hl2 hc2 hz2 => ?_
  refine JO.nil <| J.seq <| ?_
  refine J.draw [.ex _, .ex _, .ex _, .rel _, .rel _, .rel _] rfl rfl ⟨fun Wd id ed _ => O.fa rfl <| D.ex, fun Wd id ed _ => O.ldTb rfl (hb1.to.h.f) <| D.ex, fun Wd id ed _ => O.fa rfl <| D.ex, fun Wd id ed _ => O.ldTD rfl hb1.to.h.s rfl rfl (fun _ => rfl), fun Wd id ed _ => fun v6 h6 => (by obtain ⟨p6, m6, c6, rfl, s6⟩ := h6.sl; exact O.call rfl (integer_trimd_ok s6.to) fun Wd vd id ed hd => D.rel ed hd V.me), fun Wd id ed _ => fun _ _ => fun v7 h7 => (by obtain ⟨p7, m7, c7, rfl, s7⟩ := h7.sl; exact O.call rfl (clone_u32_ok s7.to hl) fun Wd vd id ed hd => D.rel ed hd V.me), trivial⟩ ?_
  intro Wr1 ir1 er1 v6 h6 v7 h7 v8 h8
  obtain ⟨p6, m6, c6, rfl, s6⟩ := h6.sl
  obtain ⟨p7, m7, c7, rfl, s7⟩ := h7.sl
  obtain ⟨p8, m8, c8, rfl, s8⟩ := h8.sl
  refine O.call rfl (integer_signedd_ok (decide (z < 0)) s8.to) fun W9 v9 i9 e9 h9 => ?_
  refine O.stT rfl rfl hl2.to h9.to rfl fun Ws1 is1 hb2 F2 => ?_
  refine JO.nil <| J.retT rfl rfl hb2.to.h rfl rfl fun W' v' iE iP hv' => ?_
  rw [sg_abs] at hv'
  exact hv'.to
theorem rational_Make_ok {W : GW} {v v' : Value} {a b : Int} {p : Nat} (h : V RI W v (ci a)) (h' : V RI W v' (ci b)) (ha : Zs p a) (hb : Zs p b) (hp : p ≤ 17592186044416) (hb0 : b ≠ 0) :
    Ok Tryz.prog 147 [v, v'] W fun W' r => ∃ v1, r = .tuple #[v1, .int .i64 0] ∧ V RQ W' v1 (cq (Rat.divInt a b)) := by
  have hla := ha.len hp
  have hlb := hb.len hp
  refine Ok.enter Tryz.func147 rfl rfl rfl rfl fun W0 iEn => ?_
  refine J.seq <| J.reg rfl <| ?_
  refine O.boxC rfl h.to fun W2 b2 i2 e2 hl2 hk2 hz2 => ?_
  refine O.boxC rfl h'.to fun W3 b3 i3 e3 hl3 hk3 hz3 => ?_
  have n2_3 : b2 ≠ b3 := Nat.ne_of_lt (Nat.lt_of_lt_of_le (by exact hl2.to.lt) hz3)
  refine O.allocE fun W4 b4 i4 e4 hl4 hc4 hz4 => ?_
  have n2_4 : b2 ≠ b4 := Nat.ne_of_lt (Nat.lt_of_lt_of_le (by exact hl2.to.lt) hz4)
  have n3_4 : b3 ≠ b4 := Nat.ne_of_lt (Nat.lt_of_lt_of_le (by exact hl3.to.lt) hz4)
  refine O.as rfl <| JO.nil <| J.seq <| ?_
  refine J.draw [.rel _, .rel _, .rel _] rfl rfl ⟨fun Wd id ed _ => O.ldTD rfl (((hk2.ext e3).ext e4).ext ed).h rfl rfl (fun h => nomatch h), fun Wd id ed _ => fun v6 h6 => O.call rfl (integer_Norm_ok h6 (by omega)) fun Wd vd id ed hd => D.rel ed hd V.me, fun Wd id ed _ => O.ldTD rfl ((hk3.ext e4).ext ed).h rfl rfl (fun h => nomatch h), trivial⟩ ?_
  intro Wr1 ir1 er1 v6 h6 v7 h7 v8 h8
  refine O.call rfl (integer_Norm_ok h8.to (by omega)) fun W9 v9 i9 e9 h9 => ?_
  refine O.stM rfl rfl hl2.to h7.to rfl fun Ws1 is1 hk2 F2 => ?_
  have hk3 := (((hk3.ext e4).ext er1).ext e9).stf F2 n2_3.symm
  refine O.stM rfl rfl hl3.to h9.to rfl fun Ws2 is2 hk3 F3 => ?_
  have hk2 := hk2.stf F3 n2_3
  refine JO.nil <| J.seq <| J.seq <| J.reg rfl <| O.ldT rfl hk3.h rfl rfl (fun h => nomatch h) fun v10 h10 => ?_
  refine O.call rfl (rational_isZero_ok h10.to) fun W11 v11 i11 e11 h11 => ?_
  subst h11
  refine O.set (t := 11) (.bool false) rfl (by simp only [Value.bool.injEq, decide_eq_false_iff_not]; exact hb0) ?_
  refine JO.nil <| J.condF rfl <| J.skip <| J.seq <| J.reg rfl <| O.ldT rfl (hk2.ext e11).h rfl rfl (fun h => nomatch h) fun v13 h13 => O.ldT rfl (hk3.ext e11).h rfl rfl (fun h => nomatch h) fun v14 h14 => O.call rfl (rational_lowest_ok h13.to h14.to ha hb hp hb0) fun W15 v15 i15 e15 h15 => ?_
  refine O.stT rfl rfl hl4.to h15.to rfl fun Ws3 is3 hb4 F4 => ?_
  have hl2 := F4.loc hl2.to n2_4
  have hl3 := F4.loc hl3.to n3_4
  have hk2 := ((hk2.ext e11).ext e15).stf F4 n2_4
  have hk3 := ((hk3.ext e11).ext e15).stf F4 n3_4
  refine O.as rfl <| JO.nil <| J.retTv rfl rfl hb4.to.h rfl rfl rfl fun W' v' iE iP hv' => ?_
  exact ⟨_, rfl, hv'.to⟩
/-- which of two numbers is greater -/
def cmpQ (x y : Rat) : Int := if x < y then -1 else if y < x then 1 else 0
theorem cmpQ_mul (x y : Rat) : cmpI (x.num * y.den) (y.num * x.den) = cmpQ x y := by
  unfold cmpI cmpQ
  simp only [Rat.lt_iff, gt_iff_lt]
theorem cmpQ_swap (x y : Rat) : cmpQ x y = - cmpQ y x := by
  unfold cmpQ
  by_cases h1 : x < y
  · have : ¬ y < x := by grind
    rw [if_pos h1, if_neg this, if_pos h1]
  · rw [if_neg h1]
    by_cases h2 : y < x
    · rw [if_pos h2, if_pos h2]; rfl
    · rw [if_neg h2, if_neg h2, if_neg h1]; rfl
theorem ref02_Make_ok {W : GW} {v v' : Value} {a b : Int} {p : Nat} (h : V RI W v (ci a)) (h' : V RI W v' (ci b)) (ha : Zs p a) (hb : Zs p b) (hp : p ≤ 17592186044416) (hb0 : b ≠ 0) :
    Ok Tryz.prog 123 [v, v'] W fun W' r => V RQ W' r (cq (Rat.divInt a b)) := by
  have hla := ha.len hp
  have hlb := hb.len hp
  have hg := (hb.gcd (x := a) hb0)
  have hg0 := @gcd_ne a b hb0
  refine Ok.enter Tryz.func123 rfl rfl rfl rfl fun W0 iEn => ?_
  refine J.seq <| J.reg rfl <| O.boxT rfl h.to fun W2 b2 i2 hb2 => O.boxT rfl h'.to fun W3 b3 i3 hb3 => ?_
  refine O.allocE fun W4 b4 i4 e4 hl4 hc4 hz4 => ?_
  refine JO.nil <| J.seq <| J.reg rfl <| O.ldT rfl hb2.to.h rfl rfl (fun h => nomatch h) fun v6 h6 => O.ldT rfl hb3.to.h rfl rfl (fun h => nomatch h) fun v7 h7 => O.call rfl (ref01_GCD_ok h6.to h7.to hla hlb) fun W8 v8 i8 e8 h8 => ?_
  refine O.allocE fun W5 b5 i5 e5 hl5 hc5 hz5 => ?_
  have n4_5 : b4 ≠ b5 := Nat.ne_of_lt (Nat.lt_of_lt_of_le (by exact hl4.to.lt) hz5)
  refine O.stM rfl rfl hl5.to h8.to rfl fun Ws1 is1 hk5 F5 => ?_
  refine JO.nil <| J.seq <| J.seq <| J.reg rfl <| O.ldT rfl hb3.to.h rfl rfl (fun h => nomatch h) fun v9 h9 => ?_
  refine O.call rfl (ref01_Sign_ok h9.to) fun W10 v10 i10 e10 h10 => ?_
  subst h10
  refine O.lt rfl rfl <| ?_
  refine O.set (t := 11) (.bool (decide (b < 0))) rfl (by congr 1; apply decide_eq_decide.2; rcases cmpI_tri b 0 with ⟨g1, g2⟩ | ⟨g1, g2⟩ | ⟨g1, g2⟩ <;> omega) ?_
  refine JO.nil <| J.condD rfl (fun h11 => ?_) (fun h11 => ?_)
  · skip
    refine J.reg rfl <| O.ldT rfl (hk5.ext e10).h rfl rfl (fun h => nomatch h) fun v12 h12 => O.call rfl (ref01_Neg_ok h12.to) fun W13 v13 i13 e13 h13 => ?_
    refine O.stM rfl rfl hl5.to h13.to rfl fun Ws2 is2 hk5 F5 => ?_
    refine JO.nil <| J.seq <| ?_
    refine J.draw [.rel _, .rel _, .rel _, .rel _, .rel _] rfl rfl ⟨fun Wd id ed _ => O.ldTD rfl hb2.to.h rfl rfl (fun h => nomatch h), fun Wd id ed _ => O.ldTD rfl (hk5.ext ed).h rfl rfl (fun h => nomatch h), fun Wd id ed _ => fun v14 h14 => fun v15 h15 => O.call rfl (ref02_quo_ok h14 h15 hla (hg.neg.len hp) (by omega)) fun Wd vd id ed hd => D.rel ed hd V.me, fun Wd id ed _ => O.ldTD rfl hb3.to.h rfl rfl (fun h => nomatch h), fun Wd id ed _ => O.ldTD rfl (hk5.ext ed).h rfl rfl (fun h => nomatch h), trivial⟩ ?_
    intro Wr4 ir4 er4 v14 h14 v15 h15 v16 h16 v17 h17 v18 h18
    refine O.call rfl (ref02_quo_ok h17.to h18.to hlb (hg.neg.len hp) (by omega)) fun W19 v19 i19 e19 h19 => O.bldT rfl rfl h16.to h19.to rfl rfl fun v20 h20 => ?_
    refine O.stT rfl rfl hl4.to h20.to rfl fun Ws3 is3 hb4 F4 => ?_
    have hl5 := F4.loc hl5.to n4_5.symm
    have hk5 := ((hk5.ext er4).ext e19).stf F4 n4_5.symm
    refine JO.nil <| J.retT rfl rfl hb4.to.h rfl rfl fun W' v' iE iP hv' => ?_
    have e1 := @lowest_num a b hb0
    have e2 := @lowest_den a b hb0
    rw [if_pos h11] at e1 e2
    rw [cq, ← e1, ← e2]
    exact hv'.to
  · skip
    refine J.skip <| J.seq <| ?_
    refine J.draw [.rel _, .rel _, .rel _, .rel _, .rel _] rfl rfl ⟨fun Wd id ed _ => O.ldTD rfl hb2.to.h rfl rfl (fun h => nomatch h), fun Wd id ed _ => O.ldTD rfl ((hk5.ext e10).ext ed).h rfl rfl (fun h => nomatch h), fun Wd id ed _ => fun v14 h14 => fun v15 h15 => O.call rfl (ref02_quo_ok h14 h15 hla (hg.len hp) (by omega)) fun Wd vd id ed hd => D.rel ed hd V.me, fun Wd id ed _ => O.ldTD rfl hb3.to.h rfl rfl (fun h => nomatch h), fun Wd id ed _ => O.ldTD rfl ((hk5.ext e10).ext ed).h rfl rfl (fun h => nomatch h), trivial⟩ ?_
    intro Wr4 ir4 er4 v14 h14 v15 h15 v16 h16 v17 h17 v18 h18
    refine O.call rfl (ref02_quo_ok h17.to h18.to hlb (hg.len hp) (by omega)) fun W19 v19 i19 e19 h19 => O.bldT rfl rfl h16.to h19.to rfl rfl fun v20 h20 => ?_
    refine O.stT rfl rfl hl4.to h20.to rfl fun Ws4 is4 hb4 F4 => ?_
    have hl5 := F4.loc hl5.to n4_5.symm
    have hk5 := (((hk5.ext e10).ext er4).ext e19).stf F4 n4_5.symm
    refine JO.nil <| J.retT rfl rfl hb4.to.h rfl rfl fun W' v' iE iP hv' => ?_
    have e1 := @lowest_num a b hb0
    have e2 := @lowest_den a b hb0
    rw [if_neg h11] at e1 e2
    rw [cq, ← e1, ← e2]
    exact hv'.to
theorem ref02_Cmp_ok {W : GW} {v v' : Value} {x y : Rat} {p q : Nat} (h : V RQ W v (cq x)) (h' : V RQ W v' (cq y)) (hx : Qs p x) (hy : Qs q y) (hp : p + q ≤ 17592186044416) :
    Ok Tryz.prog 42 [v, v'] W fun _ r => r = .int .i64 (cmpQ x y) := by
  refine Ok.enter Tryz.func42 rfl rfl rfl rfl fun W0 iEn => ?_
  refine J.seq <| J.reg rfl <| O.boxT rfl h.to fun W2 b2 i2 hb2 => O.boxT rfl h'.to fun W3 b3 i3 hb3 => O.as rfl <| JO.nil <| J.seq <| ?_
  refine J.draw [.ex _, .rel _, .ex _, .rel _, .rel _, .ex _, .rel _, .ex _, .rel _] rfl rfl ⟨fun Wd id ed _ => O.fa rfl <| D.ex, fun Wd id ed _ => O.ldTD rfl hb2.to.h.f rfl rfl (fun h => nomatch h), fun Wd id ed _ => O.fa rfl <| D.ex, fun Wd id ed _ => O.ldTD rfl hb3.to.h.s rfl rfl (fun h => nomatch h), fun Wd id ed _ => fun v6 h6 => fun v8 h8 => O.call rfl (ref01_Mul_ok h6 h8 (hx.n.len (by omega)) (hy.d.len (by omega))) fun Wd vd id ed hd => D.rel ed hd V.me, fun Wd id ed _ => O.fa rfl <| D.ex, fun Wd id ed _ => O.ldTD rfl hb3.to.h.f rfl rfl (fun h => nomatch h), fun Wd id ed _ => O.fa rfl <| D.ex, fun Wd id ed _ => O.ldTD rfl hb2.to.h.s rfl rfl (fun h => nomatch h), trivial⟩ ?_
  intro Wr1 ir1 er1 v6 h6 v8 h8 v9 h9 v11 h11 v13 h13
  refine O.call rfl (ref01_Mul_ok h11.to h13.to (hy.n.len (by omega)) (hx.d.len (by omega))) fun W14 v14 i14 e14 h14 => ?_
  refine O.call rfl (ref01_Cmp_ok h9.to h14.to ((hx.n.mul hy.d).len hp) ((hy.n.mul hx.d).len (by omega))) fun W15 v15 i15 e15 h15 => ?_
  subst h15
  refine O.as rfl <| JO.nil <| J.ret1 rfl (.tmp rfl) fun W' iE iP => ?_
  rw [cmpQ_mul]
theorem ref02_Sign_ok {W : GW} {v : Value} {x : Rat} (h : V RQ W v (cq x)) : Ok Tryz.prog 74 [v] W fun _ r => r = .int .i64 (cmpI x.num 0) := by
  refine Ok.enter Tryz.func74 rfl rfl rfl rfl fun W0 iEn => ?_
  refine J.seq <| J.reg rfl <| O.boxT rfl h.to fun W1 b1 i1 hb1 => O.as rfl <| JO.nil <| J.seq <| J.reg rfl <| O.fa rfl <| O.ldT (r := RI) rfl hb1.to.h.f rfl rfl (fun h => nomatch h) fun v4 h4 => ?_
  refine O.call rfl (ref01_Sign_ok h4.to) fun W5 v5 i5 e5 h5 => ?_
  subst h5
  refine O.as rfl <| JO.nil <| J.ret1 rfl (.tmp rfl) fun W' iE iP => ?_
  rfl
end
end Go.Proofs.YtcaikjefkkejbaaGreat
