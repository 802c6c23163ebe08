/- The program's integers, the words: contracts. -/
import Derived.Test.YtcaikjefkkejbaaGreatIds
import Derived.Test.YtcaikjefkkejbaaGreatNum
import Derived.Test.YtcaikjefkkejbaaGreatRl
set_option linter.unusedVariables false
set_option linter.unusedSimpArgs false
set_option maxRecDepth 10000
namespace Go.Proofs.YtcaikjefkkejbaaGreat
open Go Go.Rx Go.Num
section
theorem slw {W : GW} {p : Option Addr} {m c : Nat} {l : List Nat} (h : Sl RW W p m c l) : Words l := by
  intro x hx
  obtain ⟨i, hi⟩ := List.getElem?_of_mem hx
  obtain ⟨b, off, cs, _, hc, _⟩ := h.cells hi
  exact hc.2
theorem xat {l : List Nat} {k : Nat} (h : k < l.length) : ∃ x, l[k]? = some x := ⟨_, List.getElem?_eq_getElem h⟩
/-- trim: the words without zeros at the end. -/
theorem integer_trim_ok {W : GW} {p : Option Addr} {m c : Nat} {l : List Nat} (h : Sl RW W p m c l) :
    Ok Tryz.prog 150 [.slice p m c] W fun W' v => V (RSl RW) W' v (dig (val l)) := by
  have hn := h.hn
  have hc := h.hc
  have hC := h.hC
  refine Ok.enter Tryz.func150 rfl rfl rfl rfl fun W0 iEn => ?_
  refine J.seq <| J.reg rfl <| O.as rfl <| JO.nil <| J.seq <| J.block <| ?_
  refine J.loop (α := Nat) (fun k => [(0, .slice p k c)]) (fun k W => W = W0 ∧ k ≤ l.length ∧ val (l.take k) = val l) (fun k => k) m ⟨rfl, trivial⟩ ⟨rfl, by omega, by rw [hn, List.take_length]⟩ ?_
  rintro k W1 ⟨rfl, hk, hv⟩
  refine J.seq <| J.seq <| J.reg rfl <| O.mv rfl <| O.len rfl <| O.gtr rfl rfl <| O.mv rfl <| ?_
  by_cases hg6 : 0 < k
  · skip
    refine O.set (t := 6) (.bool true) rfl (by simp only [Value.bool.injEq, decide_eq_true_eq, decide_eq_false_iff_not]; omega) <| O.gt rfl rfl <| O.mv rfl <| O.gt rfl rfl <| O.mv rfl <| O.gt rfl rfl <| O.len rfl <| O.gt rfl rfl <| ?_
    obtain ⟨x, hx⟩ := xat (l := l) (k := k - 1) (by omega)
    have hx' : (l.take k)[k - 1]? = some x := by rw [List.getElem?_take, if_pos (by omega)]; exact hx
    refine O.sb rfl rfl (wI (by omega)) <| O.gt rfl rfl <| O.iaW (j := k - 1) rfl rfl (by omega) (Sl.take h.to k (by omega)) hx' fun b off hcell => O.gt rfl rfl <| O.ldC rfl hcell <| O.gt rfl rfl <| O.eq rfl rfl <| O.pickT rfl rfl <| JO.nil <| J.condD rfl (fun h14 => ?_) (fun h14 => ?_)
    · skip
      refine J.skip <| J.block <| J.reg rfl <| O.mv rfl <| O.mv rfl <| O.len rfl <| O.sb rfl rfl (wI (by omega)) <| O.slh (hi := k - 1) rfl rfl (by omega) (by omega) <| O.as rfl <| JO.nil <| J.bend <| ?_
      have hts := val_take_succ hx
      rw [show k - 1 + 1 = k from by omega, show x = 0 from by omega] at hts
      exact J.at' (k - 1) ⟨rfl, trivial⟩ ⟨⟨rfl, by omega, by omega⟩, by omega⟩
    · skip
      refine J.exit rfl <| J.seq <| J.reg rfl <| O.mv rfl <| O.as rfl <| JO.nil <| J.ret1 rfl (.tmp rfl) fun W' _ _ => ?_
      have hw := (slw h).take k
      have ht : Trim (l.take k) := by
        refine .inr ⟨x, ?_, by omega⟩
        rw [List.length_take, Nat.min_eq_left hk, List.getElem?_take, if_pos (by omega)]; exact hx
      rw [← hv, dig_val hw ht]
      exact (Sl.take h.to k (by omega)).v
  · skip
    refine O.set (t := 6) (.bool false) rfl (by simp only [Value.bool.injEq, decide_eq_true_eq, decide_eq_false_iff_not]; omega) <| O.gs rfl rfl rfl <| O.gs rfl rfl rfl <| O.gs rfl rfl rfl <| O.gs rfl rfl rfl <| O.gs rfl rfl rfl <| O.gs rfl rfl rfl <| O.gs rfl rfl rfl <| O.pickF rfl rfl <| JO.nil <| J.condF rfl <| J.exit rfl <| J.seq <| J.reg rfl <| O.mv rfl <| O.as rfl <| JO.nil <| J.ret1 rfl (.tmp rfl) fun W' _ _ => ?_
    have hz : val l = 0 := by rw [← hv, show k = 0 from by omega]; rfl
    rw [hz, dig_zero]
    exact Sl.v ⟨by rw [show k = 0 from by omega]; rfl, by omega, hC, .inl rfl⟩
theorem ownw {W : GW} {p : Option Addr} {m c : Nat} {l : List Nat} (h : Ows RW W p m c l) : Words l := by
  intro x hx
  obtain ⟨i, hi⟩ := List.getElem?_of_mem hx
  obtain ⟨b, cs, _, hc, _⟩ := h.cells hi
  exact hc.2
/-- plus: the sum. -/
theorem integer_plus_ok {W : GW} {p q : Option Addr} {m c m' c' x y : Nat} (h : Sl RW W p m c (dig x)) (h' : Sl RW W q m' c' (dig y)) (hx : (dig x).length ≤ 1099511627776) (hy : (dig y).length ≤ 1099511627776) :
    Ok Tryz.prog 151 [.slice p m c, .slice q m' c'] W fun W' v => V (RSl RW) W' v (dig (x + y)) := by
  refine Ok.enter Tryz.func151 rfl rfl rfl rfl fun W0 iEn => ?_
  refine J.seq <| J.reg rfl <| O.as rfl <| JO.nil <| J.seq <| J.seq <| J.reg rfl <| O.mv rfl <| O.len rfl <| O.mv rfl <| O.len rfl <| O.lt rfl rfl <| JO.nil <| ?_
  refine J.cut (α := (Option Addr × Nat × Nat × Nat) × Option Addr × Nat × Nat × Nat) (fun q => [(0, .slice q.1.1 q.1.2.1 q.1.2.2.1), (1, .slice q.2.1 q.2.2.1 q.2.2.2.1)]) (fun q W => W = W0 ∧ Sl RW W q.1.1 q.1.2.1 q.1.2.2.1 (dig q.1.2.2.2) ∧ Sl RW W q.2.1 q.2.2.1 q.2.2.2.1 (dig q.2.2.2.2) ∧ q.1.2.2.2 + q.2.2.2.2 = x + y ∧ q.2.2.1 ≤ q.1.2.1 ∧ q.1.2.1 ≤ 1099511627776) ?_ ?_
  · skip
    refine J.condD rfl (fun h13 => ?_) (fun h13 => ?_)
    · skip
      refine J.reg rfl <| O.mv rfl <| O.mv rfl <| O.as rfl <| O.as rfl <| JO.nil <| ?_
      exact J.at' ((q, m', c', y), p, m, c, x) ⟨rfl, rfl, trivial⟩ ⟨rfl, h'.to, h.to, Nat.add_comm _ _, by show m ≤ m'; omega, by show m' ≤ _; rw [h'.hn]; exact hy⟩
    · skip
      refine J.skip <| ?_
      exact J.at' ((p, m, c, x), q, m', c', y) ⟨rfl, rfl, trivial⟩ ⟨rfl, h.to, h'.to, rfl, by show m' ≤ m; omega, by show m ≤ _; rw [h.hn]; exact hx⟩
  · skip
    rintro ⟨⟨p1, n1, c1, x1⟩, p2, n2, c2, x2⟩ W1 ⟨rfl, h1, h2, hsum, hle, hbig⟩
    dsimp only at *
    have hn1 := h1.hn
    have hn2 := h2.hn
    refine J.seq <| J.reg rfl <| O.mv rfl <| O.len rfl <| O.add rfl rfl (wI (by omega)) <| O.mk (r := RW) (m := 0) (c := n1 + 1) 0 rfl rfl rfl rfl (by omega) (by omega) (by omega) rfl rfl (by decide) (fun _ => ⟨rfl, by decide⟩) fun W2 b2 i2 e2 hb2 ho0 => O.as rfl <| JO.nil <| J.seq <| J.reg rfl <| O.as rfl <| JO.nil <| J.seq <| J.seq <| J.reg rfl <| O.mv rfl <| O.len rfl <| O.mv rfl <| JO.nil <| J.block <| ?_
    refine J.loop (α := Nat × Option Addr × Nat × List Nat × Nat) (fun q => [(1, .slice p2 n2 c2), (5, .slice q.2.1 q.1 q.2.2.1), (6, .int .u64 (q.2.2.2.2 : Int)), (20, .slice p1 n1 c1), (21, .int .i64 (n1 : Int)), (22, .int .i64 (q.1 : Int))]) (fun q W => Le W1 W ∧ Ows RW W q.2.1 q.1 q.2.2.1 q.2.2.2.1 ∧ q.1 ≤ n1 ∧ q.2.2.2.2 ≤ 1 ∧ val q.2.2.2.1 + 4294967296 ^ q.1 * q.2.2.2.2 = val ((dig x1).take q.1) + val ((dig x2).take q.1)) (fun q => n1 - q.1) (0, some ⟨b2, 0, none⟩, n1 + 1, [], 0) ⟨rfl, rfl, rfl, rfl, rfl, rfl, trivial⟩ ⟨inferInstance, ho0, Nat.zero_le _, Nat.zero_le _, rfl⟩ ?_
    rintro ⟨k, po, co, lo, cr⟩ W3 ⟨_, ho, hk, hcr, hval⟩
    dsimp only at *
    refine J.seq <| J.reg rfl <| O.lt rfl rfl <| JO.nil <| J.seq <| J.condD rfl (fun h23 => ?_) (fun h23 => ?_)
    · skip
      obtain ⟨u, hu⟩ := xat (l := dig x1) (k := k) (by omega)
      have hub := words_dig x1 u (List.mem_of_getElem? hu)
      refine J.skip <| J.seq <| J.block <| J.seq <| J.reg rfl <| O.mv rfl <| O.ixW (j := k) rfl rfl rfl h1.to hu fun a1 => O.as rfl <| O.as rfl <| JO.nil <| J.seq <| J.reg rfl <| O.mv rfl <| O.mv rfl <| O.cv rfl (wU (by omega)) <| O.add rfl rfl (wU (by omega)) <| O.as rfl <| JO.nil <| J.seq <| J.seq <| J.reg rfl <| O.mv rfl <| O.mv rfl <| O.len rfl <| O.lt rfl rfl <| JO.nil <| ?_
      refine J.cut (α := Nat) (fun s => [(1, .slice p2 n2 c2), (5, .slice po k co), (6, .int .u64 (s : Int)), (20, .slice p1 n1 c1), (21, .int .i64 (n1 : Int)), (22, .int .i64 (k : Int))]) (fun s W => W = W3 ∧ s < 8589934592 ∧ 4294967296 ^ k * s + val lo = val ((dig x1).take (k + 1)) + val ((dig x2).take (k + 1))) ?_ ?_
      · skip
        refine J.condD rfl (fun h34 => ?_) (fun h34 => ?_)
        · skip
          obtain ⟨u2, hu2⟩ := xat (l := dig x2) (k := k) (by omega)
          have hub2 := words_dig x2 u2 (List.mem_of_getElem? hu2)
          refine J.reg rfl <| O.mv rfl <| O.mv rfl <| O.mv rfl <| O.ixW (j := k) rfl rfl rfl h2.to hu2 fun a2 => O.cv rfl (wU (by omega)) <| O.add rfl rfl (wU (by omega)) <| O.as rfl <| JO.nil <| ?_
          exact J.at' (cr + u + u2) ⟨rfl, rfl, rfl, rfl, rfl, rfl, trivial⟩ ⟨rfl, by omega, by rw [val_take_succ hu, val_take_succ hu2, Nat.mul_add, Nat.mul_add]; omega⟩
        · skip
          refine J.skip <| ?_
          exact J.at' (cr + u) ⟨rfl, rfl, rfl, rfl, rfl, rfl, trivial⟩ ⟨rfl, by omega, by rw [val_take_succ hu, take_ge (l := dig x2) (by omega), Nat.mul_add]; omega⟩
      · skip
        rintro s W4 ⟨rfl, hs, hsv⟩
        refine J.seq <| J.reg rfl <| O.mv rfl <| O.mv rfl <| O.cv (r := ((s % 4294967296 : Nat) : Int)) rfl ((wWm _).trans (by omega)) <| O.app1 (r := RW) (u := s % 4294967296) (fun _ => rfl) rfl ho (rwv _ (by omega)) rfl rfl (by decide) (.inr rfl) (by decide) (by omega) (by omega) fun W5 p5 c5 v5 i5 o5 => O.as rfl <| JO.nil <| J.reg rfl <| O.mv rfl <| O.shr rfl rfl (by decide) (shr32 s) <| O.as rfl <| JO.nil <| J.bend <| J.reg rfl <| O.add rfl rfl (wI (by omega)) <| O.mv rfl <| JO.nil <| ?_
        have hval2 : val (lo ++ [s % 4294967296]) + 4294967296 ^ (k + 1) * (s / 4294967296) = val ((dig x1).take (k + 1)) + val ((dig x2).take (k + 1)) := by
          rw [val_append, ← ho.hn, ← hsv, Nat.pow_succ, Nat.mul_assoc]
          have e : s = s % 4294967296 + 4294967296 * (s / 4294967296) := by omega
          have e2 : 4294967296 ^ k * s = 4294967296 ^ k * (s % 4294967296) + 4294967296 ^ k * (4294967296 * (s / 4294967296)) := by rw [← Nat.mul_add, ← e]
          simp only [val, Nat.mul_zero, Nat.add_zero]
          omega
        exact J.at' (k + 1, p5, c5, lo ++ [s % 4294967296], s / 4294967296) ⟨rfl, rfl, rfl, rfl, rfl, rfl, trivial⟩ ⟨⟨inferInstance, o5, by show k + 1 ≤ n1; omega, by show s / 4294967296 ≤ 1; omega, hval2⟩, by show n1 - (k + 1) < n1 - k; omega⟩
    · skip
      have hkn : k = n1 := by omega
      subst hkn
      have hfin : val lo + 4294967296 ^ k * cr = x + y := by
        rw [hval, List.take_of_length_le (by omega), List.take_of_length_le (by omega), val_dig, val_dig, hsum]
      have hlw := ownw ho
      refine J.exit rfl <| J.seq <| J.seq <| J.reg rfl <| O.mv rfl <| O.gtr rfl rfl <| JO.nil <| J.condD rfl (fun h51 => ?_) (fun h51 => ?_)
      · skip
        refine J.reg rfl <| O.mv rfl <| O.mv rfl <| O.cv (r := ((cr : Nat) : Int)) rfl (wW (by omega)) <| O.app1 (r := RW) (u := cr) (fun _ => rfl) rfl ho (rwv _ (by omega)) rfl rfl (by decide) (.inr rfl) (by decide) (by omega) (by omega) fun W5 p5 c5 v5 i5 o5 => O.as rfl <| JO.nil <| J.seq <| J.reg rfl <| O.mv rfl <| O.as rfl <| JO.nil <| J.ret1 rfl (.tmp rfl) fun W' iE iP => ?_
        have hl : lo ++ [cr] = dig (x + y) := by
          rw [← hfin]
          have e : val (lo ++ [cr]) = val lo + 4294967296 ^ k * cr := by rw [val_append, ← ho.hn]; simp [val]
          rw [← e, dig_val (ownw o5) (.inr ⟨cr, by simp, by omega⟩)]
        rw [← hl]
        exact (o5.pub iE iP).v
      · skip
        refine J.skip <| J.seq <| J.reg rfl <| O.mv rfl <| O.as rfl <| JO.nil <| J.ret1 rfl (.tmp rfl) fun W' iE iP => ?_
        have hc0 : cr = 0 := by omega
        subst hc0
        have hl : lo = dig (x + y) := by
          rw [← hfin, Nat.mul_zero, Nat.add_zero]
          refine (dig_val hlw ?_).symm
          rcases Nat.eq_zero_or_pos k with hk0 | hk0
          · exact .inl (List.eq_nil_of_length_eq_zero (by rw [← ho.hn]; exact hk0))
          · have hx1 : x1 ≠ 0 := fun hh => by rw [hh, dig_zero] at hn1; simp at hn1; omega
            have hlb := dig_lb hx1
            refine top_trim hlw (by rw [← ho.hn]; exact hk0) ?_
            rw [← ho.hn]
            rw [← hn1] at hlb
            omega
        rw [← hl]
        exact (ho.pub iE iP).v
/-- minus: the difference. -/
theorem integer_minus_ok {W : GW} {p q : Option Addr} {m c m' c' x y : Nat} (h : Sl RW W p m c (dig x)) (h' : Sl RW W q m' c' (dig y)) (hx : (dig x).length ≤ 1099511627776) (hle : y ≤ x) :
    Ok Tryz.prog 153 [.slice p m c, .slice q m' c'] W fun W' v => V (RSl RW) W' v (dig (x - y)) := by
  have hn := h.hn
  have hn' := h'.hn
  have hll := len_mono hle
  refine Ok.enter Tryz.func153 rfl rfl rfl rfl fun W0 iEn => ?_
  refine J.seq <| J.reg rfl <| O.as rfl <| JO.nil <| J.seq <| J.reg rfl <| O.mv rfl <| O.len rfl <| O.mk (r := RW) (m := m) (c := m) 0 rfl rfl rfl rfl (by omega) (by omega) (by omega) rfl rfl (by decide) (fun _ => ⟨rfl, by decide⟩) fun W2 b2 i2 e2 hb2 ho0 => O.as rfl <| JO.nil <| J.seq <| J.reg rfl <| O.as rfl <| JO.nil <| J.seq <| J.seq <| J.reg rfl <| O.mv rfl <| O.len rfl <| O.mv rfl <| JO.nil <| J.block <| ?_
  refine J.loop (α := Nat × List Nat × Nat) (fun q' => [(1, .slice q m' c'), (5, .slice (some ⟨b2, 0, none⟩) m m), (6, .int .u64 (q'.2.2 : Int)), (13, .slice p m c), (14, .int .i64 (m : Int)), (15, .int .i64 (q'.1 : Int))]) (fun q' W' => Le W0 W' ∧ Ows RW W' (some ⟨b2, 0, none⟩) m m q'.2.1 ∧ q'.1 ≤ m ∧ q'.2.2 ≤ 1 ∧ val (q'.2.1.take q'.1) + val ((dig y).take q'.1) = val ((dig x).take q'.1) + 4294967296 ^ q'.1 * q'.2.2) (fun q' => m - q'.1) (0, List.replicate m 0, 0) ⟨rfl, rfl, rfl, rfl, rfl, rfl, trivial⟩ ⟨inferInstance, ho0, Nat.zero_le _, Nat.zero_le _, rfl⟩ ?_
  rintro ⟨k, lo, br⟩ W3 ⟨_, ho, hk, hbr, hval⟩
  dsimp only at *
  refine J.seq <| J.reg rfl <| O.lt rfl rfl <| JO.nil <| J.seq <| J.condD rfl (fun h16 => ?_) (fun h16 => ?_)
  · skip
    obtain ⟨u, hu⟩ := xat (l := dig x) (k := k) (by omega)
    have hub := words_dig x u (List.mem_of_getElem? hu)
    refine J.skip <| J.seq <| J.block <| J.seq <| J.reg rfl <| O.mv rfl <| O.ixW (j := k) rfl rfl rfl h.to hu fun a1 => O.as rfl <| O.as rfl <| JO.nil <| J.seq <| J.reg rfl <| O.mv rfl <| O.cv rfl (wU (by omega)) <| O.mv rfl <| O.sb (r := (((u + 18446744073709551616 - br) % 18446744073709551616 : Nat) : Int)) rfl rfl ((wUm _).trans (by omega)) <| O.as rfl <| JO.nil <| J.seq <| J.seq <| J.reg rfl <| O.mv rfl <| O.mv rfl <| O.len rfl <| O.lt rfl rfl <| JO.nil <| ?_
    refine J.cut (α := Nat) (fun s => [(1, .slice q m' c'), (5, .slice (some ⟨b2, 0, none⟩) m m), (7, .int .i64 (k : Int)), (9, .int .u64 (s : Int)), (13, .slice p m c), (14, .int .i64 (m : Int)), (15, .int .i64 (k : Int))]) (fun s W => W = W3 ∧ s < 18446744073709551616 ∧ s / 9223372036854775808 ≤ 1 ∧ ∃ v, s % 4294967296 + v + br = u + 4294967296 * (s / 9223372036854775808) ∧ val ((dig y).take (k + 1)) = val ((dig y).take k) + 4294967296 ^ k * v) ?_ ?_
    · skip
      refine J.condD rfl (fun h27 => ?_) (fun h27 => ?_)
      · skip
        obtain ⟨u2, hu2⟩ := xat (l := dig y) (k := k) (by omega)
        have hub2 := words_dig y u2 (List.mem_of_getElem? hu2)
        refine J.reg rfl <| O.mv rfl <| O.mv rfl <| O.mv rfl <| O.ixW (j := k) rfl rfl rfl h'.to hu2 fun a2 => O.cv rfl (wU (by omega)) <| O.sb (r := (((u + 18446744073709551616 - br + 18446744073709551616 - u2) % 18446744073709551616 : Nat) : Int)) rfl rfl ((wUm _).trans (by omega)) <| O.as rfl <| JO.nil <| ?_
        exact J.at' ((u + 18446744073709551616 - br + 18446744073709551616 - u2) % 18446744073709551616) ⟨rfl, rfl, rfl, rfl, rfl, rfl, rfl, trivial⟩ ⟨rfl, by omega, by omega, u2, by omega, val_take_succ hu2⟩
      · skip
        refine J.skip <| ?_
        exact J.at' ((u + 18446744073709551616 - br) % 18446744073709551616) ⟨rfl, rfl, rfl, rfl, rfl, rfl, rfl, trivial⟩ ⟨rfl, by omega, by omega, 0, by omega, by rw [take_ge (by omega)]; rfl⟩
    · skip
      rintro s W4 ⟨rfl, hs, hs2, v, hsv, hyv⟩
      refine J.seq <| J.reg rfl <| O.mv rfl <| O.mv rfl <| O.mv rfl <| O.cv (r := ((s % 4294967296 : Nat) : Int)) rfl ((wWm _).trans (by omega)) <| O.iaB (r := RW) (j := k) rfl rfl rfl ho (by omega) rfl <| O.sto (r := RW) (j := k) (u := s % 4294967296) rfl rfl ho (by omega) (rwv _ (by omega)) rfl (.inr rfl) fun W5 i5 o5 => JO.nil <| J.reg rfl <| O.mv rfl <| O.shr rfl rfl (by decide) (shr63 s) <| O.as rfl <| JO.nil <| J.bend <| J.reg rfl <| O.add rfl rfl (wI (by omega)) <| O.mv rfl <| JO.nil <| ?_
      have hlk : k < lo.length := by rw [← ho.hn]; omega
      have hfin : val ((lo.set k (s % 4294967296)).take (k + 1)) + val ((dig y).take (k + 1)) = val ((dig x).take (k + 1)) + 4294967296 ^ (k + 1) * (s / 9223372036854775808) := by
        rw [val_set hlk, hyv, val_take_succ hu, Nat.pow_succ, Nat.mul_assoc]
        have e : 4294967296 ^ k * (s % 4294967296 + v + br) = 4294967296 ^ k * (u + 4294967296 * (s / 9223372036854775808)) := by rw [hsv]
        simp only [Nat.mul_add] at e
        omega
      exact J.at' (k + 1, lo.set k (s % 4294967296), s / 9223372036854775808) ⟨rfl, rfl, rfl, rfl, rfl, rfl, trivial⟩ ⟨⟨inferInstance, o5, by show k + 1 ≤ m; omega, hs2, hfin⟩, by show m - (k + 1) < m - k; omega⟩
  · skip
    have hkn : k = m := by omega
    have hlw := ownw ho
    have hln := ho.hn
    rw [hkn, List.take_of_length_le (by omega), List.take_of_length_le (by omega), List.take_of_length_le (by omega), val_dig, val_dig] at hval
    have hvl := val_lt hlw
    rw [← hln] at hvl
    have hbr0 : br = 0 := by
      rcases Nat.eq_zero_or_pos br with h0 | h0
      · exact h0
      · have h1 : 4294967296 ^ m * 1 ≤ 4294967296 ^ m * br := Nat.mul_le_mul_left _ h0
        omega
    rw [hbr0, Nat.mul_zero] at hval
    have hfin : val lo = x - y := by omega
    refine J.exit rfl <| J.seq <| ?_
    refine J.pub ho fun W6 i6 s6 => ?_
    refine J.reg rfl <| O.mv rfl <| O.call rfl (integer_trim_ok s6) fun W7 v7 i7 e7 h7 => O.as rfl <| JO.nil <| J.ret1 rfl (.tmp rfl) fun W' iE iP => ?_
    rw [← hfin]
    exact h7.to
theorem cmp_isNaN_int_ok {W : GW} (a : Int) : Ok Tryz.prog 175 [.int .i64 a] W fun _ v => v = .bool false := by
  refine Ok.enter Tryz.func175 rfl rfl rfl rfl fun W0 iEn => ?_
  refine J.seq <| J.reg rfl <| O.as rfl <| JO.nil <| J.seq <| J.reg rfl <| O.mv rfl <| O.mv rfl <| O.ne rfl rfl <| O.as rfl <| JO.nil <| J.ret1 rfl (.tmp rfl) fun W' iE iP => ?_
  simp
theorem cmp_isNaN_u32_ok {W : GW} (a : Int) : Ok Tryz.prog 176 [.int .u32 a] W fun _ v => v = .bool false := by
  refine Ok.enter Tryz.func176 rfl rfl rfl rfl fun W0 iEn => ?_
  refine J.seq <| J.reg rfl <| O.as rfl <| JO.nil <| J.seq <| J.reg rfl <| O.mv rfl <| O.mv rfl <| O.ne rfl rfl <| O.as rfl <| JO.nil <| J.ret1 rfl (.tmp rfl) fun W' iE iP => ?_
  simp
theorem cmp_Compare_int_ok {W : GW} (a b : Int) : Ok Tryz.prog 162 [.int .i64 a, .int .i64 b] W fun _ v => v = .int .i64 (cmpI a b) := by
  refine Ok.enter Tryz.func162 rfl rfl rfl rfl fun W0 iEn => ?_
  refine J.seq <| J.reg rfl <| O.as rfl <| JO.nil <| J.seq <| J.reg rfl <| O.mv rfl <| O.call rfl (cmp_isNaN_int_ok _) fun W2 v2 i2 e2 h2 => ?_
  subst h2
  refine O.as rfl <| JO.nil <| J.seq <| J.reg rfl <| O.mv rfl <| O.call rfl (cmp_isNaN_int_ok _) fun W3 v3 i3 e3 h3 => ?_
  subst h3
  refine O.as rfl <| JO.nil <| J.seq <| J.seq <| J.reg rfl <| O.mv rfl <| JO.nil <| J.condF rfl <| J.skip <| J.seq <| J.seq <| J.reg rfl <| O.mv rfl <| JO.nil <| J.condF rfl <| J.skip <| J.seq <| J.seq <| J.reg rfl <| O.mv rfl <| O.mv rfl <| O.lt rfl rfl <| JO.nil <| J.condD rfl (fun h16 => ?_) (fun h16 => ?_)
  · skip
    refine J.seq <| J.reg rfl <| O.as rfl <| JO.nil <| J.ret1 rfl (.tmp rfl) fun W' iE iP => ?_
    rw [cmpI, if_pos h16]
  · skip
    refine J.skip <| J.seq <| J.seq <| J.reg rfl <| O.mv rfl <| O.mv rfl <| O.gtr rfl rfl <| JO.nil <| J.condD rfl (fun h19 => ?_) (fun h19 => ?_)
    · skip
      refine J.seq <| J.reg rfl <| O.as rfl <| JO.nil <| J.ret1 rfl (.tmp rfl) fun W' iE iP => ?_
      rw [cmpI, if_neg h16, if_pos h19]
    · skip
      refine J.skip <| J.seq <| J.reg rfl <| O.as rfl <| JO.nil <| J.ret1 rfl (.tmp rfl) fun W' iE iP => ?_
      rw [cmpI, if_neg h16, if_neg h19]
theorem cmp_Compare_u32_ok {W : GW} (a b : Int) : Ok Tryz.prog 165 [.int .u32 a, .int .u32 b] W fun _ v => v = .int .i64 (cmpI a b) := by
  refine Ok.enter Tryz.func165 rfl rfl rfl rfl fun W0 iEn => ?_
  refine J.seq <| J.reg rfl <| O.as rfl <| JO.nil <| J.seq <| J.reg rfl <| O.mv rfl <| O.call rfl (cmp_isNaN_u32_ok _) fun W2 v2 i2 e2 h2 => ?_
  subst h2
  refine O.as rfl <| JO.nil <| J.seq <| J.reg rfl <| O.mv rfl <| O.call rfl (cmp_isNaN_u32_ok _) fun W3 v3 i3 e3 h3 => ?_
  subst h3
  refine O.as rfl <| JO.nil <| J.seq <| J.seq <| J.reg rfl <| O.mv rfl <| JO.nil <| J.condF rfl <| J.skip <| J.seq <| J.seq <| J.reg rfl <| O.mv rfl <| JO.nil <| J.condF rfl <| J.skip <| J.seq <| J.seq <| J.reg rfl <| O.mv rfl <| O.mv rfl <| O.lt rfl rfl <| JO.nil <| J.condD rfl (fun h16 => ?_) (fun h16 => ?_)
  · skip
    refine J.seq <| J.reg rfl <| O.as rfl <| JO.nil <| J.ret1 rfl (.tmp rfl) fun W' iE iP => ?_
    rw [cmpI, if_pos h16]
  · skip
    refine J.skip <| J.seq <| J.seq <| J.reg rfl <| O.mv rfl <| O.mv rfl <| O.gtr rfl rfl <| JO.nil <| J.condD rfl (fun h19 => ?_) (fun h19 => ?_)
    · skip
      refine J.seq <| J.reg rfl <| O.as rfl <| JO.nil <| J.ret1 rfl (.tmp rfl) fun W' iE iP => ?_
      rw [cmpI, if_neg h16, if_pos h19]
    · skip
      refine J.skip <| J.seq <| J.reg rfl <| O.as rfl <| JO.nil <| J.ret1 rfl (.tmp rfl) fun W' iE iP => ?_
      rw [cmpI, if_neg h16, if_neg h19]
/-- compare. -/
theorem integer_compare_ok {W : GW} {p q : Option Addr} {m c m' c' x y : Nat} (h : Sl RW W p m c (dig x)) (h' : Sl RW W q m' c' (dig y)) :
    Ok Tryz.prog 152 [.slice p m c, .slice q m' c'] W fun W' v => v = .int .i64 (cmpI x y) := by
  have hn := h.hn
  have hn' := h'.hn
  have hb := h.hC
  have hb1 := h.hc
  refine Ok.enter Tryz.func152 rfl rfl rfl rfl fun W0 iEn => ?_
  refine J.seq <| J.reg rfl <| O.as rfl <| JO.nil <| J.seq <| J.seq <| J.reg rfl <| O.mv rfl <| O.len rfl <| O.mv rfl <| O.len rfl <| O.ne rfl rfl <| JO.nil <| J.condD rfl (fun h10 => ?_) (fun h10 => ?_)
  · skip
    refine J.seq <| J.reg rfl <| O.mv rfl <| O.len rfl <| O.mv rfl <| O.len rfl <| O.call rfl (cmp_Compare_int_ok _ _) fun W2 v2 i2 e2 h2 => ?_
    subst h2
    refine O.as rfl <| JO.nil <| J.ret1 rfl (.tmp rfl) fun W' iE iP => ?_
    congr 1
    have hne : (dig x).length ≠ (dig y).length := by omega
    rcases Nat.lt_or_gt_of_ne hne with hl | hl
    · have := lt_of_len hl
      rw [cmpI, cmpI, if_pos (by omega), if_pos (by omega)]
    · have := lt_of_len hl
      rw [cmpI, cmpI, if_neg (by omega), if_pos (by omega), if_neg (by omega), if_pos (by omega)]
  · skip
    refine J.skip <| J.seq <| J.seq <| J.reg rfl <| O.mv rfl <| O.len rfl <| O.sb rfl rfl (wI (by omega)) <| O.as rfl <| JO.nil <| J.block <| ?_
    refine J.loop (α := Nat) (fun k => [(0, .slice p m c), (1, .slice q m' c'), (5, .int .i64 ((k : Int) - 1))]) (fun k W' => Le W0 W' ∧ k ≤ m ∧ (dig x).drop k = (dig y).drop k) (fun k => k) m ⟨rfl, rfl, rfl, trivial⟩ ⟨inferInstance, Nat.le_refl _, by rw [List.drop_eq_nil_of_le (by omega), List.drop_eq_nil_of_le (by omega)]⟩ ?_
    rintro k W3 ⟨_, hk, hd⟩
    refine J.seq <| J.seq <| J.reg rfl <| O.mv rfl <| O.ge rfl rfl <| JO.nil <| J.condD rfl (fun h20 => ?_) (fun h20 => ?_)
    · skip
      obtain ⟨u, hu⟩ := xat (l := dig x) (k := k - 1) (by omega)
      obtain ⟨v, hv⟩ := xat (l := dig y) (k := k - 1) (by omega)
      obtain ⟨b1, o1, rfl, hj1, hw1⟩ := h.word hu
      obtain ⟨b2, o2, rfl, hj2, hw2⟩ := h'.word hv
      refine J.skip <| J.seq <| J.block <| J.seq <| ?_
      refine J.draw [.ex _, .ex _, .ex _, .ex _, .ex _, .ex _, .ex _, .ex _, .ex _] rfl rfl ⟨fun W1 i1 e1 _ => O.mv rfl <| D.ex, fun W1 i1 e1 _ => O.mv rfl <| D.ex, fun W1 i1 e1 _ => O.ia (j := k - 1) rfl rfl (by omega) hj1 <| D.ex, fun W1 i1 e1 _ => O.ldC rfl (hw1 _ Lf.s) <| D.ex, fun W1 i1 e1 _ => O.mv rfl <| D.ex, fun W1 i1 e1 _ => O.mv rfl <| D.ex, fun W1 i1 e1 _ => O.ia (j := k - 1) rfl rfl (by omega) hj2 <| D.ex, fun W1 i1 e1 _ => O.ldC rfl (hw2 _ Lf.s) <| D.ex, fun W1 i1 e1 _ => O.ne rfl rfl <| D.ex, trivial⟩ ?_
      intro W1 i1 e1
      refine JO.nil <| J.condD rfl (fun h31 => ?_) (fun h31 => ?_)
      · skip
        refine J.seq <| ?_
        refine J.draw [.ex _, .ex _, .ex _, .ex _, .ex _, .ex _, .ex _, .ex _] rfl rfl ⟨fun W1 i1 e1 _ => O.mv rfl <| D.ex, fun W1 i1 e1 _ => O.mv rfl <| D.ex, fun W1 i1 e1 _ => O.ia (j := k - 1) rfl rfl (by omega) hj1 <| D.ex, fun W1 i1 e1 _ => O.ldC rfl (hw1 _ Lf.s) <| D.ex, fun W1 i1 e1 _ => O.mv rfl <| D.ex, fun W1 i1 e1 _ => O.mv rfl <| D.ex, fun W1 i1 e1 _ => O.ia (j := k - 1) rfl rfl (by omega) hj2 <| D.ex, fun W1 i1 e1 _ => O.ldC rfl (hw2 _ Lf.s) <| D.ex, trivial⟩ ?_
        intro W1 i1 e1
        refine O.call rfl (cmp_Compare_u32_ok _ _) fun W5 v5 i5 e5 h5 => ?_
        subst h5
        refine O.as rfl <| JO.nil <| J.ret1 rfl (.tmp rfl) fun W' iE iP => ?_
        congr 1
        have hne : u ≠ v := by omega
        have hd' : (dig x).drop (k - 1 + 1) = (dig y).drop (k - 1 + 1) := by rw [show k - 1 + 1 = k from by omega]; exact hd
        rcases Nat.lt_or_gt_of_ne hne with hl | hl
        · have := lt_top (words_dig x) (by omega) (by omega) hu hv hd' hl
          rw [val_dig, val_dig] at this
          rw [cmpI, cmpI, if_pos (by omega), if_pos (by omega)]
        · have := lt_top (words_dig y) (by omega) (by omega) hv hu hd'.symm hl
          rw [val_dig, val_dig] at this
          rw [cmpI, cmpI, if_neg (by omega), if_pos (by omega), if_neg (by omega), if_pos (by omega)]
      · skip
        refine J.skip <| J.bend <| J.reg rfl <| O.mv rfl <| O.sb rfl rfl (wI (by omega)) <| O.as rfl <| JO.nil <| ?_
        have huv : u = v := by omega
        have hd2 : (dig x).drop (k - 1) = (dig y).drop (k - 1) := by
          rw [List.drop_eq_getElem_cons (l := dig x) (i := k - 1) (by omega), List.drop_eq_getElem_cons (l := dig y) (i := k - 1) (by omega), show k - 1 + 1 = k from by omega, hd]
          rw [List.getElem?_eq_getElem (by omega)] at hu hv
          injection hu with hu
          injection hv with hv
          rw [hu, hv, huv]
        exact J.at' (k - 1) ⟨rfl, rfl, by rw [show ((k - 1 : Nat) : Int) = (k : Int) - 1 from by omega]; rfl, trivial⟩ ⟨⟨inferInstance, by omega, hd2⟩, by omega⟩
    · skip
      refine J.exit rfl <| J.seq <| J.reg rfl <| O.as rfl <| JO.nil <| J.ret1 rfl (.tmp rfl) fun W' iE iP => ?_
      have hk0 : k = 0 := by omega
      rw [hk0, List.drop_zero, List.drop_zero] at hd
      have hxy : x = y := by rw [← val_dig x, hd, val_dig]
      rw [hxy, cmpI, if_neg (by omega), if_neg (by omega)]
end
section
/-- An integer as it lies in memory: its sign, its words. -/
abbrev RI : Rep (Bool × List Nat) := RP RB (RSl RW)
theorem mkI {W : GW} {b : Bool} {p : Option Addr} {n c : Nat} {l : List Nat} (h : Sl RW W p n c l) : V RI W (.agg #[.bool b, .slice p n c]) (b, l) :=
  ⟨_, ⟨[.bool b], [.slice p n c], rfl, rfl, ⟨p, n, c, rfl, h⟩⟩, rfl⟩
theorem unI {W : GW} {v : Value} {i : Bool × List Nat} (h : V RI W v i) : ∃ p n c, v = .agg #[.bool i.1, .slice p n c] ∧ Sl RW W p n c i.2 := by
  obtain ⟨c1, c2, rfl, h1, p, n, c, h2, h3⟩ := h.pair
  obtain rfl : c1 = [.bool i.1] := h1
  subst h2
  exact ⟨p, n, c, rfl, h3⟩
/-- An integer in normal form. -/
def ci (z : Int) : Bool × List Nat := (decide (z < 0), dig z.natAbs)
def sg (neg : Bool) (n : Nat) : Int := if neg then -(n : Int) else (n : Int)
theorem ci_zero : ci 0 = (false, []) := by rw [ci]; exact congrArg _ dig_zero
theorem ci_sg {neg : Bool} {n : Nat} (h : n ≠ 0) : ci (sg neg n) = (neg, dig n) := by
  cases neg with
  | true => simp [ci, sg]; omega
  | false => simp [ci, sg]
theorem dig_len0 {n : Nat} : (dig n).length = 0 ↔ n = 0 := by
  exact List.length_eq_zero_iff.trans dig_eq_nil
theorem integer_signed_ok {W : GW} {p : Option Addr} {m c : Nat} {l : List Nat} (neg : Bool) (h : Sl RW W p m c l) :
    Ok Tryz.prog 125 [.bool neg, .slice p m c] W fun W' v => V RI W' v (ci (sg neg (val l))) := by
  refine Ok.enter Tryz.func125 rfl rfl rfl rfl fun W0 iEn => ?_
  refine J.seq <| J.reg rfl <| O.alloc fun W1 b1 i1 hl1 hc1 hb1 => JO.nil <| J.seq <| J.reg rfl <| O.mv rfl <| O.call rfl (integer_trim_ok h.to) fun W2 v2 i2 e2 h2 => ?_
  obtain ⟨p2, n2, c2, rfl, s2⟩ := h2.sl
  have hn2 := s2.hn
  have hz := @dig_len0 (val l)
  refine O.as rfl <| JO.nil <| J.seq <| J.seq <| J.reg rfl <| O.mv rfl <| O.len rfl <| O.eq rfl rfl <| JO.nil <| J.condD rfl (fun h9 => ?_) (fun h9 => ?_)
  · skip
    refine J.seq <| J.reg rfl <| O.bld0 <| O.st rfl rfl hl1.to rfl (by simp [oneC, Value.cells]) fun W3 i3 hc3 => JO.nil <| J.ret1 rfl (.cell rfl hc3 rfl) fun W' iE iP => ?_
    have h0 : val l = 0 := hz.1 (by omega)
    rw [h0, show ci (sg neg 0) = (false, []) from by cases neg <;> exact ci_zero]
    exact mkI (nil_sl _ _ _)
  · skip
    refine J.skip <| J.seq <| J.reg rfl <| O.mv rfl <| O.mv rfl <| O.bld rfl rfl rfl rfl <| O.st rfl rfl hl1.to rfl (by simp [oneC, Value.cells]) fun W3 i3 hc3 => JO.nil <| J.ret1 rfl (.cell rfl hc3 rfl) fun W' iE iP => ?_
    have h0 : val l ≠ 0 := fun h => by have := hz.2 h; omega
    rw [ci_sg h0]
    exact mkI s2.to
theorem dig2 {n : Nat} (h : n < 18446744073709551616) : dig (val [n % 4294967296, n / 4294967296]) = dig n := by
  congr 1
  simp only [val]
  omega
theorem integer_fromUint_ok {W : GW} {n : Nat} (hn : n < 18446744073709551616) :
    Ok Tryz.prog 126 [.int .u64 (n : Int)] W fun W' v => V (RSl RW) W' v (dig n) := by
  refine Ok.enter Tryz.func126 rfl rfl rfl rfl fun W0 iEn => ?_
  refine J.seq <| J.reg rfl <| O.as rfl <| JO.nil <| J.seq <| J.reg rfl <| O.mv rfl <| O.cv (r := ((n % 4294967296 : Nat) : Int)) rfl ((wWm _).trans (by omega)) <| O.mv rfl <| O.shr rfl rfl (by decide) (shr32 n) <| O.cv (r := ((n / 4294967296 : Nat) : Int)) rfl (wW (by omega)) <| O.bs (r := RW) [n % 4294967296, n / 4294967296] rfl ⟨rwv _ (by omega), rwv _ (by omega), trivial⟩ rfl rfl rfl (by decide) (.inr rfl) (by decide) fun W2 p2 i2 e2 s2 => O.call rfl (integer_trim_ok s2) fun W3 v3 i3 e3 h3 => O.as rfl <| JO.nil <| J.ret1 rfl (.tmp rfl) fun W' iE iP => ?_
  rw [← dig2 hn]
  exact h3.to
/-- slices.Clone of words -/
theorem clone_u32_ok {W : GW} {p : Option Addr} {m c : Nat} {l : List Nat} (h : Sl RW W p m c l) (hl : l.length ≤ 17592186044416) :
    Ok Tryz.prog 157 [.slice p m c] W fun W' v => V (RSl RW) W' v l := by
  have hn := h.hn
  refine Ok.enter Tryz.func157 rfl rfl rfl rfl fun W0 iEn => ?_
  refine J.seq <| J.reg rfl <| O.as rfl <| JO.nil <| J.seq <| J.seq <| J.reg rfl <| O.mv rfl <| O.eqnil rfl <| JO.nil <| J.cond rfl (fun h4 => ?_) (fun h4 => ?_)
  · skip
    refine J.seq <| J.reg rfl <| O.as rfl <| JO.nil <| J.ret1 rfl (.tmp rfl) fun W' iE iP => ?_
    have h0 : l = [] := by
      rcases h.at' with h | ⟨b, off, hp, _⟩
      · exact h
      · rw [hp] at h4; cases h4
    rw [h0]
    exact (nil_sl _ _ _).v
  · skip
    refine J.skip <| J.seq <| J.reg rfl <| O.bso (r := RW) [] (vs := []) rfl trivial rfl rfl rfl (by decide) (.inr rfl) (by decide) fun W2 b2 i2 e2 hb2 o2 => O.mv rfl <| O.app rfl rfl o2 h.to rfl rfl (by omega) (by omega) fun W3 p3 c3 i3 o3 => O.as rfl <| JO.nil <| J.ret1 rfl (.tmp rfl) fun W' iE iP => ?_
    have := (o3.pub iE iP).v
    simpa using this
theorem own_val_word {W : GW} {p : Option Addr} {m c : Nat} {l : List Nat} (h : Ows RW W p m c l) {j u : Nat} (hj : l[j]? = some u) : u < 4294967296 := ownw h u (List.mem_of_getElem? hj)
theorem get_lt {l : List Nat} {j u : Nat} (h : l[j]? = some u) : j < l.length := by
  by_cases hh : j < l.length
  · exact hh
  · rw [List.getElem?_eq_none (by omega)] at h; cases h
theorem integer_times_ok {W : GW} {p q : Option Addr} {m c m' c' x y : Nat} (h : Sl RW W p m c (dig x)) (h' : Sl RW W q m' c' (dig y)) (hx : (dig x).length ≤ 1099511627776) (hy : (dig y).length ≤ 1099511627776) :
    Ok Tryz.prog 154 [.slice p m c, .slice q m' c'] W fun W' v => V (RSl RW) W' v (dig (x * y)) := by
  have hn := h.hn
  have hn' := h'.hn
  have hzx := @dig_len0 x
  have hzy := @dig_len0 y
  refine Ok.enter Tryz.func154 rfl rfl rfl rfl fun W0 iEn => ?_
  refine J.seq <| J.reg rfl <| O.as rfl <| JO.nil <| J.seq <| J.seq <| J.reg rfl <| O.mv rfl <| O.len rfl <| O.eq rfl rfl <| O.mv rfl <| ?_
  by_cases hg14 : m = 0
  · skip
    refine O.set (t := 14) (.bool true) rfl (by simp only [Value.bool.injEq, decide_eq_true_eq, decide_eq_false_iff_not]; omega) <| O.gs rfl rfl rfl <| O.gs rfl rfl rfl <| O.gs rfl rfl rfl <| O.pickT rfl rfl <| JO.nil <| J.condT rfl <| J.seq <| J.reg rfl <| O.as rfl <| JO.nil <| J.ret1 rfl (.tmp rfl) fun W' iE iP => ?_
    have h0 : x = 0 := hzx.1 (by omega)
    rw [h0, Nat.zero_mul, dig_zero]
    exact (nil_sl _ _ _).v
  · skip
    refine O.set (t := 14) (.bool false) rfl (by simp only [Value.bool.injEq, decide_eq_true_eq, decide_eq_false_iff_not]; omega) <| O.gt rfl rfl <| O.mv rfl <| O.gt rfl rfl <| O.len rfl <| O.gt rfl rfl <| O.eq rfl rfl <| O.pickF rfl rfl <| JO.nil <| J.condD rfl (fun h18 => ?_) (fun h18 => ?_)
    · skip
      refine J.seq <| J.reg rfl <| O.as rfl <| JO.nil <| J.ret1 rfl (.tmp rfl) fun W' iE iP => ?_
      have h0 : y = 0 := hzy.1 (by omega)
      rw [h0, Nat.mul_zero, dig_zero]
      exact (nil_sl _ _ _).v
    · skip
      refine J.skip <| J.seq <| J.reg rfl <| O.mv rfl <| O.len rfl <| O.mv rfl <| O.len rfl <| O.add rfl rfl (wI (by omega)) <| O.mk (r := RW) (m := m + m') (c := m + m') 0 rfl rfl rfl rfl (by omega) (by omega) (by omega) rfl rfl (by decide) (fun _ => ⟨rfl, by decide⟩) fun W2 b2 i2 e2 hb2 ho0 => O.as rfl <| JO.nil <| J.seq <| J.seq <| J.reg rfl <| O.mv rfl <| O.len rfl <| O.mv rfl <| JO.nil <| J.block <| ?_
      refine J.loop (α := Nat × List Nat) (fun q' => [(1, .slice q m' c'), (5, .slice (some ⟨b2, 0, none⟩) (m + m') (m + m')), (25, .slice p m c), (26, .int .i64 (m : Int)), (27, .int .i64 (q'.1 : Int))]) (fun q' W' => Le W0 W' ∧ Ows RW W' (some ⟨b2, 0, none⟩) (m + m') (m + m') q'.2 ∧ q'.1 ≤ m ∧ val (q'.2.take (q'.1 + m')) = val ((dig x).take q'.1) * y) (fun q' => m - q'.1) (0, List.replicate (m + m') 0) ⟨rfl, rfl, rfl, rfl, rfl, trivial⟩ ⟨inferInstance, ho0, Nat.zero_le _, val_repl0 _ _⟩ ?_
      rintro ⟨i, lo0⟩ W3 ⟨_, ho1, hi, hval⟩
      dsimp only at *
      refine J.seq <| J.reg rfl <| O.lt rfl rfl <| JO.nil <| J.seq <| J.condD rfl (fun h28 => ?_) (fun h28 => ?_)
      · skip
        obtain ⟨u, hu⟩ := xat (l := dig x) (k := i) (by omega)
        have hub := words_dig x u (List.mem_of_getElem? hu)
        refine J.skip <| J.seq <| J.block <| J.seq <| J.reg rfl <| O.mv rfl <| O.ixW (j := i) rfl rfl rfl h.to hu fun a1 => O.as rfl <| O.as rfl <| JO.nil <| J.seq <| J.reg rfl <| O.as rfl <| JO.nil <| J.seq <| J.seq <| J.reg rfl <| O.mv rfl <| O.len rfl <| O.mv rfl <| JO.nil <| J.block <| ?_
        refine J.loop (α := Nat × List Nat × Nat) (fun q' => [(1, .slice q m' c'), (5, .slice (some ⟨b2, 0, none⟩) (m + m') (m + m')), (6, .int .i64 (i : Int)), (7, .int .u32 (u : Int)), (8, .int .u64 (q'.2.2 : Int)), (25, .slice p m c), (26, .int .i64 (m : Int)), (27, .int .i64 (i : Int)), (32, .slice q m' c'), (33, .int .i64 (m' : Int)), (34, .int .i64 (q'.1 : Int))]) (fun q' W' => Le W0 W' ∧ Ows RW W' (some ⟨b2, 0, none⟩) (m + m') (m + m') q'.2.1 ∧ q'.1 ≤ m' ∧ q'.2.2 < 4294967296 ∧ (∀ j, i + q'.1 ≤ j → q'.2.1[j]? = lo0[j]?) ∧ val (q'.2.1.take (i + q'.1)) + 4294967296 ^ (i + q'.1) * q'.2.2 = val (lo0.take (i + q'.1)) + 4294967296 ^ i * (u * val ((dig y).take q'.1))) (fun q' => m' - q'.1) (0, lo0, 0) ⟨rfl, rfl, rfl, rfl, rfl, rfl, rfl, rfl, rfl, rfl, rfl, trivial⟩ ⟨inferInstance, ho1, Nat.zero_le _, by show (0 : Nat) < 4294967296; decide, fun _ _ => rfl, rfl⟩ ?_
        rintro ⟨k, lo, cr⟩ W4 ⟨_, ho, hk, hcr, hrest, hval2⟩
        dsimp only at *
        have hln := ho.hn
        have hln0 := ho1.hn
        refine J.seq <| J.reg rfl <| O.lt rfl rfl <| JO.nil <| J.seq <| J.condD rfl (fun h35 => ?_) (fun h35 => ?_)
        · skip
          obtain ⟨v, hv⟩ := xat (l := dig y) (k := k) (by omega)
          have hvb := words_dig y v (List.mem_of_getElem? hv)
          obtain ⟨w, hw⟩ := xat (l := lo) (k := i + k) (by omega)
          have hwb := own_val_word ho hw
          have huv : u * v ≤ 4294967295 * 4294967295 := Nat.mul_le_mul (by omega) (by omega)
          refine J.skip <| J.seq <| J.block <| J.seq <| J.reg rfl <| O.mv rfl <| O.ixW (j := k) rfl rfl rfl h'.to hv fun a2 => O.as rfl <| O.as rfl <| JO.nil <| J.seq <| J.reg rfl <| O.mv rfl <| O.mv rfl <| O.cv rfl (wU (by omega)) <| O.mv rfl <| O.cv rfl (wU (by omega)) <| O.mul (r := ((u * v : Nat) : Int)) rfl rfl ((wU (by rw [← Int.natCast_mul]; omega)).trans (by rw [Int.natCast_mul])) <| O.mv rfl <| O.mv rfl <| O.mv rfl <| O.add rfl rfl (wI (by omega)) <| O.ixo (r := RW) (j := i + k) rfl rfl rfl ho hw rfl rfl (fun _ => rfl) fun a3 v3 h3 => ?_
          obtain rfl := h3.rw.1
          refine O.cv rfl (wU (by omega)) <| O.add (r := ((u * v + w : Nat) : Int)) rfl rfl ((wU (by omega)).trans (by omega)) <| O.add (r := ((cr + (u * v + w) : Nat) : Int)) rfl rfl ((wU (by omega)).trans (by omega)) <| O.as rfl <| JO.nil <| J.seq <| J.reg rfl <| O.mv rfl <| O.mv rfl <| O.mv rfl <| ?_
          obtain ⟨s, hs⟩ : ∃ s, s = cr + (u * v + w) := ⟨_, rfl⟩
          have hs2 : s < 18446744073709551616 := by omega
          rw [← hs]
          refine O.add rfl rfl (wI (by omega)) <| O.mv rfl <| O.cv (r := ((s % 4294967296 : Nat) : Int)) rfl ((wWm _).trans (by omega)) <| O.iaB (r := RW) (j := i + k) rfl rfl rfl ho (by omega) rfl <| O.sto (r := RW) (j := i + k) (u := s % 4294967296) rfl rfl ho (by omega) (rwv _ (by omega)) rfl (.inr rfl) fun W5 i5 o5 => JO.nil <| J.reg rfl <| O.mv rfl <| O.shr rfl rfl (by decide) (shr32 s) <| O.as rfl <| JO.nil <| J.bend <| J.reg rfl <| O.add rfl rfl (wI (by omega)) <| O.mv rfl <| JO.nil <| ?_
          have hfin : val ((lo.set (i + k) (s % 4294967296)).take (i + (k + 1))) + 4294967296 ^ (i + (k + 1)) * (s / 4294967296) = val (lo0.take (i + (k + 1))) + 4294967296 ^ i * (u * val ((dig y).take (k + 1))) := by
            have hw0 : lo0[i + k]? = some w := by rw [← hrest (i + k) (Nat.le_refl _)]; exact hw
            rw [← Nat.add_assoc, val_set (by omega), val_take_succ hw0, val_take_succ hv, Nat.pow_succ, Nat.mul_assoc, Nat.mul_add u, Nat.mul_add (4294967296 ^ i)]
            have e : 4294967296 ^ (i + k) * s = 4294967296 ^ (i + k) * (s % 4294967296) + 4294967296 ^ (i + k) * (4294967296 * (s / 4294967296)) := by rw [← Nat.mul_add]; congr 1; omega
            have e2 : 4294967296 ^ (i + k) * s = 4294967296 ^ (i + k) * cr + 4294967296 ^ i * (u * (4294967296 ^ k * v)) + 4294967296 ^ (i + k) * w := by
              rw [hs, Nat.mul_add, Nat.mul_add, Nat.pow_add]
              have : 4294967296 ^ i * 4294967296 ^ k * (u * v) = 4294967296 ^ i * (u * (4294967296 ^ k * v)) := by
                rw [Nat.mul_assoc, Nat.mul_left_comm (4294967296 ^ k) u v]
              omega
            omega
          exact J.at' (k + 1, lo.set (i + k) (s % 4294967296), s / 4294967296) ⟨rfl, rfl, rfl, rfl, rfl, rfl, rfl, rfl, rfl, rfl, rfl, trivial⟩ ⟨⟨inferInstance, o5, by show k + 1 ≤ m'; omega, by show s / 4294967296 < 4294967296; omega, fun j hj => by rw [List.getElem?_set_ne (by omega)]; exact hrest j (by omega), hfin⟩, by show m' - (k + 1) < m' - k; omega⟩
        · skip
          have hkm : k = m' := by omega
          obtain rfl := hkm
          refine J.exit rfl <| J.reg rfl <| O.mv rfl <| O.mv rfl <| O.mv rfl <| O.len rfl <| O.add rfl rfl (wI (by omega)) <| O.mv rfl <| O.cv (r := ((cr : Nat) : Int)) rfl (wW (by omega)) <| O.iaB (r := RW) (j := i + k) rfl rfl rfl ho (by omega) rfl <| O.sto (r := RW) (j := i + k) (u := cr) rfl rfl ho (by omega) (rwv _ (by omega)) rfl (.inr rfl) fun W5 i5 o5 => JO.nil <| J.bend <| J.reg rfl <| O.add rfl rfl (wI (by omega)) <| O.mv rfl <| JO.nil <| ?_
          have hfin : val ((lo.set (i + k) cr).take (i + 1 + k)) = val ((dig x).take (i + 1)) * y := by
            rw [show i + 1 + k = i + k + 1 from by omega, val_set (by omega), val_take_succ hu, hval2, hval, List.take_of_length_le (l := dig y) (i := k) (by omega), val_dig, Nat.add_mul, Nat.mul_assoc]
          exact J.at' (i + 1, lo.set (i + k) cr) ⟨rfl, rfl, rfl, rfl, rfl, trivial⟩ ⟨⟨inferInstance, o5, by show i + 1 ≤ m; omega, hfin⟩, by show m - (i + 1) < m - i; omega⟩
      · skip
        have him : i = m := by omega
        have hln0 := ho1.hn
        rw [him, List.take_of_length_le (by omega), List.take_of_length_le (by omega), val_dig] at hval
        refine J.exit rfl <| J.seq <| ?_
        refine J.pub ho1 fun W6 i6 s6 => ?_
        refine J.reg rfl <| O.mv rfl <| O.call rfl (integer_trim_ok s6) fun W7 v7 i7 e7 h7 => O.as rfl <| JO.nil <| J.ret1 rfl (.tmp rfl) fun W' iE iP => ?_
        rw [← hval]
        exact h7.to
end
section
theorem shl_lt {u n : Nat} (hu : u < 4294967296) (hn : n < 32) : u * 2 ^ n < 9223372036854775808 := by
  have h1 : 2 ^ n ≤ 2 ^ 31 := Nat.pow_le_pow_right (by decide) (by omega)
  have h2 : u * 2 ^ n ≤ 4294967295 * 2 ^ 31 := Nat.mul_le_mul (by omega) h1
  omega
/-- shiftLeft: the words of a times 2^n, one more. -/
theorem integer_shiftLeft_own {W : GW} {p : Option Addr} {m c n x : Nat} (h : Sl RW W p m c (dig x)) (hx : (dig x).length ≤ 1099511627776) (hn32 : n < 32) :
    Ok Tryz.prog 169 [.slice p m c, .int .i64 (n : Int)] W fun W' v => ∃ l, l.length = m + 1 ∧ val l = x * 2 ^ n ∧ OwnR RW W W' v l := by
  have hn := h.hn
  have hp := Nat.two_pow_pos n
  have hp32 : 2 ^ n ≤ 2147483648 := by have : 2 ^ n ≤ 2 ^ 31 := Nat.pow_le_pow_right (by decide) (by omega); omega
  refine Ok.enter Tryz.func169 rfl rfl rfl rfl fun W0 iEn => ?_
  refine J.seq <| J.reg rfl <| O.as rfl <| JO.nil <| J.seq <| J.reg rfl <| O.mv rfl <| O.len rfl <| O.add rfl rfl (wI (by omega)) <| O.mk (r := RW) (m := m + 1) (c := m + 1) 0 rfl rfl rfl rfl (by omega) (by omega) (by omega) rfl rfl (by decide) (fun _ => ⟨rfl, by decide⟩) fun W2 b2 i2 e2 hb2 ho0 => O.as rfl <| JO.nil <| J.seq <| J.seq <| J.reg rfl <| O.mv rfl <| O.len rfl <| O.mv rfl <| JO.nil <| J.block <| ?_
  refine J.loop (α := Nat × List Nat) (fun q => [(1, .int .i64 (n : Int)), (5, .slice (some ⟨b2, 0, none⟩) (m + 1) (m + 1)), (13, .slice p m c), (14, .int .i64 (m : Int)), (15, .int .i64 (q.1 : Int))]) (fun q W' => Le W0 W' ∧ Ows RW W' (some ⟨b2, 0, none⟩) (m + 1) (m + 1) q.2 ∧ q.1 ≤ m ∧ val (q.2.take (q.1 + 1)) = val ((dig x).take q.1) * 2 ^ n ∧ (∃ w, q.2[q.1]? = some w ∧ w < 2 ^ n)) (fun q => m - q.1) (0, List.replicate (m + 1) 0) ⟨rfl, rfl, rfl, rfl, rfl, trivial⟩ ⟨inferInstance, ho0, Nat.zero_le _, val_repl0 _ _, 0, by simp, hp⟩ ?_
  rintro ⟨i, lo⟩ W3 ⟨_, ho, hi, hval, w, hw, hwn⟩
  dsimp only at *
  have hln := ho.hn
  refine J.seq <| J.reg rfl <| O.lt rfl rfl <| JO.nil <| J.seq <| J.condD rfl (fun h16 => ?_) (fun h16 => ?_)
  · skip
    obtain ⟨u, hu⟩ := xat (l := dig x) (k := i) (by omega)
    have hub := words_dig x u (List.mem_of_getElem? hu)
    have hs1 := shl_lt hub hn32
    have hs2 := mul_mod_pow u n (by omega)
    refine J.skip <| J.seq <| J.block <| J.seq <| J.reg rfl <| O.mv rfl <| O.ixW (j := i) rfl rfl rfl h.to hu fun a1 => O.as rfl <| O.as rfl <| JO.nil <| J.seq <| J.reg rfl <| O.mv rfl <| O.cv rfl (wU (by omega)) <| O.mv rfl <| O.shl rfl rfl (by omega) (shl_eq (u := u) (n := n) (by omega) (by omega)) <| O.as rfl <| JO.nil <| J.seq <| ?_
    obtain ⟨s, hs⟩ : ∃ s, s = u * 2 ^ n := ⟨_, rfl⟩
    rw [← hs]
    rw [← hs] at hs1 hs2
    refine J.reg rfl <| O.mv rfl <| O.mv rfl <| O.ixo (r := RW) (j := i) rfl rfl rfl ho hw rfl rfl (fun _ => rfl) fun a3 v3 h3 => ?_
    obtain rfl := h3.rw.1
    have hor : w ||| s % 4294967296 = s % 4294967296 + w := by rw [Nat.or_comm, hs2]; exact or_add _ _ _ hwn
    have hlt : s % 4294967296 + w < 4294967296 := by
      rw [hs2]
      have h1 : u % 2 ^ (32 - n) + 1 ≤ 2 ^ (32 - n) := Nat.mod_lt _ (Nat.two_pow_pos _)
      have h2 := Nat.mul_le_mul_right (2 ^ n) h1
      rw [← Nat.pow_add, show 32 - n + n = 32 from by omega, Nat.succ_mul] at h2
      omega
    refine O.mv rfl <| O.cv (r := ((s % 4294967296 : Nat) : Int)) rfl ((wWm _).trans (by omega)) <| O.or (p := w) (q := s % 4294967296) (r := ((s % 4294967296 + w : Nat) : Int)) rfl rfl rfl rfl (by show _ < 4294967296; omega) (by show _ < 4294967296; omega) ((wW (by rw [hor]; omega)).trans (by rw [hor])) <| O.iaB (r := RW) (j := i) rfl rfl rfl ho (by omega) rfl <| O.sto (r := RW) (j := i) (u := s % 4294967296 + w) rfl rfl ho (by omega) (rwv _ hlt) rfl (.inr rfl) fun W4 i4 o4 => JO.nil <| J.reg rfl <| O.mv rfl <| O.mv rfl <| O.add rfl rfl (wI (by omega)) <| O.mv rfl <| O.shr rfl rfl (by decide) (shr32 s) <| O.cv (r := ((s / 4294967296 : Nat) : Int)) rfl (wW (by omega)) <| O.iaB (r := RW) (j := i + 1) rfl rfl rfl o4 (by omega) rfl <| O.sto (r := RW) (j := i + 1) (u := s / 4294967296) rfl rfl o4 (by omega) (rwv _ (by omega)) rfl (.inr rfl) fun W5 i5 o5 => JO.nil <| J.bend <| J.reg rfl <| O.add rfl rfl (wI (by omega)) <| O.mv rfl <| JO.nil <| ?_
    have hfin : val (((lo.set i (s % 4294967296 + w)).set (i + 1) (s / 4294967296)).take (i + 1 + 1)) = val ((dig x).take (i + 1)) * 2 ^ n := by
      rw [val_set (by rw [List.length_set]; omega), val_set (by omega), val_take_succ hu, Nat.add_mul, ← hval, val_take_succ hw, Nat.mul_assoc, ← hs, Nat.pow_succ, Nat.mul_add, Nat.mul_assoc]
      have e : 4294967296 ^ i * s = 4294967296 ^ i * (s % 4294967296) + 4294967296 ^ i * (4294967296 * (s / 4294967296)) := by rw [← Nat.mul_add]; congr 1; omega
      omega
    have hlt2 : s / 4294967296 < 2 ^ n := by
      rw [Nat.div_lt_iff_lt_mul (by decide), hs, Nat.mul_comm]
      exact Nat.mul_lt_mul_of_pos_left hub hp
    exact J.at' (i + 1, (lo.set i (s % 4294967296 + w)).set (i + 1) (s / 4294967296)) ⟨rfl, rfl, rfl, rfl, rfl, trivial⟩ ⟨⟨inferInstance, o5, by show i + 1 ≤ m; omega, hfin, s / 4294967296, by rw [List.getElem?_set_self (by rw [List.length_set]; omega)], hlt2⟩, by show m - (i + 1) < m - i; omega⟩
  · skip
    refine J.exit rfl <| J.seq <| J.reg rfl <| O.mv rfl <| O.as rfl <| JO.nil <| J.ret1o rfl (.tmp rfl) fun W' iE iO => ?_
    have him : i = m := by omega
    rw [him, List.take_of_length_le (by omega), List.take_of_length_le (by omega), val_dig] at hval
    have hW : W.size = W0.size := by rw [GW.size, GW.size, iEn.w]
    exact ⟨lo, by omega, hval, _, _, _, rfl, ho.out iE iO, fun a ha _ => by injection ha with ha; subst ha; rw [hW]; exact hb2⟩
theorem integer_shiftLeft_ok {W : GW} {p : Option Addr} {m c n x : Nat} (h : Sl RW W p m c (dig x)) (hx : (dig x).length ≤ 1099511627776) (hn32 : n < 32) :
    Ok Tryz.prog 169 [.slice p m c, .int .i64 (n : Int)] W fun W' v => ∃ l, l.length = m + 1 ∧ val l = x * 2 ^ n ∧ V (RSl RW) W' v l := by
  have h1 := integer_shiftLeft_own h hx hn32
  refine ⟨h1.1, h1.2.mono ?_⟩
  rintro e w' ⟨W', v, he, hw, hE, l, hl, hv, ho⟩
  have := Ok.own (P := Tryz.prog) (f := 0) (W := W) (r := RW) (xs := l) (vs := [])
  obtain ⟨W2, h2, h3, h4⟩ := own_pub hE ho
  exact ⟨W2, v, he, h2.trans hw, h3, l, hl, hv, h4⟩
theorem shr_digit {u v n : Nat} (hu : u < 4294967296) (hn : n < 32) : (u / 2 ^ n) ||| (v * 2 ^ (32 - n) % 4294967296) = u / 2 ^ n + (v % 2 ^ n) * 2 ^ (32 - n) ∧ u / 2 ^ n + (v % 2 ^ n) * 2 ^ (32 - n) < 4294967296 := by
  have h1 := mul_mod_pow v (32 - n) (by omega)
  rw [show 32 - (32 - n) = n from by omega] at h1
  have hd : u / 2 ^ n < 2 ^ (32 - n) := by
    rw [Nat.div_lt_iff_lt_mul (Nat.two_pow_pos n), ← Nat.pow_add, show 32 - n + n = 32 from by omega]
    exact hu
  rw [h1, Nat.or_comm, or_add _ _ _ hd, Nat.add_comm]
  refine ⟨rfl, ?_⟩
  have h2 : v % 2 ^ n + 1 ≤ 2 ^ n := Nat.mod_lt _ (Nat.two_pow_pos _)
  have h3 := Nat.mul_le_mul_right (2 ^ (32 - n)) h2
  rw [← Nat.pow_add, show n + (32 - n) = 32 from by omega, Nat.succ_mul] at h3
  omega
theorem shr_step {a b u v n m P : Nat} (hn : n < 32) (h : a * 2 ^ n + b = P + 4294967296 ^ m * (u % 2 ^ n)) :
    (a + 4294967296 ^ m * (u / 2 ^ n + (v % 2 ^ n) * 2 ^ (32 - n))) * 2 ^ n + b = P + 4294967296 ^ m * u + 4294967296 ^ (m + 1) * (v % 2 ^ n) := by
  have hB : 4294967296 ^ (m + 1) = 4294967296 ^ m * 4294967296 := Nat.pow_succ ..
  have e2 : v % 2 ^ n * 2 ^ (32 - n) * 2 ^ n = 4294967296 * (v % 2 ^ n) := by
    rw [Nat.mul_assoc, ← Nat.pow_add, show 32 - n + n = 32 from by omega, Nat.mul_comm]
  rw [Nat.add_mul, Nat.mul_assoc (4294967296 ^ m), Nat.add_mul (u / 2 ^ n), e2, hB, Nat.mul_assoc (4294967296 ^ m), Nat.mul_add (4294967296 ^ m)]
  have e : 4294967296 ^ m * u = 4294967296 ^ m * (u / 2 ^ n * 2 ^ n) + 4294967296 ^ m * (u % 2 ^ n) := by
    rw [← Nat.mul_add]; congr 1; rw [Nat.mul_comm (u / 2 ^ n)]; exact (Nat.div_add_mod ..).symm
  omega
/-- shiftRight: the words of a number divided by 2^n. -/
theorem integer_shiftRight_ok {W : GW} {p : Option Addr} {m c n : Nat} {l : List Nat} (h : Sl RW W p m c l) (hx : l.length ≤ 1099511627776) (hn32 : n < 32) :
    Ok Tryz.prog 172 [.slice p m c, .int .i64 (n : Int)] W fun W' v => ∃ l', val l' = val l / 2 ^ n ∧ V (RSl RW) W' v l' := by
  have hn := h.hn
  have hp := Nat.two_pow_pos n
  have hp32 : 2 ^ n ≤ 2147483648 := by have : 2 ^ n ≤ 2 ^ 31 := Nat.pow_le_pow_right (by decide) (by omega); omega
  refine Ok.enter Tryz.func172 rfl rfl rfl rfl fun W0 iEn => ?_
  refine J.seq <| J.reg rfl <| O.as rfl <| JO.nil <| J.seq <| J.reg rfl <| O.mv rfl <| O.len rfl <| O.mk (r := RW) (m := m) (c := m) 0 rfl rfl rfl rfl (by omega) (by omega) (by omega) rfl rfl (by decide) (fun _ => ⟨rfl, by decide⟩) fun W2 b2 i2 e2 hb2 ho0 => O.as rfl <| JO.nil <| J.seq <| J.seq <| J.reg rfl <| O.mv rfl <| O.len rfl <| O.mv rfl <| JO.nil <| J.block <| ?_
  refine J.loop (α := Nat × List Nat) (fun q => [(0, .slice p m c), (1, .int .i64 (n : Int)), (5, .slice (some ⟨b2, 0, none⟩) m m), (11, .slice p m c), (12, .int .i64 (m : Int)), (13, .int .i64 (q.1 : Int))]) (fun q W' => Le W0 W' ∧ Ows RW W' (some ⟨b2, 0, none⟩) m m q.2 ∧ q.1 ≤ m ∧ val (q.2.take q.1) * 2 ^ n + val l % 2 ^ n = val (l.take q.1) + 4294967296 ^ q.1 * (l.getD q.1 0 % 2 ^ n)) (fun q => m - q.1) (0, List.replicate m 0) ⟨rfl, rfl, rfl, rfl, rfl, rfl, trivial⟩ ⟨inferInstance, ho0, Nat.zero_le _, by simp [val, val_mod_pow l n (by omega)]⟩ ?_
  rintro ⟨i, lo⟩ W3 ⟨_, ho, hi, hval⟩
  dsimp only at *
  have hln := ho.hn
  refine J.seq <| J.reg rfl <| O.lt rfl rfl <| JO.nil <| J.seq <| J.condD rfl (fun h14 => ?_) (fun h14 => ?_)
  · skip
    obtain ⟨u, hu⟩ := xat (l := l) (k := i) (by omega)
    have hub := slw h u (List.mem_of_getElem? hu)
    have hdu : u / 2 ^ n < 4294967296 := Nat.lt_of_le_of_lt (Nat.div_le_self ..) hub
    have hgu : l.getD i 0 = u := by rw [List.getD_eq_getElem?_getD, hu]; rfl
    rw [hgu] at hval
    refine J.skip <| J.seq <| J.block <| J.seq <| J.reg rfl <| O.mv rfl <| O.ixW (j := i) rfl rfl rfl h.to hu fun a1 => O.as rfl <| O.as rfl <| JO.nil <| J.seq <| J.reg rfl <| O.mv rfl <| O.mv rfl <| O.mv rfl <| O.mv rfl <| O.shr rfl rfl (by omega) (shr32_eq u n (by omega)) <| O.iaB (r := RW) (j := i) rfl rfl rfl ho (by omega) rfl <| O.sto (r := RW) (j := i) (u := u / 2 ^ n) rfl rfl ho (by omega) (rwv _ hdu) rfl (.inr rfl) fun W4 i4 o4 => JO.nil <| J.seq <| J.reg rfl <| O.mv rfl <| O.add rfl rfl (wI (by omega)) <| O.mv rfl <| O.len rfl <| O.lt rfl rfl <| JO.nil <| ?_
    refine J.cut (α := List Nat) (fun _ => [(0, .slice p m c), (1, .int .i64 (n : Int)), (5, .slice (some ⟨b2, 0, none⟩) m m), (11, .slice p m c), (12, .int .i64 (m : Int)), (13, .int .i64 (i : Int))]) (fun lo' W' => Le W0 W' ∧ Ows RW W' (some ⟨b2, 0, none⟩) m m lo' ∧ ∃ v, l.getD (i + 1) 0 = v ∧ lo' = lo.set i (u / 2 ^ n + (v % 2 ^ n) * 2 ^ (32 - n))) ?_ ?_
    · skip
      refine J.condD rfl (fun h28 => ?_) (fun h28 => ?_)
      · skip
        obtain ⟨v, hv⟩ := xat (l := l) (k := i + 1) (by omega)
        have hvb := slw h v (List.mem_of_getElem? hv)
        obtain ⟨b3, o3, rfl, hj3, hw3⟩ := h.word hv
        have hsd := shr_digit (v := v) hub hn32
        have hv64 : v * 2 ^ (32 - n) < 18446744073709551616 := by
          have h1 : 2 ^ (32 - n) ≤ 2 ^ 32 := Nat.pow_le_pow_right (by decide) (by omega)
          have h2 : v * 2 ^ (32 - n) ≤ 4294967295 * 2 ^ 32 := Nat.mul_le_mul (by omega) h1
          omega
        obtain ⟨s, hs⟩ : ∃ s, s = v * 2 ^ (32 - n) := ⟨_, rfl⟩
        have hget : (lo.set i (u / 2 ^ n))[i]? = some (u / 2 ^ n) := List.getElem?_set_self (by omega)
        have hshl := shl_eq (u := v) (n := 32 - n) hv64 (by omega)
        rw [← hs] at hsd hv64 hshl
        rw [show ((32 - n : Nat) : Int) = 32 - (n : Int) from by omega] at hshl
        obtain ⟨ob, hob⟩ := o4.word hget
        refine J.sub [(0, _), (1, _), (5, _), (6, _), (11, _), (12, _), (13, _)] ⟨rfl, rfl, rfl, rfl, rfl, rfl, rfl, trivial⟩ ?_
        refine J.draw [.ex _, .ex _, .ex _, .ex _, .ex _, .ex _, .ex _, .ex _, .ex _, .ex _, .ex _, .ex _, .ex _, .ex _, .ex _] rfl rfl ⟨fun W1 i1 e1 _ => O.mv rfl <| D.ex, fun W1 i1 e1 _ => O.mv rfl <| D.ex, fun W1 i1 e1 _ => O.ia (j := i) rfl rfl rfl (by omega) <| D.ex, fun W1 i1 e1 _ => O.ldC rfl (hob _ i1 e1) <| D.ex, fun W1 i1 e1 _ => O.mv rfl <| D.ex, fun W1 i1 e1 _ => O.mv rfl <| D.ex, fun W1 i1 e1 _ => O.add rfl rfl (wI (by omega)) <| D.ex, fun W1 i1 e1 _ => O.ia (j := i + 1) rfl rfl rfl hj3 <| D.ex, fun W1 i1 e1 _ => O.ldC rfl (hw3 _ Lf.s) <| D.ex, fun W1 i1 e1 _ => O.cv rfl (wU (by omega)) <| D.ex, fun W1 i1 e1 _ => O.mv rfl <| D.ex, fun W1 i1 e1 _ => O.sb rfl rfl (wI (by omega)) <| D.ex, fun W1 i1 e1 _ => O.shl rfl rfl (by omega) hshl <| D.ex, fun W1 i1 e1 _ => O.cv (r := ((s % 4294967296 : Nat) : Int)) rfl ((wWm _).trans (by omega)) <| D.ex, fun W1 i1 e1 _ => O.or (p := u / 2 ^ n) (q := s % 4294967296) (r := ((u / 2 ^ n + (v % 2 ^ n) * 2 ^ (32 - n) : Nat) : Int)) rfl rfl rfl rfl (by show _ < 4294967296; omega) (by show _ < 4294967296; omega) ((wW (by rw [hsd.1]; omega)).trans (by rw [hsd.1])) <| D.ex, trivial⟩ ?_
        intro W1 i1 e1
        refine O.iaB (r := RW) (j := i) rfl rfl rfl (o4.ext e1) (by omega) rfl <| O.sto (r := RW) (j := i) (u := u / 2 ^ n + (v % 2 ^ n) * 2 ^ (32 - n)) rfl rfl (o4.ext e1) (by omega) (rwv _ hsd.2) rfl (.inr rfl) fun W5 i5 o5 => JO.nil <| ?_
        exact J.at' (lo.set i (u / 2 ^ n + (v % 2 ^ n) * 2 ^ (32 - n))) ⟨rfl, rfl, rfl, rfl, rfl, rfl, trivial⟩ ⟨inferInstance, by rw [List.set_set] at o5; exact o5, v, by rw [List.getD_eq_getElem?_getD, hv]; rfl, rfl⟩
      · skip
        refine J.skip <| ?_
        exact J.at' (lo.set i (u / 2 ^ n)) ⟨rfl, rfl, rfl, rfl, rfl, rfl, trivial⟩ ⟨inferInstance, o4, 0, by rw [List.getD_eq_getElem?_getD, List.getElem?_eq_none (by omega)]; rfl, by simp⟩
    · skip
      rintro lo' W6 ⟨_, o6, v, hv, rfl⟩
      refine J.bend <| J.reg rfl <| O.add rfl rfl (wI (by omega)) <| O.mv rfl <| JO.nil <| ?_
      have hfin : val ((lo.set i (u / 2 ^ n + (v % 2 ^ n) * 2 ^ (32 - n))).take (i + 1)) * 2 ^ n + val l % 2 ^ n = val (l.take (i + 1)) + 4294967296 ^ (i + 1) * (l.getD (i + 1) 0 % 2 ^ n) := by
        rw [val_set (by omega), val_take_succ hu, hv]
        exact shr_step hn32 hval
      exact J.at' (i + 1, lo.set i (u / 2 ^ n + (v % 2 ^ n) * 2 ^ (32 - n))) ⟨rfl, rfl, rfl, rfl, rfl, rfl, trivial⟩ ⟨⟨inferInstance, o6, by show i + 1 ≤ m; omega, hfin⟩, by show m - (i + 1) < m - i; omega⟩
  · skip
    refine J.exit rfl <| J.seq <| J.reg rfl <| O.mv rfl <| O.as rfl <| JO.nil <| J.ret1 rfl (.tmp rfl) fun W' iE iP => ?_
    have him : i = m := by omega
    rw [him, List.take_of_length_le (by omega), List.take_of_length_le (by omega), List.getD_eq_getElem?_getD, List.getElem?_eq_none (by omega)] at hval
    refine ⟨lo, ?_, (ho.pub iE iP).v⟩
    simp at hval
    have := Nat.div_add_mod (val l) (2 ^ n)
    rw [Nat.mul_comm] at this
    exact Nat.eq_of_mul_eq_mul_right hp (by omega)
end
section
/-- divideWord -/
theorem integer_divideWord_ok {W : GW} {p : Option Addr} {m c x y : Nat} (h : Sl RW W p m c (dig x)) (hx : (dig x).length ≤ 1099511627776) (hy : y < 4294967296) (hy0 : y ≠ 0) :
    Ok Tryz.prog 167 [.slice p m c, .int .u32 (y : Int)] W fun W' v => ∃ v1 v2, v = .tuple #[v1, v2] ∧ V (RSl RW) W' v1 (dig (x / y)) ∧ V (RSl RW) W' v2 (dig (x % y)) := by
  have hn := h.hn
  refine Ok.enter Tryz.func167 rfl rfl rfl rfl fun W0 iEn => ?_
  refine J.seq <| J.reg rfl <| O.as rfl <| O.as rfl <| JO.nil <| J.seq <| J.reg rfl <| O.mv rfl <| O.len rfl <| O.mk (r := RW) (m := m) (c := m) 0 rfl rfl rfl rfl (by omega) (by omega) (by omega) rfl rfl (by decide) (fun _ => ⟨rfl, by decide⟩) fun W2 b2 i2 e2 hb2 ho0 => O.as rfl <| JO.nil <| J.seq <| J.reg rfl <| O.as rfl <| JO.nil <| J.seq <| J.seq <| J.reg rfl <| O.mv rfl <| O.len rfl <| O.sb rfl rfl (wI (by omega)) <| O.as rfl <| JO.nil <| J.block <| ?_
  refine J.loop (α := Nat × List Nat × Nat) (fun q => [(0, .slice p m c), (1, .int .u32 (y : Int)), (6, .slice (some ⟨b2, 0, none⟩) m m), (7, .int .u64 (q.2.2 : Int)), (8, .int .i64 ((q.1 : Int) - 1))]) (fun q W' => Le W0 W' ∧ Ows RW W' (some ⟨b2, 0, none⟩) m m q.2.1 ∧ q.1 ≤ m ∧ q.2.2 < y ∧ val (q.2.1.drop q.1) * y + q.2.2 = val ((dig x).drop q.1)) (fun q => q.1) (m, List.replicate m 0, 0) ⟨rfl, rfl, rfl, rfl, rfl, trivial⟩ ⟨inferInstance, ho0, Nat.le_refl _, by show 0 < y; omega, by dsimp only; rw [List.drop_eq_nil_of_le (by simp), List.drop_eq_nil_of_le (by omega)]; simp [val]⟩ ?_
  rintro ⟨k, lo, r⟩ W3 ⟨_, ho, hk, hr, hval⟩
  dsimp only at *
  have hln := ho.hn
  refine J.seq <| J.seq <| J.reg rfl <| O.mv rfl <| O.ge rfl rfl <| JO.nil <| J.condD rfl (fun h16 => ?_) (fun h16 => ?_)
  · skip
    obtain ⟨u, hu⟩ := xat (l := dig x) (k := k - 1) (by omega)
    have hub := words_dig x u (List.mem_of_getElem? hu)
    refine J.skip <| J.seq <| J.block <| J.seq <| J.reg rfl <| O.mv rfl <| O.shl (r := ((r * 2 ^ 32 : Nat) : Int)) rfl rfl (by decide) (shl_eq (u := r) (n := 32) (by omega) (by omega)) <| O.mv rfl <| O.mv rfl <| O.ixW (j := k - 1) rfl rfl (by omega) h.to hu fun a1 => O.cv rfl (wU (by omega)) <| O.or (p := r * 2 ^ 32) (q := u) (r := ((r * 2 ^ 32 + u : Nat) : Int)) rfl rfl rfl rfl (by show _ < 18446744073709551616; omega) (by show _ < 18446744073709551616; omega) (by rw [or_add u r 32 (by omega)]; exact wU (by omega)) <| O.as rfl <| JO.nil <| J.seq <| ?_
    obtain ⟨s, hs⟩ : ∃ s, s = r * 2 ^ 32 + u := ⟨_, rfl⟩
    rw [← hs]
    have hsy : s / y < 4294967296 := by
      rw [Nat.div_lt_iff_lt_mul (by omega)]
      have := Nat.mul_le_mul_right 4294967296 (show r + 1 ≤ y by omega)
      omega
    have hsm : s % y < y := Nat.mod_lt _ (by omega)
    refine J.reg rfl <| O.mv rfl <| O.mv rfl <| O.mv rfl <| O.mv rfl <| O.cv rfl (wU (by omega)) <| O.quo (r := ((s / y : Nat) : Int)) rfl rfl (by omega) (tquo s y (by omega)) <| O.cv (r := ((s / y : Nat) : Int)) rfl (wW ⟨Int.natCast_nonneg _, Int.ofNat_lt.2 hsy⟩) <| O.iaB (r := RW) (j := k - 1) rfl rfl (by omega) ho (by omega) rfl <| O.sto (r := RW) (j := k - 1) (u := s / y) rfl rfl ho (by omega) (rwv _ hsy) rfl (.inr rfl) fun W5 i5 o5 => JO.nil <| J.reg rfl <| O.mv rfl <| O.mv rfl <| O.cv rfl (wU (by omega)) <| O.rem (r := ((s % y : Nat) : Int)) rfl rfl (by omega) (trem s y) <| O.as rfl <| JO.nil <| J.bend <| J.reg rfl <| O.mv rfl <| O.sb rfl rfl (wI (by omega)) <| O.as rfl <| JO.nil <| ?_
    have hfin : val ((lo.set (k - 1) (s / y)).drop (k - 1)) * y + s % y = val ((dig x).drop (k - 1)) := by
      rw [val_drop hu, show k - 1 + 1 = k from by omega, ← hval, drop_set (by omega), val, show k - 1 + 1 = k from by omega]
      have e := Nat.div_add_mod s y
      rw [Nat.mul_comm] at e
      rw [Nat.add_mul, Nat.mul_add, Nat.mul_assoc]
      omega
    exact J.at' (k - 1, lo.set (k - 1) (s / y), s % y) ⟨rfl, rfl, rfl, rfl, by rw [show ((k - 1 : Nat) : Int) = (k : Int) - 1 from by omega]; rfl, trivial⟩ ⟨⟨inferInstance, o5, by show k - 1 ≤ m; omega, hsm, hfin⟩, by show k - 1 < k; omega⟩
  · skip
    have hk0 : k = 0 := by omega
    subst hk0
    rw [List.drop_zero, List.drop_zero, val_dig] at hval
    have hq : x / y = val lo := by
      rw [← hval, Nat.mul_comm, Nat.mul_add_div (by omega), Nat.div_eq_of_lt hr, Nat.add_zero]
    have hm : x % y = r := by
      rw [← hval, Nat.mul_comm, Nat.mul_add_mod, Nat.mod_eq_of_lt hr]
    rw [hq, hm]
    refine J.exit rfl <| J.seq <| ?_
    refine J.pub ho fun W6 i6 s6 => ?_
    refine J.reg rfl <| O.mv rfl <| O.call rfl (integer_trim_ok s6) fun W7 v7 i7 e7 h7 => O.mv rfl <| O.call rfl (integer_fromUint_ok (n := r) (by omega)) fun W8 v8 i8 e8 h8 => O.as rfl <| O.as rfl <| JO.nil <| J.ret2 rfl (.tmp rfl) (.tmp rfl) fun W' iE iP => ?_
    exact ⟨_, _, rfl, h7.to, h8.to⟩
theorem math_bits_Len32_ok {W : GW} {x : Nat} (hx : x < 4294967296) : Ok Tryz.prog 174 [.int .u32 (x : Int)] W fun _ v => v = .int .i64 (bl x : Int) := by
  refine Ok.enter Tryz.func174 rfl rfl rfl rfl fun W0 iEn => ?_
  refine J.seq <| J.reg rfl <| O.as rfl <| JO.nil <| J.seq <| J.seq <| J.reg rfl <| O.mv rfl <| O.ge rfl rfl <| JO.nil <| ?_
  refine J.cut (α := Nat × Nat) (fun q => [(0, .int .u32 (q.1 : Int)), (2, .int .i64 (q.2 : Int))]) (fun q W => W = W0 ∧ q.1 < 65536 ∧ bl x = bl q.1 + q.2 ∧ q.2 ≤ 16) ?_ ?_
  · skip
    refine J.condD rfl (fun h4 => ?_) (fun h4 => ?_)
    · skip
      refine J.seq <| J.reg rfl <| O.mv rfl <| O.shr rfl rfl (by decide) (shr32_eq x 16 (by decide)) <| O.as rfl <| JO.nil <| J.reg rfl <| O.as rfl <| JO.nil <| ?_
      exact J.at' (x / 2 ^ 16, 16) ⟨rfl, rfl, trivial⟩ ⟨rfl, by show x / 2 ^ 16 < 65536; omega, bl_shift (by omega), Nat.le_refl _⟩
    · skip
      refine J.skip <| ?_
      exact J.at' (x, 0) ⟨rfl, rfl, trivial⟩ ⟨rfl, by show x < 65536; omega, rfl, by show 0 ≤ 16; omega⟩
  · skip
    rintro ⟨x1, n1⟩ W1 ⟨rfl, hx1, hb1, hn1⟩
    dsimp only at *
    refine J.seq <| J.seq <| J.reg rfl <| O.mv rfl <| O.ge rfl rfl <| JO.nil <| ?_
    refine J.cut (α := Nat × Nat) (fun q => [(0, .int .u32 (q.1 : Int)), (2, .int .i64 (q.2 : Int))]) (fun q W => W = W1 ∧ q.1 < 256 ∧ bl x = bl q.1 + q.2 ∧ q.2 ≤ 24) ?_ ?_
    · skip
      refine J.condD rfl (fun h8 => ?_) (fun h8 => ?_)
      · skip
        refine J.seq <| J.reg rfl <| O.mv rfl <| O.shr rfl rfl (by decide) (shr32_eq x1 8 (by decide)) <| O.as rfl <| JO.nil <| J.reg rfl <| O.mv rfl <| O.add rfl rfl (wI (by omega)) <| O.as rfl <| JO.nil <| ?_
        exact J.at' (x1 / 2 ^ 8, n1 + 8) ⟨rfl, rfl, trivial⟩ ⟨rfl, by show x1 / 2 ^ 8 < 256; omega, by dsimp only; rw [hb1, bl_shift (n := x1) (k := 8) (by omega)]; omega, by show n1 + 8 ≤ 24; omega⟩
      · skip
        refine J.skip <| ?_
        exact J.at' (x1, n1) ⟨rfl, rfl, trivial⟩ ⟨rfl, by show x1 < 256; omega, hb1, by show n1 ≤ 24; omega⟩
    · skip
      rintro ⟨x2, n2⟩ W2 ⟨rfl, hx2, hb2, hn2⟩
      dsimp only at *
      have hbl : bl x2 < 256 := Nat.lt_of_lt_of_le (fin256 (p := fun j => bl j < 10) (by decide +kernel) x2 hx2) (by decide)
      refine J.seq <| J.reg rfl <| O.mv rfl <| O.mv rfl <| O.cv (r := (x2 : Int)) rfl (wB (by omega)) <| O.idx (b := UInt8.ofNat (bl x2)) rfl rfl rfl (by revert hx2; generalize x2 = j; revert j; decide +kernel) <| O.cv (r := (bl x2 : Int)) rfl ((wI ⟨by omega, by rw [u8nat hbl]; omega⟩).trans (u8nat hbl)) <| O.add (r := (bl x : Int)) rfl rfl ((wI (by omega)).trans (by omega)) <| O.as rfl <| JO.nil <| J.ret1 rfl (.tmp rfl) fun W' iE iP => ?_
      rfl
theorem math_bits_LeadingZeros32_ok {W : GW} {x : Nat} (hx : x < 4294967296) (h0 : x ≠ 0) : Ok Tryz.prog 168 [.int .u32 (x : Int)] W fun _ v => ∃ n : Nat, v = .int .i64 (n : Int) ∧ n < 32 ∧ 2147483648 ≤ x * 2 ^ n ∧ x * 2 ^ n < 4294967296 := by
  obtain ⟨b1, b2, b3⟩ := bl_bounds h0
  have hb32 : bl x ≤ 32 := by
    have : 2 ^ (bl x - 1) < 2 ^ 32 := Nat.lt_of_le_of_lt b1 hx
    have := (Nat.pow_lt_pow_iff_right (by decide : 1 < 2)).1 this
    omega
  refine Ok.enter Tryz.func168 rfl rfl rfl rfl fun W0 iEn => ?_
  refine J.seq <| J.reg rfl <| O.as rfl <| JO.nil <| J.seq <| J.reg rfl <| O.mv rfl <| O.call rfl (math_bits_Len32_ok hx) fun W2 v2 i2 e2 h2 => ?_
  subst h2
  refine O.sb (r := ((32 - bl x : Nat) : Int)) rfl rfl ((wI (by omega)).trans (by omega)) <| O.as rfl <| JO.nil <| J.ret1 rfl (.tmp rfl) fun W' iE iP => ?_
  refine ⟨32 - bl x, rfl, by omega, ?_, ?_⟩
  · have h1 := Nat.mul_le_mul_right (2 ^ (32 - bl x)) b1
    rw [← Nat.pow_add, show bl x - 1 + (32 - bl x) = 31 from by omega] at h1
    exact h1
  · have h1 := Nat.mul_lt_mul_of_pos_right b2 (Nat.two_pow_pos (32 - bl x))
    rw [← Nat.pow_add, show bl x + (32 - bl x) = 32 from by omega] at h1
    exact h1
end
section
theorem mulB {a b : Nat} (ha : a < 4294967296) (hb : b < 4294967296) : a * b ≤ 18446744065119617025 := by
  have := Nat.mul_le_mul (show a ≤ 4294967295 by omega) (show b ≤ 4294967295 by omega)
  omega
/-- subtract -/
theorem integer_subtract_ok {W : GW} {b q m c c2 k y d cv : Nat} {pv : Option Addr} {l : List Nat} (h : Ows RW W (some ⟨b, 0, none⟩) m c l) (hq : q + (k + 1) ≤ m) (hv : Sl RW W pv k cv (dig y)) (hd : d < 4294967296) (hk40 : k ≤ 1099511627776) :
    OkK Tryz.prog 170 [.slice (some ⟨b, q, none⟩) (k + 1) c2, .slice pv k cv, .int .u64 (d : Int)] W fun W' v => ∃ (neg : Bool) (l' : List Nat), v = .bool neg ∧ OnlyB b W W' ∧ Ows RW W' (some ⟨b, 0, none⟩) m c l' ∧
      (∀ j, (j < q ∨ q + (k + 1) ≤ j) → l'[j]? = l[j]?) ∧ val ((l'.drop q).take (k + 1)) + y * d = val ((l.drop q).take (k + 1)) + 4294967296 ^ (k + 1) * (if neg = true then 1 else 0) := by
  have hvn := hv.hn
  refine OkK.enter Tryz.func170 rfl rfl rfl rfl ?_
  refine J.seq <| J.reg rfl <| O.as rfl <| JO.nil <| J.seq <| J.reg rfl <| O.as rfl <| JO.nil <| J.seq <| J.seq <| J.reg rfl <| O.mv rfl <| O.len rfl <| O.mv rfl <| JO.nil <| J.block <| ?_
  refine J.loop (α := Nat × List Nat × Nat) (fun s => [(0, .slice (some ⟨b, q, none⟩) (k + 1) c2), (1, .slice pv k cv), (2, .int .u64 (d : Int)), (7, .int .u64 (s.2.2 : Int)), (13, .slice pv k cv), (14, .int .i64 (k : Int)), (15, .int .i64 (s.1 : Int))]) (fun s W' => Lk W W' ∧ OnlyB b W W' ∧ Ows RW W' (some ⟨b, 0, none⟩) m c s.2.1 ∧ s.1 ≤ k ∧ s.2.2 < 4294967296 ∧ (∀ j, (j < q ∨ q + s.1 ≤ j) → s.2.1[j]? = l[j]?) ∧ val ((s.2.1.drop q).take s.1) + val ((dig y).take s.1) * d = val ((l.drop q).take s.1) + 4294967296 ^ s.1 * s.2.2) (fun s => k - s.1) (0, l, 0) ⟨rfl, rfl, rfl, rfl, rfl, rfl, rfl, trivial⟩ ⟨inferInstance, OnlyB.refl _ _, h, Nat.zero_le _, by show (0 : Nat) < 4294967296; decide, fun _ _ => rfl, by simp [val]⟩ ?_
  rintro ⟨i, lo, br⟩ W3 ⟨iL, hof, ho, hi, hbr, hrest, hval⟩
  dsimp only at *
  have hln := ho.hn
  refine J.seq <| J.reg rfl <| O.lt rfl rfl <| JO.nil <| J.seq <| J.condD rfl (fun h16 => ?_) (fun h16 => ?_)
  · skip
    obtain ⟨w, hw⟩ := xat (l := dig y) (k := i) (by omega)
    have hwb := words_dig y w (List.mem_of_getElem? hw)
    obtain ⟨u, hu⟩ := xat (l := lo) (k := q + i) (by omega)
    have hub := own_val_word ho hu
    have hwd := mulB hwb hd
    refine J.skip <| J.seq <| J.block <| J.seq <| J.reg rfl <| O.mv rfl <| O.ixW (j := i) rfl rfl rfl hv.to hw fun a1 => O.as rfl <| O.as rfl <| JO.nil <| J.seq <| J.reg rfl <| O.mv rfl <| O.cv rfl (wU (by omega)) <| O.mv rfl <| O.mul (r := ((w * d : Nat) : Int)) rfl rfl ((wU (by rw [← Int.natCast_mul]; omega)).trans (by rw [Int.natCast_mul])) <| O.mv rfl <| O.add (r := ((w * d + br : Nat) : Int)) rfl rfl ((wU (by omega)).trans (by omega)) <| O.as rfl <| JO.nil <| J.seq <| ?_
    obtain ⟨s, hs⟩ : ∃ s, s = w * d + br := ⟨_, rfl⟩
    rw [← hs]
    refine J.reg rfl <| O.mv rfl <| O.mv rfl <| O.iaQ (q := q) (j := i) rfl rfl rfl (by omega) <| O.ldQ rfl ho hu <| O.cv rfl (wU (by omega)) <| O.mv rfl <| O.cv (r := ((s % 4294967296 : Nat) : Int)) rfl ((wWm _).trans (by omega)) <| O.cv (r := ((s % 4294967296 : Nat) : Int)) rfl (wU (by omega)) <| O.sb (r := (((u + 18446744073709551616 - s % 4294967296) % 18446744073709551616 : Nat) : Int)) rfl rfl ((wUm _).trans (by omega)) <| O.as rfl <| JO.nil <| J.seq <| ?_
    obtain ⟨t, ht⟩ : ∃ t, t = (u + 18446744073709551616 - s % 4294967296) % 18446744073709551616 := ⟨_, rfl⟩
    rw [← ht]
    refine J.reg rfl <| O.mv rfl <| O.mv rfl <| O.mv rfl <| O.cv (r := ((t % 4294967296 : Nat) : Int)) rfl ((wWm _).trans (by omega)) <| O.iaQ (q := q) (j := i) rfl rfl rfl (by omega) <| O.stoF (r := RW) (j := q + i) (u := t % 4294967296) rfl rfl ho (by omega) (rwv _ (by omega)) rfl (.inr rfl) fun W5 i5 f5 z5 o5 => JO.nil <| J.reg rfl <| O.mv rfl <| O.shr rfl rfl (by decide) (shr32 s) <| O.mv rfl <| O.shr rfl rfl (by decide) (shr63 t) <| O.add (r := ((s / 4294967296 + t / 9223372036854775808 : Nat) : Int)) rfl rfl ((wU (by omega)).trans (by omega)) <| O.as rfl <| JO.nil <| J.bend <| J.reg rfl <| O.add rfl rfl (wI (by omega)) <| O.mv rfl <| JO.nil <| ?_
    have hu0 : l[q + i]? = some u := by rw [← hrest (q + i) (.inr (Nat.le_refl _))]; exact hu
    have hst : t % 4294967296 + s = u + 4294967296 * (s / 4294967296 + t / 9223372036854775808) := by omega
    have hfin : val (((lo.set (q + i) (t % 4294967296)).drop q).take (i + 1)) + val ((dig y).take (i + 1)) * d = val ((l.drop q).take (i + 1)) + 4294967296 ^ (i + 1) * (s / 4294967296 + t / 9223372036854775808) := by
      rw [val_wset (by omega), val_take_succ hw, val_wsucc hu0, Nat.pow_succ, Nat.mul_assoc, Nat.add_mul, Nat.mul_assoc]
      have e : 4294967296 ^ i * (t % 4294967296 + s) = 4294967296 ^ i * (u + 4294967296 * (s / 4294967296 + t / 9223372036854775808)) := by rw [hst]
      have e2 : 4294967296 ^ i * s = 4294967296 ^ i * (w * d) + 4294967296 ^ i * br := by rw [hs, Nat.mul_add]
      rw [Nat.mul_add, Nat.mul_add (4294967296 ^ i) u] at e
      omega
    exact J.at' (i + 1, lo.set (q + i) (t % 4294967296), s / 4294967296 + t / 9223372036854775808) ⟨rfl, rfl, rfl, rfl, rfl, rfl, rfl, trivial⟩ ⟨⟨inferInstance, hof.trans f5 iL.s.size, o5, by show i + 1 ≤ k; omega, by show s / 4294967296 + t / 9223372036854775808 < 4294967296; omega, fun j hj => by rw [List.getElem?_set_ne (by omega)]; exact hrest j (by omega), hfin⟩, by show k - (i + 1) < k - i; omega⟩
  · skip
    have hik : i = k := by omega
    rw [hik] at hrest hval
    rw [List.take_of_length_le (l := dig y) (by omega), val_dig] at hval
    obtain ⟨u, hu⟩ := xat (l := lo) (k := q + k) (by omega)
    have hub := own_val_word ho hu
    refine J.exit rfl <| J.seq <| J.reg rfl <| O.mv rfl <| O.mv rfl <| O.len rfl <| O.iaQ (q := q) (j := k) rfl rfl rfl (by omega) <| O.ldQ rfl ho hu <| O.cv rfl (wU (by omega)) <| O.mv rfl <| O.sb (r := (((u + 18446744073709551616 - br) % 18446744073709551616 : Nat) : Int)) rfl rfl ((wUm _).trans (by omega)) <| O.as rfl <| JO.nil <| J.seq <| ?_
    obtain ⟨t, ht⟩ : ∃ t, t = (u + 18446744073709551616 - br) % 18446744073709551616 := ⟨_, rfl⟩
    rw [← ht]
    refine J.reg rfl <| O.mv rfl <| O.mv rfl <| O.len rfl <| O.mv rfl <| O.cv (r := ((t % 4294967296 : Nat) : Int)) rfl ((wWm _).trans (by omega)) <| O.iaQ (q := q) (j := k) rfl rfl rfl (by omega) <| O.stoF (r := RW) (j := q + k) (u := t % 4294967296) rfl rfl ho (by omega) (rwv _ (by omega)) rfl (.inr rfl) fun W5 i5 f5 z5 o5 => JO.nil <| J.seq <| J.reg rfl <| O.mv rfl <| O.shr rfl rfl (by decide) (shr63 t) <| O.eq rfl rfl <| O.as rfl <| JO.nil <| ?_
    have hu0 : l[q + k]? = some u := by rw [← hrest (q + k) (.inr (Nat.le_refl _))]; exact hu
    have hneg : (if decide (((t / 9223372036854775808 : Nat) : Int) = 1) = true then 1 else 0) = t / 9223372036854775808 := by
      by_cases hc : ((t / 9223372036854775808 : Nat) : Int) = 1
      · rw [if_pos (decide_eq_true hc)]; omega
      · rw [if_neg (by rw [decide_eq_true_eq]; exact hc)]; omega
    refine J.retK1 rfl (.tmp rfl) ⟨_, lo.set (q + k) (t % 4294967296), rfl, hof.trans f5 iL.s.size, o5, fun j hj => by rw [List.getElem?_set_ne (by omega)]; exact hrest j (by omega), ?_⟩
    rw [hneg, val_wset (by omega), val_wsucc hu0, Nat.pow_succ, Nat.mul_assoc]
    have e : 4294967296 ^ k * (t % 4294967296 + br) = 4294967296 ^ k * (u + 4294967296 * (t / 9223372036854775808)) := by congr 1; omega
    rw [Nat.mul_add, Nat.mul_add (4294967296 ^ k) u] at e
    omega
/-- restore -/
theorem integer_restore_ok {W : GW} {b q m c c2 k y cv : Nat} {pv : Option Addr} {l : List Nat} (h : Ows RW W (some ⟨b, 0, none⟩) m c l) (hq : q + (k + 1) ≤ m) (hv : Sl RW W pv k cv (dig y)) (hk40 : k ≤ 1099511627776) :
    OkK Tryz.prog 171 [.slice (some ⟨b, q, none⟩) (k + 1) c2, .slice pv k cv] W fun W' v => ∃ (e : Nat) (l' : List Nat), e ≤ 1 ∧ OnlyB b W W' ∧ Ows RW W' (some ⟨b, 0, none⟩) m c l' ∧
      (∀ j, (j < q ∨ q + (k + 1) ≤ j) → l'[j]? = l[j]?) ∧ val ((l'.drop q).take (k + 1)) + 4294967296 ^ (k + 1) * e = val ((l.drop q).take (k + 1)) + y := by
  have hvn := hv.hn
  refine OkK.enter Tryz.func171 rfl rfl rfl rfl ?_
  refine J.seq <| J.reg rfl <| O.as rfl <| JO.nil <| J.seq <| J.seq <| J.reg rfl <| O.mv rfl <| O.len rfl <| O.mv rfl <| JO.nil <| J.block <| ?_
  refine J.loop (α := Nat × List Nat × Nat) (fun s => [(0, .slice (some ⟨b, q, none⟩) (k + 1) c2), (1, .slice pv k cv), (4, .int .u64 (s.2.2 : Int)), (7, .slice pv k cv), (8, .int .i64 (k : Int)), (9, .int .i64 (s.1 : Int))]) (fun s W' => Lk W W' ∧ OnlyB b W W' ∧ Ows RW W' (some ⟨b, 0, none⟩) m c s.2.1 ∧ s.1 ≤ k ∧ s.2.2 ≤ 1 ∧ (∀ j, (j < q ∨ q + s.1 ≤ j) → s.2.1[j]? = l[j]?) ∧ val ((s.2.1.drop q).take s.1) + 4294967296 ^ s.1 * s.2.2 = val ((l.drop q).take s.1) + val ((dig y).take s.1)) (fun s => k - s.1) (0, l, 0) ⟨rfl, rfl, rfl, rfl, rfl, rfl, trivial⟩ ⟨inferInstance, OnlyB.refl _ _, h, Nat.zero_le _, Nat.zero_le _, fun _ _ => rfl, by simp [val]⟩ ?_
  rintro ⟨i, lo, cr⟩ W3 ⟨iL, hof, ho, hi, hcr, hrest, hval⟩
  dsimp only at *
  have hln := ho.hn
  refine J.seq <| J.reg rfl <| O.lt rfl rfl <| JO.nil <| J.seq <| J.condD rfl (fun h10 => ?_) (fun h10 => ?_)
  · skip
    obtain ⟨w, hw⟩ := xat (l := dig y) (k := i) (by omega)
    have hwb := words_dig y w (List.mem_of_getElem? hw)
    obtain ⟨u, hu⟩ := xat (l := lo) (k := q + i) (by omega)
    have hub := own_val_word ho hu
    refine J.skip <| J.seq <| J.block <| J.seq <| J.reg rfl <| O.mv rfl <| O.ixW (j := i) rfl rfl rfl hv.to hw fun a1 => O.as rfl <| O.as rfl <| JO.nil <| J.seq <| J.reg rfl <| O.mv rfl <| O.mv rfl <| O.mv rfl <| O.iaQ (q := q) (j := i) rfl rfl rfl (by omega) <| O.ldQ rfl ho hu <| O.cv rfl (wU (by omega)) <| O.mv rfl <| O.cv rfl (wU (by omega)) <| O.add (r := ((u + w : Nat) : Int)) rfl rfl ((wU (by omega)).trans (by omega)) <| O.add (r := ((cr + (u + w) : Nat) : Int)) rfl rfl ((wU (by omega)).trans (by omega)) <| O.as rfl <| JO.nil <| J.seq <| ?_
    obtain ⟨s, hs⟩ : ∃ s, s = cr + (u + w) := ⟨_, rfl⟩
    rw [← hs]
    refine J.reg rfl <| O.mv rfl <| O.mv rfl <| O.mv rfl <| O.cv (r := ((s % 4294967296 : Nat) : Int)) rfl ((wWm _).trans (by omega)) <| O.iaQ (q := q) (j := i) rfl rfl rfl (by omega) <| O.stoF (r := RW) (j := q + i) (u := s % 4294967296) rfl rfl ho (by omega) (rwv _ (by omega)) rfl (.inr rfl) fun W5 i5 f5 z5 o5 => JO.nil <| J.reg rfl <| O.mv rfl <| O.shr rfl rfl (by decide) (shr32 s) <| O.as rfl <| JO.nil <| J.bend <| J.reg rfl <| O.add rfl rfl (wI (by omega)) <| O.mv rfl <| JO.nil <| ?_
    have hu0 : l[q + i]? = some u := by rw [← hrest (q + i) (.inr (Nat.le_refl _))]; exact hu
    have hfin : val (((lo.set (q + i) (s % 4294967296)).drop q).take (i + 1)) + 4294967296 ^ (i + 1) * (s / 4294967296) = val ((l.drop q).take (i + 1)) + val ((dig y).take (i + 1)) := by
      rw [val_wset (by omega), val_take_succ hw, val_wsucc hu0, Nat.pow_succ, Nat.mul_assoc]
      have e : 4294967296 ^ i * (s % 4294967296 + 4294967296 * (s / 4294967296)) = 4294967296 ^ i * (cr + (u + w)) := by congr 1; omega
      simp only [Nat.mul_add] at e
      omega
    exact J.at' (i + 1, lo.set (q + i) (s % 4294967296), s / 4294967296) ⟨rfl, rfl, rfl, rfl, rfl, rfl, trivial⟩ ⟨⟨inferInstance, hof.trans f5 iL.s.size, o5, by show i + 1 ≤ k; omega, by show s / 4294967296 ≤ 1; omega, fun j hj => by rw [List.getElem?_set_ne (by omega)]; exact hrest j (by omega), hfin⟩, by show k - (i + 1) < k - i; omega⟩
  · skip
    have hik : i = k := by omega
    rw [hik] at hrest hval
    rw [List.take_of_length_le (l := dig y) (by omega), val_dig] at hval
    obtain ⟨u, hu⟩ := xat (l := lo) (k := q + k) (by omega)
    have hub := own_val_word ho hu
    refine J.exit rfl <| J.reg rfl <| O.mv rfl <| O.mv rfl <| O.len rfl <| O.iaQ (q := q) (j := k) rfl rfl rfl (by omega) <| O.ldQ rfl ho hu <| O.mv rfl <| O.cv (r := ((cr : Nat) : Int)) rfl (wW (by omega)) <| O.add (r := (((u + cr) % 4294967296 : Nat) : Int)) rfl rfl ((wWm _).trans (by omega)) <| O.iaQ (q := q) (j := k) rfl rfl rfl (by omega) <| O.stoF (r := RW) (j := q + k) (u := (u + cr) % 4294967296) rfl rfl ho (by omega) (rwv _ (by omega)) rfl (.inr rfl) fun W5 i5 f5 z5 o5 => JO.nil <| ?_
    have hu0 : l[q + k]? = some u := by rw [← hrest (q + k) (.inr (Nat.le_refl _))]; exact hu
    refine J.endK0 rfl ⟨(u + cr) / 4294967296, lo.set (q + k) ((u + cr) % 4294967296), by omega, hof.trans f5 iL.s.size, o5, fun j hj => by rw [List.getElem?_set_ne (by omega)]; exact hrest j (by omega), ?_⟩
    rw [val_wset (by omega), val_wsucc hu0, Nat.pow_succ, Nat.mul_assoc]
    have e : 4294967296 ^ k * ((u + cr) % 4294967296 + 4294967296 * ((u + cr) / 4294967296)) = 4294967296 ^ k * (u + cr) := by congr 1; omega
    simp only [Nat.mul_add] at e
    omega
end
end Go.Proofs.YtcaikjefkkejbaaGreat
