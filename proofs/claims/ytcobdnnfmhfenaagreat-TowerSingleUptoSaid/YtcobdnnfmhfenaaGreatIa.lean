/- The program's integers, the words: contracts. -/
import Derived.Test.YtcobdnnfmhfenaaGreatIds
import Derived.Test.YtcobdnnfmhfenaaGreatNum
set_option linter.unusedVariables false
set_option linter.unusedSimpArgs false
set_option maxRecDepth 10000
namespace Go.Proofs.YtcobdnnfmhfenaaGreat
open Go Go.Rx Go.Num

theorem slw {W : GW} {p : Option Addr} {m c : Nat} {l : List Nat} (h : Sl RW W p m c l) : Words l := by
  intro x hx
  obtain ⟨i, hi⟩ := List.getElem?_of_mem hx
  obtain ⟨b, off, cs, _, hc, _⟩ := h.cells hi
  exact hc.2
theorem xat {l : List Nat} {k : Nat} (h : k < l.length) : ∃ x, l[k]? = some x := ⟨_, List.getElem?_eq_getElem h⟩

/-- trim: the words without zeros at the end. -/
theorem integer_trim_ok {W : GW} {p : Option Addr} {m c : Nat} {l : List Nat} (h : Sl RW W p m c l) :
    Ok Tryz.prog 93 [.slice p m c] W fun W' v => V (RSl RW) W' v (dig (val l)) := by
  have hn := h.hn
  have hc := h.hc
  have hC := h.hC
  refine Ok.enter Tryz.func93 rfl rfl rfl rfl fun W0 iEn => ?_
  refine J.seq <| J.reg rfl <| O.as rfl <| JO.nil <| J.seq <| J.block <| ?_
  refine J.loop (α := Nat) (fun k => [(0, .slice p k c)]) (fun k W => W = W0 ∧ k ≤ l.length ∧ val (l.take k) = val l) (fun k => k) m ⟨rfl, trivial⟩ ⟨rfl, by omega, by rw [hn, List.take_length]⟩ ?_
  rintro k W1 ⟨rfl, hk, hv⟩
  refine J.seq <| J.seq <| J.reg rfl <| O.mv rfl <| O.len rfl <| O.gtr rfl rfl <| O.mv rfl <| ?_
  by_cases hg6 : 0 < k
  · skip
    refine O.set (t := 6) (.bool true) rfl (by simp only [Value.bool.injEq, decide_eq_true_eq, decide_eq_false_iff_not]; omega) <| O.gt rfl rfl <| O.mv rfl <| O.gt rfl rfl <| O.mv rfl <| O.gt rfl rfl <| O.len rfl <| O.gt rfl rfl <| ?_
    obtain ⟨x, hx⟩ := xat (l := l) (k := k - 1) (by omega)
    have hx' : (l.take k)[k - 1]? = some x := by rw [List.getElem?_take, if_pos (by omega)]; exact hx
    refine O.sb rfl rfl (wI (by omega)) <| O.gt rfl rfl <| O.iaW (j := k - 1) rfl rfl (by omega) (Sl.take h.to k (by omega)) hx' fun b off hcell => O.gt rfl rfl <| O.ldC rfl hcell <| O.gt rfl rfl <| O.eq rfl rfl <| O.pickT rfl rfl <| JO.nil <| J.condD rfl (fun h14 => ?_) (fun h14 => ?_)
    · skip
      refine J.skip <| J.block <| J.reg rfl <| O.mv rfl <| O.mv rfl <| O.len rfl <| O.sb rfl rfl (wI (by omega)) <| O.slh (hi := k - 1) rfl rfl (by omega) (by omega) <| O.as rfl <| JO.nil <| J.bend <| ?_
      have hts := val_take_succ hx
      rw [show k - 1 + 1 = k from by omega, show x = 0 from by omega] at hts
      exact J.at' (k - 1) ⟨rfl, trivial⟩ ⟨⟨rfl, by omega, by omega⟩, by omega⟩
    · skip
      refine J.exit rfl <| J.seq <| J.reg rfl <| O.mv rfl <| O.as rfl <| JO.nil <| J.ret1 rfl (.tmp rfl) fun W' _ _ => ?_
      have hw := (slw h).take k
      have ht : Trim (l.take k) := by
        refine .inr ⟨x, ?_, by omega⟩
        rw [List.length_take, Nat.min_eq_left hk, List.getElem?_take, if_pos (by omega)]; exact hx
      rw [← hv, dig_val hw ht]
      exact (Sl.take h.to k (by omega)).v
  · skip
    refine O.set (t := 6) (.bool false) rfl (by simp only [Value.bool.injEq, decide_eq_true_eq, decide_eq_false_iff_not]; omega) <| O.gs rfl rfl rfl <| O.gs rfl rfl rfl <| O.gs rfl rfl rfl <| O.gs rfl rfl rfl <| O.gs rfl rfl rfl <| O.gs rfl rfl rfl <| O.gs rfl rfl rfl <| O.pickF rfl rfl <| JO.nil <| J.condF rfl <| J.exit rfl <| J.seq <| J.reg rfl <| O.mv rfl <| O.as rfl <| JO.nil <| J.ret1 rfl (.tmp rfl) fun W' _ _ => ?_
    have hz : val l = 0 := by rw [← hv, show k = 0 from by omega]; rfl
    rw [hz, dig_zero]
    exact Sl.v ⟨by rw [show k = 0 from by omega]; rfl, by omega, hC, .inl rfl⟩

theorem ownw {W : GW} {p : Option Addr} {m c : Nat} {l : List Nat} (h : Ows RW W p m c l) : Words l := by
  intro x hx
  obtain ⟨i, hi⟩ := List.getElem?_of_mem hx
  obtain ⟨b, cs, _, hc, _⟩ := h.cells hi
  exact hc.2

/-- plus: the sum. -/
theorem integer_plus_ok {W : GW} {p q : Option Addr} {m c m' c' x y : Nat} (h : Sl RW W p m c (dig x)) (h' : Sl RW W q m' c' (dig y)) (hx : (dig x).length ≤ 1099511627776) (hy : (dig y).length ≤ 1099511627776) :
    Ok Tryz.prog 125 [.slice p m c, .slice q m' c'] W fun W' v => V (RSl RW) W' v (dig (x + y)) := by
  refine Ok.enter Tryz.func125 rfl rfl rfl rfl fun W0 iEn => ?_
  refine J.seq <| J.reg rfl <| O.as rfl <| JO.nil <| J.seq <| J.seq <| J.reg rfl <| O.mv rfl <| O.len rfl <| O.mv rfl <| O.len rfl <| O.lt rfl rfl <| JO.nil <| ?_
  refine J.cut (α := (Option Addr × Nat × Nat × Nat) × Option Addr × Nat × Nat × Nat) (fun q => [(0, .slice q.1.1 q.1.2.1 q.1.2.2.1), (1, .slice q.2.1 q.2.2.1 q.2.2.2.1)]) (fun q W => W = W0 ∧ Sl RW W q.1.1 q.1.2.1 q.1.2.2.1 (dig q.1.2.2.2) ∧ Sl RW W q.2.1 q.2.2.1 q.2.2.2.1 (dig q.2.2.2.2) ∧ q.1.2.2.2 + q.2.2.2.2 = x + y ∧ q.2.2.1 ≤ q.1.2.1 ∧ q.1.2.1 ≤ 1099511627776) ?_ ?_
  · skip
    refine J.condD rfl (fun h13 => ?_) (fun h13 => ?_)
    · skip
      refine J.reg rfl <| O.mv rfl <| O.mv rfl <| O.as rfl <| O.as rfl <| JO.nil <| ?_
      exact J.at' ((q, m', c', y), p, m, c, x) ⟨rfl, rfl, trivial⟩ ⟨rfl, h'.to, h.to, Nat.add_comm _ _, by show m ≤ m'; omega, by show m' ≤ _; rw [h'.hn]; exact hy⟩
    · skip
      refine J.skip <| ?_
      exact J.at' ((p, m, c, x), q, m', c', y) ⟨rfl, rfl, trivial⟩ ⟨rfl, h.to, h'.to, rfl, by show m' ≤ m; omega, by show m ≤ _; rw [h.hn]; exact hx⟩
  · skip
    rintro ⟨⟨p1, n1, c1, x1⟩, p2, n2, c2, x2⟩ W1 ⟨rfl, h1, h2, hsum, hle, hbig⟩
    dsimp only at *
    have hn1 := h1.hn
    have hn2 := h2.hn
    refine J.seq <| J.reg rfl <| O.mv rfl <| O.len rfl <| O.add rfl rfl (wI (by omega)) <| O.mk (r := RW) (m := 0) (c := n1 + 1) 0 rfl rfl rfl rfl (by omega) (by omega) (by omega) rfl rfl (by decide) (fun _ => ⟨rfl, by decide⟩) fun W2 b2 i2 e2 hb2 ho0 => O.as rfl <| JO.nil <| J.seq <| J.reg rfl <| O.as rfl <| JO.nil <| J.seq <| J.seq <| J.reg rfl <| O.mv rfl <| O.len rfl <| O.mv rfl <| JO.nil <| J.block <| ?_
    refine J.loop (α := Nat × Option Addr × Nat × List Nat × Nat) (fun q => [(1, .slice p2 n2 c2), (5, .slice q.2.1 q.1 q.2.2.1), (6, .int .u64 (q.2.2.2.2 : Int)), (20, .slice p1 n1 c1), (21, .int .i64 (n1 : Int)), (22, .int .i64 (q.1 : Int))]) (fun q W => Le W1 W ∧ Ows RW W q.2.1 q.1 q.2.2.1 q.2.2.2.1 ∧ q.1 ≤ n1 ∧ q.2.2.2.2 ≤ 1 ∧ val q.2.2.2.1 + 4294967296 ^ q.1 * q.2.2.2.2 = val ((dig x1).take q.1) + val ((dig x2).take q.1)) (fun q => n1 - q.1) (0, some ⟨b2, 0, none⟩, n1 + 1, [], 0) ⟨rfl, rfl, rfl, rfl, rfl, rfl, trivial⟩ ⟨inferInstance, ho0, Nat.zero_le _, Nat.zero_le _, rfl⟩ ?_
    rintro ⟨k, po, co, lo, cr⟩ W3 ⟨_, ho, hk, hcr, hval⟩
    dsimp only at *
    refine J.seq <| J.reg rfl <| O.lt rfl rfl <| JO.nil <| J.seq <| J.condD rfl (fun h23 => ?_) (fun h23 => ?_)
    · skip
      obtain ⟨u, hu⟩ := xat (l := dig x1) (k := k) (by omega)
      have hub := words_dig x1 u (List.mem_of_getElem? hu)
      refine J.skip <| J.seq <| J.block <| J.seq <| J.reg rfl <| O.mv rfl <| O.ixW (j := k) rfl rfl rfl h1.to hu fun a1 => O.as rfl <| O.as rfl <| JO.nil <| J.seq <| J.reg rfl <| O.mv rfl <| O.mv rfl <| O.cv rfl (wU (by omega)) <| O.add rfl rfl (wU (by omega)) <| O.as rfl <| JO.nil <| J.seq <| J.seq <| J.reg rfl <| O.mv rfl <| O.mv rfl <| O.len rfl <| O.lt rfl rfl <| JO.nil <| ?_
      refine J.cut (α := Nat) (fun s => [(1, .slice p2 n2 c2), (5, .slice po k co), (6, .int .u64 (s : Int)), (20, .slice p1 n1 c1), (21, .int .i64 (n1 : Int)), (22, .int .i64 (k : Int))]) (fun s W => W = W3 ∧ s < 8589934592 ∧ 4294967296 ^ k * s + val lo = val ((dig x1).take (k + 1)) + val ((dig x2).take (k + 1))) ?_ ?_
      · skip
        refine J.condD rfl (fun h34 => ?_) (fun h34 => ?_)
        · skip
          obtain ⟨u2, hu2⟩ := xat (l := dig x2) (k := k) (by omega)
          have hub2 := words_dig x2 u2 (List.mem_of_getElem? hu2)
          refine J.reg rfl <| O.mv rfl <| O.mv rfl <| O.mv rfl <| O.ixW (j := k) rfl rfl rfl h2.to hu2 fun a2 => O.cv rfl (wU (by omega)) <| O.add rfl rfl (wU (by omega)) <| O.as rfl <| JO.nil <| ?_
          exact J.at' (cr + u + u2) ⟨rfl, rfl, rfl, rfl, rfl, rfl, trivial⟩ ⟨rfl, by omega, by rw [val_take_succ hu, val_take_succ hu2, Nat.mul_add, Nat.mul_add]; omega⟩
        · skip
          refine J.skip <| ?_
          exact J.at' (cr + u) ⟨rfl, rfl, rfl, rfl, rfl, rfl, trivial⟩ ⟨rfl, by omega, by rw [val_take_succ hu, take_ge (l := dig x2) (by omega), Nat.mul_add]; omega⟩
      · skip
        rintro s W4 ⟨rfl, hs, hsv⟩
        refine J.seq <| J.reg rfl <| O.mv rfl <| O.mv rfl <| O.cv (r := ((s % 4294967296 : Nat) : Int)) rfl ((wWm _).trans (by omega)) <| O.app1 (r := RW) (u := s % 4294967296) (fun _ => rfl) rfl ho (rwv _ (by omega)) rfl rfl (by decide) (.inr rfl) (by decide) (by omega) (by omega) fun W5 p5 c5 v5 i5 o5 => O.as rfl <| JO.nil <| J.reg rfl <| O.mv rfl <| O.shr rfl rfl (by decide) (shr32 s) <| O.as rfl <| JO.nil <| J.bend <| J.reg rfl <| O.add rfl rfl (wI (by omega)) <| O.mv rfl <| JO.nil <| ?_
        have hval2 : val (lo ++ [s % 4294967296]) + 4294967296 ^ (k + 1) * (s / 4294967296) = val ((dig x1).take (k + 1)) + val ((dig x2).take (k + 1)) := by
          rw [val_append, ← ho.hn, ← hsv, Nat.pow_succ, Nat.mul_assoc]
          have e : s = s % 4294967296 + 4294967296 * (s / 4294967296) := by omega
          have e2 : 4294967296 ^ k * s = 4294967296 ^ k * (s % 4294967296) + 4294967296 ^ k * (4294967296 * (s / 4294967296)) := by rw [← Nat.mul_add, ← e]
          simp only [val, Nat.mul_zero, Nat.add_zero]
          omega
        exact J.at' (k + 1, p5, c5, lo ++ [s % 4294967296], s / 4294967296) ⟨rfl, rfl, rfl, rfl, rfl, rfl, trivial⟩ ⟨⟨inferInstance, o5, by show k + 1 ≤ n1; omega, by show s / 4294967296 ≤ 1; omega, hval2⟩, by show n1 - (k + 1) < n1 - k; omega⟩
    · skip
      have hkn : k = n1 := by omega
      subst hkn
      have hfin : val lo + 4294967296 ^ k * cr = x + y := by
        rw [hval, List.take_of_length_le (by omega), List.take_of_length_le (by omega), val_dig, val_dig, hsum]
      have hlw := ownw ho
      refine J.exit rfl <| J.seq <| J.seq <| J.reg rfl <| O.mv rfl <| O.gtr rfl rfl <| JO.nil <| J.condD rfl (fun h51 => ?_) (fun h51 => ?_)
      · skip
        refine J.reg rfl <| O.mv rfl <| O.mv rfl <| O.cv (r := ((cr : Nat) : Int)) rfl (wW (by omega)) <| O.app1 (r := RW) (u := cr) (fun _ => rfl) rfl ho (rwv _ (by omega)) rfl rfl (by decide) (.inr rfl) (by decide) (by omega) (by omega) fun W5 p5 c5 v5 i5 o5 => O.as rfl <| JO.nil <| J.seq <| J.reg rfl <| O.mv rfl <| O.as rfl <| JO.nil <| J.ret1 rfl (.tmp rfl) fun W' iE iP => ?_
        have hl : lo ++ [cr] = dig (x + y) := by
          rw [← hfin]
          have e : val (lo ++ [cr]) = val lo + 4294967296 ^ k * cr := by rw [val_append, ← ho.hn]; simp [val]
          rw [← e, dig_val (ownw o5) (.inr ⟨cr, by simp, by omega⟩)]
        rw [← hl]
        exact (o5.pub iE iP).v
      · skip
        refine J.skip <| J.seq <| J.reg rfl <| O.mv rfl <| O.as rfl <| JO.nil <| J.ret1 rfl (.tmp rfl) fun W' iE iP => ?_
        have hc0 : cr = 0 := by omega
        subst hc0
        have hl : lo = dig (x + y) := by
          rw [← hfin, Nat.mul_zero, Nat.add_zero]
          refine (dig_val hlw ?_).symm
          rcases Nat.eq_zero_or_pos k with hk0 | hk0
          · exact .inl (List.eq_nil_of_length_eq_zero (by rw [← ho.hn]; exact hk0))
          · have hx1 : x1 ≠ 0 := fun hh => by rw [hh, dig_zero] at hn1; simp at hn1; omega
            have hlb := dig_lb hx1
            refine top_trim hlw (by rw [← ho.hn]; exact hk0) ?_
            rw [← ho.hn]
            rw [← hn1] at hlb
            omega
        rw [← hl]
        exact (ho.pub iE iP).v

/-- minus: the difference. -/
theorem integer_minus_ok {W : GW} {p q : Option Addr} {m c m' c' x y : Nat} (h : Sl RW W p m c (dig x)) (h' : Sl RW W q m' c' (dig y)) (hx : (dig x).length ≤ 1099511627776) (hle : y ≤ x) :
    Ok Tryz.prog 126 [.slice p m c, .slice q m' c'] W fun W' v => V (RSl RW) W' v (dig (x - y)) := by
  have hn := h.hn
  have hn' := h'.hn
  have hll := len_mono hle
  refine Ok.enter Tryz.func126 rfl rfl rfl rfl fun W0 iEn => ?_
  refine J.seq <| J.reg rfl <| O.as rfl <| JO.nil <| J.seq <| J.reg rfl <| O.mv rfl <| O.len rfl <| O.mk (r := RW) (m := m) (c := m) 0 rfl rfl rfl rfl (by omega) (by omega) (by omega) rfl rfl (by decide) (fun _ => ⟨rfl, by decide⟩) fun W2 b2 i2 e2 hb2 ho0 => O.as rfl <| JO.nil <| J.seq <| J.reg rfl <| O.as rfl <| JO.nil <| J.seq <| J.seq <| J.reg rfl <| O.mv rfl <| O.len rfl <| O.mv rfl <| JO.nil <| J.block <| ?_
  refine J.loop (α := Nat × List Nat × Nat) (fun q' => [(1, .slice q m' c'), (5, .slice (some ⟨b2, 0, none⟩) m m), (6, .int .u64 (q'.2.2 : Int)), (13, .slice p m c), (14, .int .i64 (m : Int)), (15, .int .i64 (q'.1 : Int))]) (fun q' W' => Le W0 W' ∧ Ows RW W' (some ⟨b2, 0, none⟩) m m q'.2.1 ∧ q'.1 ≤ m ∧ q'.2.2 ≤ 1 ∧ val (q'.2.1.take q'.1) + val ((dig y).take q'.1) = val ((dig x).take q'.1) + 4294967296 ^ q'.1 * q'.2.2) (fun q' => m - q'.1) (0, List.replicate m 0, 0) ⟨rfl, rfl, rfl, rfl, rfl, rfl, trivial⟩ ⟨inferInstance, ho0, Nat.zero_le _, Nat.zero_le _, rfl⟩ ?_
  rintro ⟨k, lo, br⟩ W3 ⟨_, ho, hk, hbr, hval⟩
  dsimp only at *
  refine J.seq <| J.reg rfl <| O.lt rfl rfl <| JO.nil <| J.seq <| J.condD rfl (fun h16 => ?_) (fun h16 => ?_)
  · skip
    obtain ⟨u, hu⟩ := xat (l := dig x) (k := k) (by omega)
    have hub := words_dig x u (List.mem_of_getElem? hu)
    refine J.skip <| J.seq <| J.block <| J.seq <| J.reg rfl <| O.mv rfl <| O.ixW (j := k) rfl rfl rfl h.to hu fun a1 => O.as rfl <| O.as rfl <| JO.nil <| J.seq <| J.reg rfl <| O.mv rfl <| O.cv rfl (wU (by omega)) <| O.mv rfl <| O.sb (r := (((u + 18446744073709551616 - br) % 18446744073709551616 : Nat) : Int)) rfl rfl ((wUm _).trans (by omega)) <| O.as rfl <| JO.nil <| J.seq <| J.seq <| J.reg rfl <| O.mv rfl <| O.mv rfl <| O.len rfl <| O.lt rfl rfl <| JO.nil <| ?_
    refine J.cut (α := Nat) (fun s => [(1, .slice q m' c'), (5, .slice (some ⟨b2, 0, none⟩) m m), (7, .int .i64 (k : Int)), (9, .int .u64 (s : Int)), (13, .slice p m c), (14, .int .i64 (m : Int)), (15, .int .i64 (k : Int))]) (fun s W => W = W3 ∧ s < 18446744073709551616 ∧ s / 9223372036854775808 ≤ 1 ∧ ∃ v, s % 4294967296 + v + br = u + 4294967296 * (s / 9223372036854775808) ∧ val ((dig y).take (k + 1)) = val ((dig y).take k) + 4294967296 ^ k * v) ?_ ?_
    · skip
      refine J.condD rfl (fun h27 => ?_) (fun h27 => ?_)
      · skip
        obtain ⟨u2, hu2⟩ := xat (l := dig y) (k := k) (by omega)
        have hub2 := words_dig y u2 (List.mem_of_getElem? hu2)
        refine J.reg rfl <| O.mv rfl <| O.mv rfl <| O.mv rfl <| O.ixW (j := k) rfl rfl rfl h'.to hu2 fun a2 => O.cv rfl (wU (by omega)) <| O.sb (r := (((u + 18446744073709551616 - br + 18446744073709551616 - u2) % 18446744073709551616 : Nat) : Int)) rfl rfl ((wUm _).trans (by omega)) <| O.as rfl <| JO.nil <| ?_
        exact J.at' ((u + 18446744073709551616 - br + 18446744073709551616 - u2) % 18446744073709551616) ⟨rfl, rfl, rfl, rfl, rfl, rfl, rfl, trivial⟩ ⟨rfl, by omega, by omega, u2, by omega, val_take_succ hu2⟩
      · skip
        refine J.skip <| ?_
        exact J.at' ((u + 18446744073709551616 - br) % 18446744073709551616) ⟨rfl, rfl, rfl, rfl, rfl, rfl, rfl, trivial⟩ ⟨rfl, by omega, by omega, 0, by omega, by rw [take_ge (by omega)]; rfl⟩
    · skip
      rintro s W4 ⟨rfl, hs, hs2, v, hsv, hyv⟩
      refine J.seq <| J.reg rfl <| O.mv rfl <| O.mv rfl <| O.mv rfl <| O.cv (r := ((s % 4294967296 : Nat) : Int)) rfl ((wWm _).trans (by omega)) <| O.iaB (r := RW) (j := k) rfl rfl rfl ho (by omega) rfl <| O.sto (r := RW) (j := k) (u := s % 4294967296) rfl rfl ho (by omega) (rwv _ (by omega)) rfl (.inr rfl) fun W5 i5 o5 => JO.nil <| J.reg rfl <| O.mv rfl <| O.shr rfl rfl (by decide) (shr63 s) <| O.as rfl <| JO.nil <| J.bend <| J.reg rfl <| O.add rfl rfl (wI (by omega)) <| O.mv rfl <| JO.nil <| ?_
      have hlk : k < lo.length := by rw [← ho.hn]; omega
      have hfin : val ((lo.set k (s % 4294967296)).take (k + 1)) + val ((dig y).take (k + 1)) = val ((dig x).take (k + 1)) + 4294967296 ^ (k + 1) * (s / 9223372036854775808) := by
        rw [val_set hlk, hyv, val_take_succ hu, Nat.pow_succ, Nat.mul_assoc]
        have e : 4294967296 ^ k * (s % 4294967296 + v + br) = 4294967296 ^ k * (u + 4294967296 * (s / 9223372036854775808)) := by rw [hsv]
        simp only [Nat.mul_add] at e
        omega
      exact J.at' (k + 1, lo.set k (s % 4294967296), s / 9223372036854775808) ⟨rfl, rfl, rfl, rfl, rfl, rfl, trivial⟩ ⟨⟨inferInstance, o5, by show k + 1 ≤ m; omega, hs2, hfin⟩, by show m - (k + 1) < m - k; omega⟩
  · skip
    have hkn : k = m := by omega
    have hlw := ownw ho
    have hln := ho.hn
    rw [hkn, List.take_of_length_le (by omega), List.take_of_length_le (by omega), List.take_of_length_le (by omega), val_dig, val_dig] at hval
    have hvl := val_lt hlw
    rw [← hln] at hvl
    have hbr0 : br = 0 := by
      rcases Nat.eq_zero_or_pos br with h0 | h0
      · exact h0
      · have h1 : 4294967296 ^ m * 1 ≤ 4294967296 ^ m * br := Nat.mul_le_mul_left _ h0
        omega
    rw [hbr0, Nat.mul_zero] at hval
    have hfin : val lo = x - y := by omega
    refine J.exit rfl <| J.seq <| ?_
    refine J.pub ho fun W6 i6 s6 => ?_
    refine J.reg rfl <| O.mv rfl <| O.call rfl (integer_trim_ok s6) fun W7 v7 i7 e7 h7 => O.as rfl <| JO.nil <| J.ret1 rfl (.tmp rfl) fun W' iE iP => ?_
    rw [← hfin]
    exact h7.to

theorem cmp_isNaN_int_ok {W : GW} (a : Int) : Ok Tryz.prog 132 [.int .i64 a] W fun _ v => v = .bool false := by
  refine Ok.enter Tryz.func132 rfl rfl rfl rfl fun W0 iEn => ?_
  refine J.seq <| J.reg rfl <| O.as rfl <| JO.nil <| J.seq <| J.reg rfl <| O.mv rfl <| O.mv rfl <| O.ne rfl rfl <| O.as rfl <| JO.nil <| J.ret1 rfl (.tmp rfl) fun W' iE iP => ?_
  simp
theorem cmp_isNaN_u32_ok {W : GW} (a : Int) : Ok Tryz.prog 133 [.int .u32 a] W fun _ v => v = .bool false := by
  refine Ok.enter Tryz.func133 rfl rfl rfl rfl fun W0 iEn => ?_
  refine J.seq <| J.reg rfl <| O.as rfl <| JO.nil <| J.seq <| J.reg rfl <| O.mv rfl <| O.mv rfl <| O.ne rfl rfl <| O.as rfl <| JO.nil <| J.ret1 rfl (.tmp rfl) fun W' iE iP => ?_
  simp
theorem cmp_Compare_int_ok {W : GW} (a b : Int) : Ok Tryz.prog 127 [.int .i64 a, .int .i64 b] W fun _ v => v = .int .i64 (cmpI a b) := by
  refine Ok.enter Tryz.func127 rfl rfl rfl rfl fun W0 iEn => ?_
  refine J.seq <| J.reg rfl <| O.as rfl <| JO.nil <| J.seq <| J.reg rfl <| O.mv rfl <| O.call rfl (cmp_isNaN_int_ok _) fun W2 v2 i2 e2 h2 => ?_
  subst h2
  refine O.as rfl <| JO.nil <| J.seq <| J.reg rfl <| O.mv rfl <| O.call rfl (cmp_isNaN_int_ok _) fun W3 v3 i3 e3 h3 => ?_
  subst h3
  refine O.as rfl <| JO.nil <| J.seq <| J.seq <| J.reg rfl <| O.mv rfl <| JO.nil <| J.condF rfl <| J.skip <| J.seq <| J.seq <| J.reg rfl <| O.mv rfl <| JO.nil <| J.condF rfl <| J.skip <| J.seq <| J.seq <| J.reg rfl <| O.mv rfl <| O.mv rfl <| O.lt rfl rfl <| JO.nil <| J.condD rfl (fun h16 => ?_) (fun h16 => ?_)
  · skip
    refine J.seq <| J.reg rfl <| O.as rfl <| JO.nil <| J.ret1 rfl (.tmp rfl) fun W' iE iP => ?_
    rw [cmpI, if_pos h16]
  · skip
    refine J.skip <| J.seq <| J.seq <| J.reg rfl <| O.mv rfl <| O.mv rfl <| O.gtr rfl rfl <| JO.nil <| J.condD rfl (fun h19 => ?_) (fun h19 => ?_)
    · skip
      refine J.seq <| J.reg rfl <| O.as rfl <| JO.nil <| J.ret1 rfl (.tmp rfl) fun W' iE iP => ?_
      rw [cmpI, if_neg h16, if_pos h19]
    · skip
      refine J.skip <| J.seq <| J.reg rfl <| O.as rfl <| JO.nil <| J.ret1 rfl (.tmp rfl) fun W' iE iP => ?_
      rw [cmpI, if_neg h16, if_neg h19]
theorem cmp_Compare_u32_ok {W : GW} (a b : Int) : Ok Tryz.prog 128 [.int .u32 a, .int .u32 b] W fun _ v => v = .int .i64 (cmpI a b) := by
  refine Ok.enter Tryz.func128 rfl rfl rfl rfl fun W0 iEn => ?_
  refine J.seq <| J.reg rfl <| O.as rfl <| JO.nil <| J.seq <| J.reg rfl <| O.mv rfl <| O.call rfl (cmp_isNaN_u32_ok _) fun W2 v2 i2 e2 h2 => ?_
  subst h2
  refine O.as rfl <| JO.nil <| J.seq <| J.reg rfl <| O.mv rfl <| O.call rfl (cmp_isNaN_u32_ok _) fun W3 v3 i3 e3 h3 => ?_
  subst h3
  refine O.as rfl <| JO.nil <| J.seq <| J.seq <| J.reg rfl <| O.mv rfl <| JO.nil <| J.condF rfl <| J.skip <| J.seq <| J.seq <| J.reg rfl <| O.mv rfl <| JO.nil <| J.condF rfl <| J.skip <| J.seq <| J.seq <| J.reg rfl <| O.mv rfl <| O.mv rfl <| O.lt rfl rfl <| JO.nil <| J.condD rfl (fun h16 => ?_) (fun h16 => ?_)
  · skip
    refine J.seq <| J.reg rfl <| O.as rfl <| JO.nil <| J.ret1 rfl (.tmp rfl) fun W' iE iP => ?_
    rw [cmpI, if_pos h16]
  · skip
    refine J.skip <| J.seq <| J.seq <| J.reg rfl <| O.mv rfl <| O.mv rfl <| O.gtr rfl rfl <| JO.nil <| J.condD rfl (fun h19 => ?_) (fun h19 => ?_)
    · skip
      refine J.seq <| J.reg rfl <| O.as rfl <| JO.nil <| J.ret1 rfl (.tmp rfl) fun W' iE iP => ?_
      rw [cmpI, if_neg h16, if_pos h19]
    · skip
      refine J.skip <| J.seq <| J.reg rfl <| O.as rfl <| JO.nil <| J.ret1 rfl (.tmp rfl) fun W' iE iP => ?_
      rw [cmpI, if_neg h16, if_neg h19]

/-- compare. -/
theorem integer_compare_ok {W : GW} {p q : Option Addr} {m c m' c' x y : Nat} (h : Sl RW W p m c (dig x)) (h' : Sl RW W q m' c' (dig y)) :
    Ok Tryz.prog 114 [.slice p m c, .slice q m' c'] W fun W' v => v = .int .i64 (cmpI x y) := by
  have hn := h.hn
  have hn' := h'.hn
  have hb := h.hC
  have hb1 := h.hc
  refine Ok.enter Tryz.func114 rfl rfl rfl rfl fun W0 iEn => ?_
  refine J.seq <| J.reg rfl <| O.as rfl <| JO.nil <| J.seq <| J.seq <| J.reg rfl <| O.mv rfl <| O.len rfl <| O.mv rfl <| O.len rfl <| O.ne rfl rfl <| JO.nil <| J.condD rfl (fun h10 => ?_) (fun h10 => ?_)
  · skip
    refine J.seq <| J.reg rfl <| O.mv rfl <| O.len rfl <| O.mv rfl <| O.len rfl <| O.call rfl (cmp_Compare_int_ok _ _) fun W2 v2 i2 e2 h2 => ?_
    subst h2
    refine O.as rfl <| JO.nil <| J.ret1 rfl (.tmp rfl) fun W' iE iP => ?_
    congr 1
    have hne : (dig x).length ≠ (dig y).length := by omega
    rcases Nat.lt_or_gt_of_ne hne with hl | hl
    · have := lt_of_len hl
      rw [cmpI, cmpI, if_pos (by omega), if_pos (by omega)]
    · have := lt_of_len hl
      rw [cmpI, cmpI, if_neg (by omega), if_pos (by omega), if_neg (by omega), if_pos (by omega)]
  · skip
    refine J.skip <| J.seq <| J.seq <| J.reg rfl <| O.mv rfl <| O.len rfl <| O.sb rfl rfl (wI (by omega)) <| O.as rfl <| JO.nil <| J.block <| ?_
    refine J.loop (α := Nat) (fun k => [(0, .slice p m c), (1, .slice q m' c'), (5, .int .i64 ((k : Int) - 1))]) (fun k W' => Le W0 W' ∧ k ≤ m ∧ (dig x).drop k = (dig y).drop k) (fun k => k) m ⟨rfl, rfl, rfl, trivial⟩ ⟨inferInstance, Nat.le_refl _, by rw [List.drop_eq_nil_of_le (by omega), List.drop_eq_nil_of_le (by omega)]⟩ ?_
    rintro k W3 ⟨_, hk, hd⟩
    refine J.seq <| J.seq <| J.reg rfl <| O.mv rfl <| O.ge rfl rfl <| JO.nil <| J.condD rfl (fun h20 => ?_) (fun h20 => ?_)
    · skip
      obtain ⟨u, hu⟩ := xat (l := dig x) (k := k - 1) (by omega)
      obtain ⟨v, hv⟩ := xat (l := dig y) (k := k - 1) (by omega)
      obtain ⟨b1, o1, rfl, hj1, hw1⟩ := h.word hu
      obtain ⟨b2, o2, rfl, hj2, hw2⟩ := h'.word hv
      refine J.skip <| J.seq <| J.block <| J.seq <| ?_
      refine J.draw [.ex _, .ex _, .ex _, .ex _, .ex _, .ex _, .ex _, .ex _, .ex _] rfl rfl ⟨fun W1 i1 e1 _ => O.mv rfl <| D.ex, fun W1 i1 e1 _ => O.mv rfl <| D.ex, fun W1 i1 e1 _ => O.ia (j := k - 1) rfl rfl (by omega) hj1 <| D.ex, fun W1 i1 e1 _ => O.ldC rfl (hw1 _ Lf.s) <| D.ex, fun W1 i1 e1 _ => O.mv rfl <| D.ex, fun W1 i1 e1 _ => O.mv rfl <| D.ex, fun W1 i1 e1 _ => O.ia (j := k - 1) rfl rfl (by omega) hj2 <| D.ex, fun W1 i1 e1 _ => O.ldC rfl (hw2 _ Lf.s) <| D.ex, fun W1 i1 e1 _ => O.ne rfl rfl <| D.ex, trivial⟩ ?_
      intro W1 i1 e1
      refine JO.nil <| J.condD rfl (fun h31 => ?_) (fun h31 => ?_)
      · skip
        refine J.seq <| ?_
        refine J.draw [.ex _, .ex _, .ex _, .ex _, .ex _, .ex _, .ex _, .ex _] rfl rfl ⟨fun W1 i1 e1 _ => O.mv rfl <| D.ex, fun W1 i1 e1 _ => O.mv rfl <| D.ex, fun W1 i1 e1 _ => O.ia (j := k - 1) rfl rfl (by omega) hj1 <| D.ex, fun W1 i1 e1 _ => O.ldC rfl (hw1 _ Lf.s) <| D.ex, fun W1 i1 e1 _ => O.mv rfl <| D.ex, fun W1 i1 e1 _ => O.mv rfl <| D.ex, fun W1 i1 e1 _ => O.ia (j := k - 1) rfl rfl (by omega) hj2 <| D.ex, fun W1 i1 e1 _ => O.ldC rfl (hw2 _ Lf.s) <| D.ex, trivial⟩ ?_
        intro W1 i1 e1
        refine O.call rfl (cmp_Compare_u32_ok _ _) fun W5 v5 i5 e5 h5 => ?_
        subst h5
        refine O.as rfl <| JO.nil <| J.ret1 rfl (.tmp rfl) fun W' iE iP => ?_
        congr 1
        have hne : u ≠ v := by omega
        have hd' : (dig x).drop (k - 1 + 1) = (dig y).drop (k - 1 + 1) := by rw [show k - 1 + 1 = k from by omega]; exact hd
        rcases Nat.lt_or_gt_of_ne hne with hl | hl
        · have := lt_top (words_dig x) (by omega) (by omega) hu hv hd' hl
          rw [val_dig, val_dig] at this
          rw [cmpI, cmpI, if_pos (by omega), if_pos (by omega)]
        · have := lt_top (words_dig y) (by omega) (by omega) hv hu hd'.symm hl
          rw [val_dig, val_dig] at this
          rw [cmpI, cmpI, if_neg (by omega), if_pos (by omega), if_neg (by omega), if_pos (by omega)]
      · skip
        refine J.skip <| J.bend <| J.reg rfl <| O.mv rfl <| O.sb rfl rfl (wI (by omega)) <| O.as rfl <| JO.nil <| ?_
        have huv : u = v := by omega
        have hd2 : (dig x).drop (k - 1) = (dig y).drop (k - 1) := by
          rw [List.drop_eq_getElem_cons (l := dig x) (i := k - 1) (by omega), List.drop_eq_getElem_cons (l := dig y) (i := k - 1) (by omega), show k - 1 + 1 = k from by omega, hd]
          rw [List.getElem?_eq_getElem (by omega)] at hu hv
          injection hu with hu
          injection hv with hv
          rw [hu, hv, huv]
        exact J.at' (k - 1) ⟨rfl, rfl, by rw [show ((k - 1 : Nat) : Int) = (k : Int) - 1 from by omega]; rfl, trivial⟩ ⟨⟨inferInstance, by omega, hd2⟩, by omega⟩
    · skip
      refine J.exit rfl <| J.seq <| J.reg rfl <| O.as rfl <| JO.nil <| J.ret1 rfl (.tmp rfl) fun W' iE iP => ?_
      have hk0 : k = 0 := by omega
      rw [hk0, List.drop_zero, List.drop_zero] at hd
      have hxy : x = y := by rw [← val_dig x, hd, val_dig]
      rw [hxy, cmpI, if_neg (by omega), if_neg (by omega)]
end Go.Proofs.YtcobdnnfmhfenaaGreat
