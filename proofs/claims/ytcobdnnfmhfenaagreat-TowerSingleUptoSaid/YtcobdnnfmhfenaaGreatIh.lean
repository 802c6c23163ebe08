/- The program's integers: contracts: GCD, DivMod, Valid. -/
import Derived.Test.YtcobdnnfmhfenaaGreatIg
import Derived.Test.YtcobdnnfmhfenaaGreatRl
set_option linter.unusedVariables false
set_option linter.unusedSimpArgs false
set_option maxRecDepth 10000
set_option maxHeartbeats 4000000
namespace Go.Proofs.YtcobdnnfmhfenaaGreat
open Go Go.Rx Go.Num

section
variable {P : Program} {n : Nat} {l : List Oper} {K : List Kt} {fin : Exit → Act → World → Prop} {env : Env} {W : GW}
theorem yielded_undef {L : List Oper} {a : Act} {j t : Nat} (ha : Rel n env a) (ho : dstAt L j = some t) (hv : Rx.look env t = some undef) : yielded L.toArray a.tmps j = none := by
  rw [dstAt_eq] at ho
  have h1 := ha.has t _ hv
  simp only [Array.getD] at h1
  split at h1
  · rename_i hlt
    have h2 : a.tmps[t]? = some undef := by
      rw [Array.getElem?_eq_getElem hlt]
      exact congrArg some h1
    simp [yielded, ho, h2, undef]
  · rename_i hlt
    have h2 : a.tmps[t]? = none := Array.getElem?_eq_none (Nat.le_of_not_lt hlt)
    simp [yielded, ho, h2]
/-- an operation whose guard was itself passed over -/
theorem O.gu {L : List Oper} {d : Nat} {op : Op} {ty : TypeId} {pos : String} {aft : Array Edge} {j t : Nat} {b : Bool}
    (ho : dstAt L j = some t) (hv : Rx.look env t = some undef) (k : JO P n L.toArray l K fin ((d, undef) :: env) W) :
    JO P n L.toArray (⟨some d, op, ty, pos, aft, some (j, b)⟩ :: l) K fin env W := by
  intro hok a ha
  have hy := yielded_undef ha ho hv
  have hw : Region.wanted ⟨some d, op, ty, pos, aft, some (j, b)⟩ (yielded L.toArray a.tmps) = false := by
    simp only [Region.wanted, hy]
    rfl
  simp only [wpL, hw, Bool.false_eq_true, if_false]
  exact k (JO.unok hok) _ (ha.put (JO.dst hok) undef)
end
theorem dig_lt2 {n : Nat} (h : (dig n).length ≤ 2) : n < 18446744073709551616 := by
  have := dig_ub n
  have h1 : 4294967296 ^ (dig n).length ≤ 4294967296 ^ 2 := Nat.pow_le_pow_right (by decide) h
  omega
theorem sg_false (n : Nat) : sg false n = (n : Int) := rfl
/-- GCD -/
theorem integer_GCD_ok {W : GW} {v v' : Value} {z z' : Int} (h : V RI W v (ci z)) (h' : V RI W v' (ci z')) (hl : (dig z.natAbs).length ≤ 1099511627776) (hl' : (dig z'.natAbs).length ≤ 1099511627776) :
    Ok Tryz.prog 72 [v, v'] W fun W' r => V RI W' r (ci (Int.gcd z z' : Int)) := by
  obtain ⟨p, m, c, rfl, hs⟩ := unI h
  obtain ⟨p', m', c', rfl, hs'⟩ := unI h'
  refine Ok.enter Tryz.func72 rfl rfl rfl rfl fun W0 iEn => ?_
  refine J.seq <| J.reg rfl <| O.box rfl fun W1 b1 i1 hb1 => O.box rfl fun W2 b2 i2 hb2 => O.alloc fun W3 b3 i3 hl3 hc3 hb3 => JO.nil <| J.seq <| ?_
  refine J.draw [.ex _, .ex _, .rel _, .ex _, .ex _, .rel _] rfl rfl ⟨fun W1 i1 e1 _ => O.fa rfl <| D.ex, fun W1 i1 e1 _ => O.ldB rfl hb1.to rfl <| D.ex, fun W1 i1 e1 _ => O.call rfl (integer_trimd_ok hs.to) fun W5 v5 i5 e5 h5 => D.rel e5 h5 V.me, fun W1 i1 e1 _ => O.fa rfl <| D.ex, fun W1 i1 e1 _ => O.ldB rfl hb2.to rfl <| D.ex, fun W1 i1 e1 _ => fun v13 h13 => O.call rfl (integer_trimd_ok hs'.to) fun W5 v5 i5 e5 h5 => D.rel e5 h5 V.me, trivial⟩ ?_
  intro W1 i1 e1 v13 h13 v16 h16
  obtain ⟨px, mx, cx, rfl, hsx⟩ := h13.sl
  obtain ⟨py, my, cy, rfl, hsy⟩ := h16.sl
  refine O.as rfl <| O.as rfl <| JO.nil <| J.seq <| ?_
  refine J.cut (α := (Option Addr × Nat × Nat × Nat) × Option Addr × Nat × Nat × Nat) (fun q => [(4, .pointer (some ⟨b3, 0, none⟩)), (5, .slice q.1.1 q.1.2.1 q.1.2.2.1), (6, .slice q.2.1 q.2.2.1 q.2.2.2.1)]) (fun q W => Lk W3 W ∧ Le W0 W ∧ Sl RW W q.1.1 q.1.2.1 q.1.2.2.1 (dig q.1.2.2.2) ∧ Sl RW W q.2.1 q.2.2.1 q.2.2.2.1 (dig q.2.2.2.2) ∧ Nat.gcd q.1.2.2.2 q.2.2.2.2 = Int.gcd z z' ∧ (dig q.1.2.2.2).length ≤ 1099511627776 ∧ (dig q.2.2.2.2).length ≤ 1099511627776 ∧ (dig q.2.2.2.2).length ≤ 2 ∧ ((dig q.1.2.2.2).length ≤ 2 ∨ q.2.2.2.2 = 0)) ?_ ?_
  · skip
    refine J.block <| ?_
    refine J.loop (α := (Option Addr × Nat × Nat × Nat) × Option Addr × Nat × Nat × Nat) (fun q => [(4, .pointer (some ⟨b3, 0, none⟩)), (5, .slice q.1.1 q.1.2.1 q.1.2.2.1), (6, .slice q.2.1 q.2.2.1 q.2.2.2.1)]) (fun q W => Lk W3 W ∧ Le W0 W ∧ Sl RW W q.1.1 q.1.2.1 q.1.2.2.1 (dig q.1.2.2.2) ∧ Sl RW W q.2.1 q.2.2.1 q.2.2.2.1 (dig q.2.2.2.2) ∧ Nat.gcd q.1.2.2.2 q.2.2.2.2 = Int.gcd z z' ∧ (dig q.1.2.2.2).length ≤ 1099511627776 ∧ (dig q.2.2.2.2).length ≤ 1099511627776) (fun q => q.2.2.2.2) ((px, mx, cx, z.natAbs), py, my, cy, z'.natAbs) ⟨rfl, rfl, rfl, trivial⟩ ⟨inferInstance, inferInstance, hsx.to, hsy.to, rfl, hl, hl'⟩ ?_
    rintro ⟨⟨p1, n1, c1, x1⟩, p2, n2, c2, x2⟩ W4 ⟨iL, _, h1, h2, hg, hx1, hx2⟩
    dsimp only at *
    have hn1 := h1.hn
    have hn2 := h2.hn
    have hz2 := @dig_len0 x2
    refine J.seq <| J.seq <| J.reg rfl <| O.mv rfl <| O.len rfl <| O.gtr rfl rfl <| O.mv rfl <| ?_
    by_cases hg20 : 2 < n2
    · skip
      refine O.set (t := 20) (.bool true) rfl (by simp only [Value.bool.injEq, decide_eq_true_eq, decide_eq_false_iff_not]; omega) <| O.gs rfl rfl rfl <| O.gs rfl rfl rfl <| O.gs rfl rfl rfl <| O.gs rfl rfl rfl <| O.gu rfl rfl <| O.gu rfl rfl <| O.gu rfl rfl <| O.gs rfl rfl rfl <| O.pickT rfl rfl <| JO.nil <| J.condT rfl <| ?_
      have hx20 : x2 ≠ 0 := fun e => by have := hz2.2 e; omega
      refine J.skip <| J.block <| J.seq <| J.reg rfl <| O.mv rfl <| O.mv rfl <| O.call rfl (integer_divide_ok h1.to h2.to hx1 hx2 hx20) fun W5 v5 i5 e5 h5 => ?_
      obtain ⟨v6, v7, rfl, h6, h7⟩ := h5
      obtain ⟨p6, m6, c6, rfl, s6⟩ := h6.sl
      obtain ⟨p7, m7, c7, rfl, s7⟩ := h7.sl
      have hlt := Nat.mod_lt x1 (Nat.pos_of_ne_zero hx20)
      refine O.mv rfl <| O.ext rfl rfl <| O.ext rfl rfl <| O.as rfl <| O.as rfl <| JO.nil <| J.reg rfl <| O.mv rfl <| O.mv rfl <| O.as rfl <| O.as rfl <| JO.nil <| J.bend <| ?_
      exact J.at' ((p2, n2, c2, x2), p7, m7, c7, x1 % x2) ⟨rfl, rfl, rfl, trivial⟩ ⟨⟨inferInstance, inferInstance, h2.to, s7.to, by rw [← hg]; show Nat.gcd x2 (x1 % x2) = _; rw [Nat.gcd_comm x2, ← Nat.gcd_rec, Nat.gcd_comm], hx2, Nat.le_trans (len_mono (Nat.le_of_lt hlt)) hx2⟩, hlt⟩
    · skip
      refine O.set (t := 20) (.bool false) rfl (by simp only [Value.bool.injEq, decide_eq_true_eq, decide_eq_false_iff_not]; omega) <| O.gt rfl rfl <| O.mv rfl <| O.gt rfl rfl <| O.len rfl <| O.gt rfl rfl <| O.gtr rfl rfl <| O.gt rfl rfl <| O.mv rfl <| ?_
      by_cases hg24 : 2 < n1
      · skip
        refine O.set (t := 24) (.bool true) rfl (by simp only [Value.bool.injEq, decide_eq_true_eq, decide_eq_false_iff_not]; omega) <| O.gt rfl rfl <| O.mv rfl <| O.gt rfl rfl <| O.len rfl <| O.gt rfl rfl <| O.gtr rfl rfl <| O.gt rfl rfl <| O.pickT rfl rfl <| O.pickF rfl rfl <| JO.nil <| J.condD rfl (fun h29 => ?_) (fun h29 => ?_)
        · skip
          have hx20 : x2 ≠ 0 := fun e => by have := hz2.2 e; omega
          refine J.skip <| J.block <| J.seq <| J.reg rfl <| O.mv rfl <| O.mv rfl <| O.call rfl (integer_divide_ok h1.to h2.to hx1 hx2 hx20) fun W5 v5 i5 e5 h5 => ?_
          obtain ⟨v6, v7, rfl, h6, h7⟩ := h5
          obtain ⟨p6, m6, c6, rfl, s6⟩ := h6.sl
          obtain ⟨p7, m7, c7, rfl, s7⟩ := h7.sl
          have hlt := Nat.mod_lt x1 (Nat.pos_of_ne_zero hx20)
          refine O.mv rfl <| O.ext rfl rfl <| O.ext rfl rfl <| O.as rfl <| O.as rfl <| JO.nil <| J.reg rfl <| O.mv rfl <| O.mv rfl <| O.as rfl <| O.as rfl <| JO.nil <| J.bend <| ?_
          exact J.at' ((p2, n2, c2, x2), p7, m7, c7, x1 % x2) ⟨rfl, rfl, rfl, trivial⟩ ⟨⟨inferInstance, inferInstance, h2.to, s7.to, by rw [← hg]; show Nat.gcd x2 (x1 % x2) = _; rw [Nat.gcd_comm x2, ← Nat.gcd_rec, Nat.gcd_comm], hx2, Nat.le_trans (len_mono (Nat.le_of_lt hlt)) hx2⟩, hlt⟩
        · skip
          refine J.exit rfl <| ?_
          exact J.at' ((p1, n1, c1, x1), p2, n2, c2, x2) ⟨rfl, rfl, rfl, trivial⟩ ⟨inferInstance, inferInstance, h1, h2, hg, hx1, hx2, by show (dig x2).length ≤ 2; omega, by show (dig x1).length ≤ 2 ∨ x2 = 0; omega⟩
      · skip
        refine O.set (t := 24) (.bool false) rfl (by simp only [Value.bool.injEq, decide_eq_true_eq, decide_eq_false_iff_not]; omega) <| O.gs rfl rfl rfl <| O.gs rfl rfl rfl <| O.gs rfl rfl rfl <| O.gt rfl rfl <| O.pickF rfl rfl <| O.pickF rfl rfl <| JO.nil <| J.condF rfl <| J.exit rfl <| ?_
        exact J.at' ((p1, n1, c1, x1), p2, n2, c2, x2) ⟨rfl, rfl, rfl, trivial⟩ ⟨inferInstance, inferInstance, h1, h2, hg, hx1, hx2, by show (dig x2).length ≤ 2; omega, by show (dig x1).length ≤ 2 ∨ x2 = 0; omega⟩
  · skip
    rintro ⟨⟨p1, n1, c1, x1⟩, p2, n2, c2, x2⟩ W4 ⟨iL, _, h1, h2, hg, hx1, hx2, hle2, hle1⟩
    dsimp only at *
    have hn1 := h1.hn
    have hn2 := h2.hn
    have hz2 := @dig_len0 x2
    refine J.seq <| J.seq <| J.reg rfl <| O.mv rfl <| O.len rfl <| O.eq rfl rfl <| JO.nil <| J.condD rfl (fun h40 => ?_) (fun h40 => ?_)
    · skip
      refine J.seq <| J.reg rfl <| O.mv rfl <| O.call rfl (clone_u32_ok h1.to (by omega)) fun W5 v5 i5 e5 h5 => ?_
      obtain ⟨p6, m6, c6, rfl, hs6⟩ := h5.sl
      refine O.call rfl (integer_signedd_ok false hs6.to) fun W6 v6 i6 e6 h6 => ?_
      obtain ⟨p4, m4, c4, rfl, hs4⟩ := unI h6
      refine O.st rfl rfl hl3.to rfl (by simp [oneC, Value.cells]) fun W4 i4 hc4 => JO.nil <| J.ret1 rfl (.cell rfl hc4 rfl) fun W' iE iP => ?_
      have h0 : x2 = 0 := hz2.1 (by omega)
      subst h0
      rw [Nat.gcd_zero_right] at hg
      rw [← hg, ← sg_false]
      exact mkI hs4.to
    · skip
      have hlt1 : x1 < 18446744073709551616 := dig_lt2 (by omega)
      have hlt2 : x2 < 18446744073709551616 := dig_lt2 (by omega)
      refine J.skip <| J.seq <| J.reg rfl <| O.mv rfl <| O.call rfl (integer_toUint_ok h1.to hlt1) fun W5 v5 i5 e5 h5 => ?_
      subst h5
      refine O.mv rfl <| O.call rfl (integer_toUint_ok h2.to hlt2) fun W6 v6 i6 e6 h6 => ?_
      subst h6
      refine O.as rfl <| O.as rfl <| JO.nil <| J.seq <| J.block <| ?_
      refine J.loop (α := Nat × Nat) (fun q => [(4, .pointer (some ⟨b3, 0, none⟩)), (9, .int .u64 (q.1 : Int)), (10, .int .u64 (q.2 : Int))]) (fun q W => Lk W3 W ∧ Le W0 W ∧ q.1 < 18446744073709551616 ∧ q.2 < 18446744073709551616 ∧ Nat.gcd q.1 q.2 = Int.gcd z z') (fun q => q.2) (x1, x2) ⟨rfl, rfl, rfl, trivial⟩ ⟨inferInstance, inferInstance, hlt1, hlt2, hg⟩ ?_
      rintro ⟨x, y⟩ W7 ⟨iL2, _, hx, hy, hg2⟩
      dsimp only at *
      refine J.seq <| J.seq <| J.reg rfl <| O.mv rfl <| O.ne rfl rfl <| JO.nil <| J.condD rfl (fun h49 => ?_) (fun h49 => ?_)
      · skip
        have hy0 : y ≠ 0 := by omega
        have hltm := Nat.mod_lt x (Nat.pos_of_ne_zero hy0)
        refine J.skip <| J.block <| ?_
        refine J.perm [[0, 1, 2, 3, 4, 5], [0, 1, 2, 4, 3, 5], [0, 1, 4, 2, 3, 5], [0, 2, 1, 3, 4, 5], [0, 2, 1, 4, 3, 5], [1, 0, 2, 3, 4, 5], [1, 0, 2, 4, 3, 5], [1, 0, 4, 2, 3, 5], [1, 2, 0, 3, 4, 5], [1, 2, 0, 4, 3, 5], [1, 2, 3, 0, 4, 5], [2, 0, 1, 3, 4, 5], [2, 0, 1, 4, 3, 5], [2, 1, 0, 3, 4, 5], [2, 1, 0, 4, 3, 5], [2, 1, 3, 0, 4, 5]] (by decide +kernel) rfl fun W1 i1 e1 => ⟨?_, ?_, ?_, ?_, ?_, ?_, ?_, ?_, ?_, ?_, ?_, ?_, ?_, ?_, ?_, ?_, trivial⟩
        · skip
          refine O.mv rfl <| O.mv rfl <| O.mv rfl <| O.rem (r := ((x % y : Nat) : Int)) rfl rfl (by omega) (trem x y) <| O.as rfl <| O.as rfl <| JO.nil <| J.bend <| ?_
          exact J.at' (y, x % y) ⟨rfl, rfl, rfl, trivial⟩ ⟨⟨inferInstance, inferInstance, hy, by show x % y < _; omega, by rw [← hg2]; show Nat.gcd y (x % y) = _; rw [Nat.gcd_comm y, ← Nat.gcd_rec, Nat.gcd_comm]⟩, hltm⟩
        · skip
          refine O.mv rfl <| O.mv rfl <| O.mv rfl <| O.as rfl <| O.rem (r := ((x % y : Nat) : Int)) rfl rfl (by omega) (trem x y) <| O.as rfl <| JO.nil <| J.bend <| ?_
          exact J.at' (y, x % y) ⟨rfl, rfl, rfl, trivial⟩ ⟨⟨inferInstance, inferInstance, hy, by show x % y < _; omega, by rw [← hg2]; show Nat.gcd y (x % y) = _; rw [Nat.gcd_comm y, ← Nat.gcd_rec, Nat.gcd_comm]⟩, hltm⟩
        · skip
          refine O.mv rfl <| O.mv rfl <| O.as rfl <| O.mv rfl <| O.rem (r := ((x % y : Nat) : Int)) rfl rfl (by omega) (trem x y) <| O.as rfl <| JO.nil <| J.bend <| ?_
          exact J.at' (y, x % y) ⟨rfl, rfl, rfl, trivial⟩ ⟨⟨inferInstance, inferInstance, hy, by show x % y < _; omega, by rw [← hg2]; show Nat.gcd y (x % y) = _; rw [Nat.gcd_comm y, ← Nat.gcd_rec, Nat.gcd_comm]⟩, hltm⟩
        · skip
          refine O.mv rfl <| O.mv rfl <| O.mv rfl <| O.rem (r := ((x % y : Nat) : Int)) rfl rfl (by omega) (trem x y) <| O.as rfl <| O.as rfl <| JO.nil <| J.bend <| ?_
          exact J.at' (y, x % y) ⟨rfl, rfl, rfl, trivial⟩ ⟨⟨inferInstance, inferInstance, hy, by show x % y < _; omega, by rw [← hg2]; show Nat.gcd y (x % y) = _; rw [Nat.gcd_comm y, ← Nat.gcd_rec, Nat.gcd_comm]⟩, hltm⟩
        · skip
          refine O.mv rfl <| O.mv rfl <| O.mv rfl <| O.as rfl <| O.rem (r := ((x % y : Nat) : Int)) rfl rfl (by omega) (trem x y) <| O.as rfl <| JO.nil <| J.bend <| ?_
          exact J.at' (y, x % y) ⟨rfl, rfl, rfl, trivial⟩ ⟨⟨inferInstance, inferInstance, hy, by show x % y < _; omega, by rw [← hg2]; show Nat.gcd y (x % y) = _; rw [Nat.gcd_comm y, ← Nat.gcd_rec, Nat.gcd_comm]⟩, hltm⟩
        · skip
          refine O.mv rfl <| O.mv rfl <| O.mv rfl <| O.rem (r := ((x % y : Nat) : Int)) rfl rfl (by omega) (trem x y) <| O.as rfl <| O.as rfl <| JO.nil <| J.bend <| ?_
          exact J.at' (y, x % y) ⟨rfl, rfl, rfl, trivial⟩ ⟨⟨inferInstance, inferInstance, hy, by show x % y < _; omega, by rw [← hg2]; show Nat.gcd y (x % y) = _; rw [Nat.gcd_comm y, ← Nat.gcd_rec, Nat.gcd_comm]⟩, hltm⟩
        · skip
          refine O.mv rfl <| O.mv rfl <| O.mv rfl <| O.as rfl <| O.rem (r := ((x % y : Nat) : Int)) rfl rfl (by omega) (trem x y) <| O.as rfl <| JO.nil <| J.bend <| ?_
          exact J.at' (y, x % y) ⟨rfl, rfl, rfl, trivial⟩ ⟨⟨inferInstance, inferInstance, hy, by show x % y < _; omega, by rw [← hg2]; show Nat.gcd y (x % y) = _; rw [Nat.gcd_comm y, ← Nat.gcd_rec, Nat.gcd_comm]⟩, hltm⟩
        · skip
          refine O.mv rfl <| O.mv rfl <| O.as rfl <| O.mv rfl <| O.rem (r := ((x % y : Nat) : Int)) rfl rfl (by omega) (trem x y) <| O.as rfl <| JO.nil <| J.bend <| ?_
          exact J.at' (y, x % y) ⟨rfl, rfl, rfl, trivial⟩ ⟨⟨inferInstance, inferInstance, hy, by show x % y < _; omega, by rw [← hg2]; show Nat.gcd y (x % y) = _; rw [Nat.gcd_comm y, ← Nat.gcd_rec, Nat.gcd_comm]⟩, hltm⟩
        · skip
          refine O.mv rfl <| O.mv rfl <| O.mv rfl <| O.rem (r := ((x % y : Nat) : Int)) rfl rfl (by omega) (trem x y) <| O.as rfl <| O.as rfl <| JO.nil <| J.bend <| ?_
          exact J.at' (y, x % y) ⟨rfl, rfl, rfl, trivial⟩ ⟨⟨inferInstance, inferInstance, hy, by show x % y < _; omega, by rw [← hg2]; show Nat.gcd y (x % y) = _; rw [Nat.gcd_comm y, ← Nat.gcd_rec, Nat.gcd_comm]⟩, hltm⟩
        · skip
          refine O.mv rfl <| O.mv rfl <| O.mv rfl <| O.as rfl <| O.rem (r := ((x % y : Nat) : Int)) rfl rfl (by omega) (trem x y) <| O.as rfl <| JO.nil <| J.bend <| ?_
          exact J.at' (y, x % y) ⟨rfl, rfl, rfl, trivial⟩ ⟨⟨inferInstance, inferInstance, hy, by show x % y < _; omega, by rw [← hg2]; show Nat.gcd y (x % y) = _; rw [Nat.gcd_comm y, ← Nat.gcd_rec, Nat.gcd_comm]⟩, hltm⟩
        · skip
          refine O.mv rfl <| O.mv rfl <| O.rem (r := ((x % y : Nat) : Int)) rfl rfl (by omega) (trem x y) <| O.mv rfl <| O.as rfl <| O.as rfl <| JO.nil <| J.bend <| ?_
          exact J.at' (y, x % y) ⟨rfl, rfl, rfl, trivial⟩ ⟨⟨inferInstance, inferInstance, hy, by show x % y < _; omega, by rw [← hg2]; show Nat.gcd y (x % y) = _; rw [Nat.gcd_comm y, ← Nat.gcd_rec, Nat.gcd_comm]⟩, hltm⟩
        · skip
          refine O.mv rfl <| O.mv rfl <| O.mv rfl <| O.rem (r := ((x % y : Nat) : Int)) rfl rfl (by omega) (trem x y) <| O.as rfl <| O.as rfl <| JO.nil <| J.bend <| ?_
          exact J.at' (y, x % y) ⟨rfl, rfl, rfl, trivial⟩ ⟨⟨inferInstance, inferInstance, hy, by show x % y < _; omega, by rw [← hg2]; show Nat.gcd y (x % y) = _; rw [Nat.gcd_comm y, ← Nat.gcd_rec, Nat.gcd_comm]⟩, hltm⟩
        · skip
          refine O.mv rfl <| O.mv rfl <| O.mv rfl <| O.as rfl <| O.rem (r := ((x % y : Nat) : Int)) rfl rfl (by omega) (trem x y) <| O.as rfl <| JO.nil <| J.bend <| ?_
          exact J.at' (y, x % y) ⟨rfl, rfl, rfl, trivial⟩ ⟨⟨inferInstance, inferInstance, hy, by show x % y < _; omega, by rw [← hg2]; show Nat.gcd y (x % y) = _; rw [Nat.gcd_comm y, ← Nat.gcd_rec, Nat.gcd_comm]⟩, hltm⟩
        · skip
          refine O.mv rfl <| O.mv rfl <| O.mv rfl <| O.rem (r := ((x % y : Nat) : Int)) rfl rfl (by omega) (trem x y) <| O.as rfl <| O.as rfl <| JO.nil <| J.bend <| ?_
          exact J.at' (y, x % y) ⟨rfl, rfl, rfl, trivial⟩ ⟨⟨inferInstance, inferInstance, hy, by show x % y < _; omega, by rw [← hg2]; show Nat.gcd y (x % y) = _; rw [Nat.gcd_comm y, ← Nat.gcd_rec, Nat.gcd_comm]⟩, hltm⟩
        · skip
          refine O.mv rfl <| O.mv rfl <| O.mv rfl <| O.as rfl <| O.rem (r := ((x % y : Nat) : Int)) rfl rfl (by omega) (trem x y) <| O.as rfl <| JO.nil <| J.bend <| ?_
          exact J.at' (y, x % y) ⟨rfl, rfl, rfl, trivial⟩ ⟨⟨inferInstance, inferInstance, hy, by show x % y < _; omega, by rw [← hg2]; show Nat.gcd y (x % y) = _; rw [Nat.gcd_comm y, ← Nat.gcd_rec, Nat.gcd_comm]⟩, hltm⟩
        · skip
          refine O.mv rfl <| O.mv rfl <| O.rem (r := ((x % y : Nat) : Int)) rfl rfl (by omega) (trem x y) <| O.mv rfl <| O.as rfl <| O.as rfl <| JO.nil <| J.bend <| ?_
          exact J.at' (y, x % y) ⟨rfl, rfl, rfl, trivial⟩ ⟨⟨inferInstance, inferInstance, hy, by show x % y < _; omega, by rw [← hg2]; show Nat.gcd y (x % y) = _; rw [Nat.gcd_comm y, ← Nat.gcd_rec, Nat.gcd_comm]⟩, hltm⟩
      · skip
        refine J.exit rfl <| J.seq <| J.reg rfl <| O.mv rfl <| O.call rfl (integer_fromUint_ok hx) fun W5 v5 i5 e5 h5 => ?_
        obtain ⟨p6, m6, c6, rfl, hs6⟩ := h5.sl
        refine O.call rfl (integer_signedd_ok false hs6.to) fun W6 v6 i6 e6 h6 => ?_
        obtain ⟨p4, m4, c4, rfl, hs4⟩ := unI h6
        refine O.st rfl rfl hl3.to rfl (by simp [oneC, Value.cells]) fun W4 i4 hc4 => JO.nil <| J.ret1 rfl (.cell rfl hc4 rfl) fun W' iE iP => ?_
        have h0 : y = 0 := by omega
        subst h0
        rw [Nat.gcd_zero_right] at hg2
        rw [← hg2, ← sg_false]
        exact mkI hs4.to
end Go.Proofs.YtcobdnnfmhfenaaGreat
