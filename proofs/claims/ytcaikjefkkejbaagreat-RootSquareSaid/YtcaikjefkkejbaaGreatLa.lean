/- Rational numbers: the program's and the reference's: contracts, first part. -/
import Derived.Test.YtcaikjefkkejbaaGreatKd
set_option linter.unusedVariables false
set_option linter.unusedSimpArgs false
set_option maxRecDepth 10000
set_option maxHeartbeats 1000000
namespace Go.Proofs.YtcaikjefkkejbaaGreat
open Go Go.Rx Go.Num
section
/-! sizes -/
theorem szl {n p : Nat} (h : n < 2 ^ p) (hp : p ≤ 17592186044416) : (dig n).length ≤ 1099511627776 := by
  have h1 : n < 4294967296 ^ (p / 32 + 1) := by
    rw [show 4294967296 = 2 ^ 32 from rfl, ← Nat.pow_mul]
    exact Nat.lt_of_lt_of_le h (Nat.pow_le_pow_right (by decide) (by omega))
  have := dig_len_le h1
  omega
/-- an integer of at most p bits -/
def Zs (p : Nat) (z : Int) : Prop := z.natAbs < 2 ^ p
theorem Zs.len {p : Nat} {z : Int} (h : Zs p z) (hp : p ≤ 17592186044416) : (dig z.natAbs).length ≤ 1099511627776 := szl h hp
theorem Zs.mono {p q : Nat} {z : Int} (h : Zs p z) (hp : p ≤ q) : Zs q z := Nat.lt_of_lt_of_le h (Nat.pow_le_pow_right (by decide) hp)
theorem Zs.mul {p q : Nat} {x y : Int} (h : Zs p x) (k : Zs q y) : Zs (p + q) (x * y) := by
  unfold Zs at *
  rw [Int.natAbs_mul, Nat.pow_add]
  exact Nat.mul_lt_mul'' h k
theorem Zs.add {p q : Nat} {x y : Int} (h : Zs p x) (k : Zs q y) : Zs (max p q + 1) (x + y) := by
  have h1 := h.mono (Nat.le_max_left p q)
  have h2 := k.mono (Nat.le_max_right p q)
  unfold Zs at *
  have := Int.natAbs_add_le x y
  rw [Nat.pow_succ]
  omega
theorem Zs.neg {p : Nat} {x : Int} (h : Zs p x) : Zs p (-x) := by
  unfold Zs at *
  rwa [Int.natAbs_neg]
theorem Zs.gcd {p : Nat} {x y : Int} (h : Zs p y) (h0 : y ≠ 0) : Zs p (Int.gcd x y : Int) := by
  unfold Zs at *
  have : Int.gcd x y ≤ y.natAbs := Nat.le_of_dvd (by omega) (Int.gcd_dvd_natAbs_right x y)
  omega
theorem Zs.one {p : Nat} (hp : 1 ≤ p) : Zs p 1 := Nat.lt_of_lt_of_le (by decide) (Nat.pow_le_pow_right (by decide) hp : 2 ^ 1 ≤ 2 ^ p)
theorem Zs.zero {p : Nat} : Zs p 0 := Nat.two_pow_pos p
/-- a rational number with a numerator and a denominator of at most p bits -/
structure Qs (p : Nat) (x : Rat) : Prop where
  n : Zs p x.num
  d : Zs p (x.den : Int)
theorem Qs.neg {p : Nat} {x : Rat} (h : Qs p x) : Qs p (-x) := ⟨by rw [Rat.neg_num]; exact h.n.neg, by rw [Rat.neg_den]; exact h.d⟩
/-! data -/
/-- A rational number as it lies in memory. -/
abbrev Raw := (Bool × List Nat) × (Bool × List Nat)
abbrev RQ : Rep Raw := RP RI RI
def cq (x : Rat) : Raw := (ci x.num, ci x.den)
theorem mkQ {W : GW} {a b : Bool × List Nat} {p1 p2 : Option Addr} {n1 c1 n2 c2 : Nat} (h1 : Sl RW W p1 n1 c1 a.2) (h2 : Sl RW W p2 n2 c2 b.2) : V RQ W (.agg #[.bool a.1, .slice p1 n1 c1, .bool b.1, .slice p2 n2 c2]) (a, b) :=
  ⟨_, ⟨[.bool a.1, .slice p1 n1 c1], [.bool b.1, .slice p2 n2 c2], rfl, ⟨[.bool a.1], [.slice p1 n1 c1], rfl, rfl, ⟨p1, n1, c1, rfl, h1⟩⟩, ⟨[.bool b.1], [.slice p2 n2 c2], rfl, rfl, ⟨p2, n2, c2, rfl, h2⟩⟩⟩, rfl⟩
theorem unQ {W : GW} {v : Value} {i : Raw} (h : V RQ W v i) : ∃ p1 n1 c1 p2 n2 c2, v = .agg #[.bool i.1.1, .slice p1 n1 c1, .bool i.2.1, .slice p2 n2 c2] ∧ Sl RW W p1 n1 c1 i.1.2 ∧ Sl RW W p2 n2 c2 i.2.2 := by
  obtain ⟨k1, k2, rfl, ⟨e1, e2, rfl, h1, p1, n1, c1, h2, h3⟩, ⟨f1, f2, rfl, g1, p2, n2, c2, g2, g3⟩⟩ := h.pair
  obtain rfl : e1 = [.bool i.1.1] := h1
  obtain rfl : f1 = [.bool i.2.1] := g1
  subst h2
  subst g2
  exact ⟨p1, n1, c1, p2, n2, c2, rfl, h3, g3⟩
theorem ci_inj {x y : Int} (h : ci x = ci y) : x = y := by
  have h1 : decide (x < 0) = decide (y < 0) := (Prod.mk.inj h).1
  have h2 : dig x.natAbs = dig y.natAbs := (Prod.mk.inj h).2
  have h3 : x.natAbs = y.natAbs := by rw [← val_dig x.natAbs, h2, val_dig]
  have h4 : x < 0 ↔ y < 0 := by
    constructor <;> intro h5
    · have := decide_eq_true h5; rw [h1] at this; exact of_decide_eq_true this
    · have := decide_eq_true h5; rw [← h1] at this; exact of_decide_eq_true this
  omega
theorem cq_inj {x y : Rat} (h : cq x = cq y) : x = y := by
  have h1 := ci_inj (Prod.mk.inj h).1
  have h2 := ci_inj (Prod.mk.inj h).2
  exact Rat.ext h1 (by exact_mod_cast h2)
/-! small functions -/
theorem rational_one_ok {W : GW} : Ok Tryz.prog 96 [] W fun W' r => V RI W' r (ci 1) := by
  refine Ok.enter Tryz.func96 rfl rfl rfl rfl fun W0 iEn => ?_
  refine J.seq <| J.reg rfl <| O.alloc fun W1 b1 i1 hl1 hc1 hb1 => JO.nil <| J.seq <| J.reg rfl <| O.call rfl (integer_FromInt_ok (z := 1) (by decide)) fun W2 v2 i2 e2 h2 => ?_
  obtain ⟨p2, m2, c2, rfl, hs2⟩ := unI h2
  refine O.st rfl rfl hl1.to rfl (by simp [oneC, Value.cells]) fun W4 i4 hc4 => JO.nil <| J.ret1 rfl (.cell rfl hc4 rfl) fun W' iE iP => ?_
  exact mkI hs2.to
theorem dig_one : dig 1 = [1] := (dig_val (l := [1]) (fun x hx => by simp at hx; subst hx; decide) (.inr ⟨1, rfl, by decide⟩)).symm ▸ rfl
theorem one_iff {z : Int} : (dig z.natAbs = [1] ∧ ¬ z < 0) ↔ z = 1 := by
  constructor
  · rintro ⟨h1, h2⟩
    have : z.natAbs = 1 := by rw [← val_dig z.natAbs, h1]; rfl
    omega
  · rintro rfl
    exact ⟨dig_one, by decide⟩
theorem len1 {l : List Nat} {u : Nat} (h : l.length = 1) (hu : l[0]? = some u) : l = [u] := by
  match l, h with
  | [x], _ => simp at hu; rw [hu]
theorem rational_isOne_ok {W : GW} {v : Value} {z : Int} (h : V RI W v (ci z)) : Ok Tryz.prog 127 [v] W fun W' r => r = .bool (decide (z = 1)) := by
  obtain ⟨p, m, c, rfl, hs⟩ := unI h
  replace hs : Sl RW W p m c (dig z.natAbs) := hs
  have hn := hs.hn
  have h1 := @one_iff z
  refine Ok.enter Tryz.func127 rfl rfl rfl rfl fun W0 iEn => ?_
  refine J.seq <| J.reg rfl <| O.box rfl fun W1 b1 i1 hb1 => O.as rfl <| JO.nil <| J.seq <| J.reg rfl <| O.fa rfl <| O.ldB rfl hb1.to rfl <| O.not rfl <| O.mv rfl <| ?_
  by_cases hg6 : ¬ z < 0
  · skip
    refine O.set (t := 6) (.bool true) rfl (by simp [ci, hg6]) <| O.gt rfl rfl <| O.fa rfl <| O.gt rfl rfl <| O.ldB rfl hb1.to rfl <| O.gt rfl rfl <| O.len rfl <| O.gt rfl rfl <| O.eq rfl rfl <| O.pickT rfl rfl <| O.mv rfl <| ?_
    by_cases hg12 : m = 1
    · skip
      refine O.set (t := 12) (.bool true) rfl (by simp only [Value.bool.injEq, decide_eq_true_eq, decide_eq_false_iff_not]; omega) <| O.gt rfl rfl <| O.fa rfl <| O.gt rfl rfl <| O.ldB rfl hb1.to rfl <| O.gt rfl rfl <| ?_
      obtain ⟨x, hx⟩ := xat (l := dig z.natAbs) (k := 0) (by omega)
      refine O.iaW (j := 0) rfl rfl rfl hs.to hx fun ba oa hcell => O.gt rfl rfl <| O.ldC rfl hcell <| O.gt rfl rfl <| O.eq rfl rfl <| O.pickT rfl rfl <| O.as rfl <| JO.nil <| J.ret1 rfl (.tmp rfl) fun W' iE iP => ?_
      have h2 := len1 (by omega) hx
      congr 1
      apply decide_eq_decide.2
      rw [← h1, h2]
      constructor
      · intro h3; exact ⟨by rw [show x = 1 from by omega], hg6⟩
      · rintro ⟨h3, _⟩; simp at h3; omega
    · skip
      refine O.set (t := 12) (.bool false) rfl (by simp only [Value.bool.injEq, decide_eq_true_eq, decide_eq_false_iff_not]; omega) <| O.gs rfl rfl rfl <| O.gs rfl rfl rfl <| O.gs rfl rfl rfl <| O.gs rfl rfl rfl <| O.gs rfl rfl rfl <| O.pickF rfl rfl <| O.as rfl <| JO.nil <| J.ret1 rfl (.tmp rfl) fun W' iE iP => ?_
      congr 1
      refine (decide_eq_false fun h3 => hg12 ?_).symm
      rw [hn, (h1.2 h3).1]; rfl
  · skip
    refine O.set (t := 6) (.bool false) rfl ((by have h6 : z < 0 := Classical.not_not.1 hg6; simp [ci, h6])) <| O.gs rfl rfl rfl <| O.gs rfl rfl rfl <| O.gs rfl rfl rfl <| O.gs rfl rfl rfl <| O.pickF rfl rfl <| O.mv rfl <| O.gs rfl rfl rfl <| O.gs rfl rfl rfl <| O.gs rfl rfl rfl <| O.gs rfl rfl rfl <| O.gs rfl rfl rfl <| O.pickF rfl rfl <| O.as rfl <| JO.nil <| J.ret1 rfl (.tmp rfl) fun W' iE iP => ?_
    congr 1
    refine (decide_eq_false fun h3 => hg6 ?_).symm
    omega
theorem ref02_one_ok {W : GW} {v : Value} {z : Int} (h : V RI W v (ci z)) : Ok Tryz.prog 70 [v] W fun W' r => r = .bool (decide (z = 1)) := by
  obtain ⟨p, m, c, rfl, hs⟩ := unI h
  replace hs : Sl RW W p m c (dig z.natAbs) := hs
  have hn := hs.hn
  have h1 := @one_iff z
  refine Ok.enter Tryz.func70 rfl rfl rfl rfl fun W0 iEn => ?_
  refine J.seq <| J.reg rfl <| O.box rfl fun W1 b1 i1 hb1 => O.as rfl <| JO.nil <| J.seq <| J.reg rfl <| O.fa rfl <| O.ldB rfl hb1.to rfl <| O.len rfl <| O.eq rfl rfl <| O.mv rfl <| ?_
  by_cases hg7 : m = 1
  · skip
    refine O.set (t := 7) (.bool true) rfl (by simp only [Value.bool.injEq, decide_eq_true_eq, decide_eq_false_iff_not]; omega) <| O.gt rfl rfl <| O.fa rfl <| O.gt rfl rfl <| O.ldB rfl hb1.to rfl <| O.gt rfl rfl <| ?_
    obtain ⟨x, hx⟩ := xat (l := dig z.natAbs) (k := 0) (by omega)
    refine O.iaW (j := 0) rfl rfl rfl hs.to hx fun ba oa hcell => O.gt rfl rfl <| O.ldC rfl hcell <| O.gt rfl rfl <| O.eq rfl rfl <| O.pickT rfl rfl <| O.mv rfl <| ?_
    by_cases hg14 : x = 1
    · skip
      refine O.set (t := 14) (.bool true) rfl (by simp only [Value.bool.injEq, decide_eq_true_eq, decide_eq_false_iff_not]; omega) <| O.gt rfl rfl <| O.fa rfl <| O.gt rfl rfl <| O.ldB rfl hb1.to rfl <| O.gt rfl rfl <| O.not rfl <| O.pickT rfl rfl <| O.as rfl <| JO.nil <| J.ret1 rfl (.tmp rfl) fun W' iE iP => ?_
      have h2 := len1 (by omega) hx
      rw [hg14] at h2
      congr 1
      rw [show (ci z).1 = decide (z < 0) from rfl]
      rw [← decide_not]
      apply decide_eq_decide.2
      rw [← h1, h2]
      simp
    · skip
      refine O.set (t := 14) (.bool false) rfl (by simp only [Value.bool.injEq, decide_eq_true_eq, decide_eq_false_iff_not]; omega) <| O.gs rfl rfl rfl <| O.gs rfl rfl rfl <| O.gs rfl rfl rfl <| O.pickF rfl rfl <| O.as rfl <| JO.nil <| J.ret1 rfl (.tmp rfl) fun W' iE iP => ?_
      have h2 := len1 (by omega) hx
      congr 1
      refine (decide_eq_false fun h3 => hg14 ?_).symm
      have := (h1.2 h3).1
      rw [h2] at this
      simpa using this
  · skip
    refine O.set (t := 7) (.bool false) rfl (by simp only [Value.bool.injEq, decide_eq_true_eq, decide_eq_false_iff_not]; omega) <| O.gs rfl rfl rfl <| O.gs rfl rfl rfl <| O.gs rfl rfl rfl <| O.gs rfl rfl rfl <| O.gs rfl rfl rfl <| O.pickF rfl rfl <| O.mv rfl <| O.gs rfl rfl rfl <| O.gs rfl rfl rfl <| O.gs rfl rfl rfl <| O.pickF rfl rfl <| O.as rfl <| JO.nil <| J.ret1 rfl (.tmp rfl) fun W' iE iP => ?_
    congr 1
    refine (decide_eq_false fun h3 => hg7 ?_).symm
    rw [hn, (h1.2 h3).1]; rfl
theorem rational_isZero_ok {W : GW} {v : Value} {z : Int} (h : V RI W v (ci z)) : Ok Tryz.prog 163 [v] W fun W' r => r = .bool (decide (z = 0)) := by
  obtain ⟨p, m, c, rfl, hs⟩ := unI h
  have hn : m = (dig z.natAbs).length := hs.hn
  have hz := @dig_len0 z.natAbs
  refine Ok.enter Tryz.func163 rfl rfl rfl rfl fun W0 iEn => ?_
  refine J.seq <| J.reg rfl <| O.box rfl fun W1 b1 i1 hb1 => O.as rfl <| JO.nil <| J.seq <| J.reg rfl <| O.fa rfl <| O.ldB rfl hb1.to rfl <| O.len rfl <| O.eq rfl rfl <| O.as rfl <| JO.nil <| J.ret1 rfl (.tmp rfl) fun W' iE iP => ?_
  congr 1
  apply decide_eq_decide.2
  omega
theorem fdiv_one (a : Int) : a.fdiv 1 = a := by rw [Int.fdiv_eq_ediv_of_nonneg _ (by decide), Int.ediv_one]
theorem rational_quo_ok {W : GW} {v v' : Value} {z z' : Int} (h : V RI W v (ci z)) (h' : V RI W v' (ci z')) (hl : (dig z.natAbs).length ≤ 1099511627776) (hl' : (dig z'.natAbs).length ≤ 1099511627776) (hz0 : z' ≠ 0) :
    Ok Tryz.prog 155 [v, v'] W fun W' r => V RI W' r (ci (z.fdiv z')) := by
  obtain ⟨p, m, c, rfl, hs⟩ := unI h
  obtain ⟨p', m', c', rfl, hs'⟩ := unI h'
  refine Ok.enter Tryz.func155 rfl rfl rfl rfl fun W0 iEn => ?_
  refine J.seq <| J.reg rfl <| O.box rfl fun W1 b1 i1 hb1 => O.box rfl fun W2 b2 i2 hb2 => O.alloc fun W3 b3 i3 hl3 hc3 hb3 => JO.nil <| J.seq <| J.seq <| J.reg rfl <| O.ldBw rfl hb2.to rfl <| O.call rfl (rational_isOne_ok (mkI hs'.to)) fun W4 v4 i4 e4 h4 => ?_
  subst h4
  refine JO.nil <| J.condD rfl (fun h9 => ?_) (fun h9 => ?_)
  · skip
    refine J.seq <| J.reg rfl <| O.ldBw rfl hb1.to rfl <| O.st rfl rfl hl3.to rfl (by simp [oneC, Value.cells]) fun W5 i5 hc5 => JO.nil <| J.ret1 rfl (.cell rfl hc5 rfl) fun W' iE iP => ?_
    rw [h9, fdiv_one]
    exact mkI hs.to
  · skip
    refine J.skip <| J.seq <| J.reg rfl <| O.ldBw rfl hb1.to rfl <| O.ldBw rfl hb2.to rfl <| O.call rfl (integer_DivMod_ok (mkI hs.to) (mkI hs'.to) hl hl' hz0) fun W5 v5 i5 e5 h5 => ?_
    obtain ⟨v6, v7, rfl, h6, h7⟩ := h5
    obtain ⟨p6, m6, c6, rfl, s6⟩ := unI h6
    obtain ⟨p7, m7, c7, rfl, s7⟩ := unI h7
    refine O.mv rfl <| O.ext rfl rfl <| O.ext rfl rfl <| O.ext rfl rfl <| O.alloc fun W6 b6 i6 hl6 hc6 hb6 => O.alloc fun W7 b7 i7 hl7 hc7 hb7 => ?_
    skip
    refine O.st rfl rfl hl6.to rfl (by simp [oneC, Value.cells]) fun W8 i8 hc8 => O.stC rfl rfl hl7.to rfl (by simp [oneC, Value.cells]) hc8 (by have : W6.size ≤ b7 := hb7; obtain ⟨_, hx⟩ := hc6; have := lt_of_heap hx; have : b6 < W6.size := this; omega) fun W9 i9 hc9 hc10 => O.as rfl <| JO.nil <| J.seq <| J.reg rfl <| O.ldVw rfl hc10 rfl <| O.st rfl rfl hl3.to rfl (by simp [oneC, Value.cells]) fun W10 i10 hc11 => JO.nil <| J.ret1 rfl (.cell rfl hc11 rfl) fun W' iE iP => ?_
    exact mkI s6.to
end
section
theorem rational_FromInt_ok {W : GW} {z : Int} (hz : -9223372036854775808 ≤ z ∧ z < 9223372036854775808) :
    Ok Tryz.prog 54 [.int .i64 z] W fun W' r => V RQ W' r (cq (z : Rat)) := by
  refine Ok.enter Tryz.func54 rfl rfl rfl rfl fun W0 iEn => ?_
  refine J.seq <| J.reg rfl <| O.alloc fun W1 b1 i1 hl1 hc1 hb1 => JO.nil <| J.seq <| J.reg rfl <| O.mv rfl <| O.call rfl (integer_FromInt_ok hz) fun W2 v2 i2 e2 h2 => ?_
  obtain ⟨p2, m2, c2, rfl, hs2⟩ := unI h2
  refine O.call rfl rational_one_ok fun W3 v3 i3 e3 h3 => ?_
  obtain ⟨p3, m3, c3, rfl, hs3⟩ := unI h3
  refine O.bld rfl rfl rfl rfl <| O.st rfl rfl hl1.to rfl (by simp [oneC, Value.cells]) fun W4 i4 hc4 => JO.nil <| J.ret1 rfl (.cell rfl hc4 rfl) fun W' iE iP => ?_
  exact mkQ hs2.to hs3.to
theorem ref02_FromInt_ok {W : GW} {z : Int} (hz : -9223372036854775808 ≤ z ∧ z < 9223372036854775808) :
    Ok Tryz.prog 48 [.int .i64 z] W fun W' r => V RQ W' r (cq (z : Rat)) := by
  refine Ok.enter Tryz.func48 rfl rfl rfl rfl fun W0 iEn => ?_
  refine J.seq <| J.reg rfl <| O.alloc fun W1 b1 i1 hl1 hc1 hb1 => JO.nil <| J.seq <| J.reg rfl <| O.mv rfl <| O.call rfl (ref01_FromInt_ok hz) fun W2 v2 i2 e2 h2 => ?_
  obtain ⟨p2, m2, c2, rfl, hs2⟩ := unI h2
  refine O.call rfl (ref01_FromInt_ok (z := 1) (by decide)) fun W3 v3 i3 e3 h3 => ?_
  obtain ⟨p3, m3, c3, rfl, hs3⟩ := unI h3
  refine O.bld rfl rfl rfl rfl <| O.st rfl rfl hl1.to rfl (by simp [oneC, Value.cells]) fun W4 i4 hc4 => JO.nil <| J.ret1 rfl (.cell rfl hc4 rfl) fun W' iE iP => ?_
  exact mkQ hs2.to hs3.to
theorem rational_Sign_ok {W : GW} {v : Value} {x : Rat} (h : V RQ W v (cq x)) : Ok Tryz.prog 101 [v] W fun W' r => r = .int .i64 (cmpI x.num 0) := by
  obtain ⟨p1, n1, c1, p2, n2, c2, rfl, h1, h2⟩ := unQ h
  refine Ok.enter Tryz.func101 rfl rfl rfl rfl fun W0 iEn => ?_
  refine J.seq <| J.reg rfl <| O.box rfl fun W1 b1 i1 hb1 => O.as rfl <| JO.nil <| J.seq <| J.reg rfl <| O.fa rfl <| O.ldB2 rfl hb1.to rfl <| O.call rfl (integer_Sign_ok (mkI h1.to)) fun W2 v2 i2 e2 h2 => ?_
  subst h2
  refine O.as rfl <| JO.nil <| J.ret1 rfl (.tmp rfl) fun W' iE iP => ?_
  rfl
theorem rational_Neg_ok {W : GW} {v : Value} {x : Rat} (h : V RQ W v (cq x)) (hl : (dig x.num.natAbs).length ≤ 1099511627776) : Ok Tryz.prog 124 [v] W fun W' r => V RQ W' r (cq (-x)) := by
  obtain ⟨p1, n1, c1, p2, n2, c2, rfl, h1, h2⟩ := unQ h
  refine Ok.enter Tryz.func124 rfl rfl rfl rfl fun W0 iEn => ?_
  refine J.seq <| J.reg rfl <| O.box rfl fun W1 b1 i1 hb1 => O.alloc fun W2 b2 i2 hl2 hc2 hb2 => JO.nil <| J.seq <| ?_
  refine J.draw [.ex _, .ex _, .rel _, .ex _, .ex _] rfl rfl ⟨fun W1 i1 e1 _ => O.fa rfl <| D.ex, fun W1 i1 e1 _ => O.ldB2 rfl hb1.to rfl <| D.ex, fun W1 i1 e1 _ => O.call rfl (integer_Neg_ok (mkI h1.to) hl) fun W5 v5 i5 e5 h5 => D.rel e5 h5 V.me, fun W1 i1 e1 _ => O.fa rfl <| D.ex, fun W1 i1 e1 _ => O.ldB2 rfl hb1.to rfl <| D.ex, trivial⟩ ?_
  intro W1 i1 e1 v5 h5
  obtain ⟨p5, m5, c5, rfl, s5⟩ := unI h5
  refine O.bld rfl rfl rfl rfl <| O.st rfl rfl hl2.to rfl (by simp [oneC, Value.cells]) fun W4 i4 hc4 => JO.nil <| J.ret1 rfl (.cell rfl hc4 rfl) fun W' iE iP => ?_
  exact mkQ (a := ci (-x).num) (b := ci (-x).den) s5.to h2.to
theorem lowest_num {a b : Int} (hb : b ≠ 0) : a.fdiv (if b < 0 then -(Int.gcd a b : Int) else (Int.gcd a b : Int)) = (Rat.divInt a b).num := by
  rw [Rat.num_divInt, Int.gcd_comm b a]
  split
  · rename_i h
    rw [show a.fdiv (-(Int.gcd a b : Int)) = (-a).fdiv (Int.gcd a b : Int) from by rw [← Int.neg_fdiv_neg, Int.neg_neg], Int.sign_eq_neg_one_of_neg h, Int.fdiv_eq_ediv_of_nonneg _ (by omega)]
    congr 1
    omega
  · rw [Int.sign_eq_one_of_pos (by omega), Int.one_mul, Int.fdiv_eq_ediv_of_nonneg _ (by omega)]
theorem lowest_den {a b : Int} (hb : b ≠ 0) : b.fdiv (if b < 0 then -(Int.gcd a b : Int) else (Int.gcd a b : Int)) = ((Rat.divInt a b).den : Int) := by
  rw [Rat.den_divInt, if_neg hb, Int.gcd_comm b a, Int.natCast_ediv]
  split
  · rw [show b.fdiv (-(Int.gcd a b : Int)) = (-b).fdiv (Int.gcd a b : Int) from by rw [← Int.neg_fdiv_neg, Int.neg_neg], Int.fdiv_eq_ediv_of_nonneg _ (by omega)]
    congr 1
    omega
  · rw [Int.fdiv_eq_ediv_of_nonneg _ (by omega)]
    congr 1
    omega
theorem gcd_ne {a b : Int} (hb : b ≠ 0) : Int.gcd a b ≠ 0 := fun h => hb (Int.gcd_eq_zero_iff.1 h).2
/-- lowest: the quotient in lowest terms. -/
theorem rational_lowest_ok {W : GW} {v v' : Value} {a b : Int} {p : Nat} (h : V RI W v (ci a)) (h' : V RI W v' (ci b)) (ha : Zs p a) (hb : Zs p b) (hp : p ≤ 17592186044416) (hb0 : b ≠ 0) :
    Ok Tryz.prog 130 [v, v'] W fun W' r => V RQ W' r (cq (Rat.divInt a b)) := by
  obtain ⟨p1, n1, c1, rfl, hs⟩ := unI h
  obtain ⟨p2, n2, c2, rfl, hs'⟩ := unI h'
  have hg := hb.gcd (x := a) hb0
  have hg0 := @gcd_ne a b hb0
  have hgn : Zs p (if b < 0 then -(Int.gcd a b : Int) else (Int.gcd a b : Int)) := by split; exact hg.neg; exact hg
  have hgn0 : (if b < 0 then -(Int.gcd a b : Int) else (Int.gcd a b : Int)) ≠ 0 := by split <;> omega
  refine Ok.enter Tryz.func130 rfl rfl rfl rfl fun W0 iEn => ?_
  refine J.seq <| J.reg rfl <| O.box rfl fun W1 b1 i1 hb1 => O.box rfl fun W2 b2 i2 hb2 => O.alloc fun W3 b3 i3 hl3 hc3 hb3 => JO.nil <| J.seq <| J.reg rfl <| O.ldBw rfl hb1.to rfl <| O.ldBw rfl hb2.to rfl <| O.call rfl (integer_GCD_ok (mkI hs.to) (mkI hs'.to) (ha.len hp) (hb.len hp)) fun W4 v4 i4 e4 h4 => ?_
  obtain ⟨p4, n4, c4, rfl, s4⟩ := unI h4
  refine O.alloc fun W5 b5 i5 hl5 hc5 hb5 => ?_
  skip
  refine O.st rfl rfl hl5.to rfl (by simp [oneC, Value.cells]) fun W6 i6 hc6 => JO.nil <| J.seq <| J.seq <| J.reg rfl <| O.fa rfl <| O.ldB rfl hb2.to rfl <| JO.nil <| ?_
  refine J.cut (α := List Value) (fun _ => [(2, .pointer (some ⟨b1, 0, none⟩)), (3, .pointer (some ⟨b2, 0, none⟩)), (4, .pointer (some ⟨b3, 0, none⟩)), (5, .pointer (some ⟨b5, 0, none⟩))]) (fun cs W => Lk1 W6 W ∧ Cnt W b5 cs ∧ ∃ pg mg cg, cs = [.bool (ci (if b < 0 then -(Int.gcd a b : Int) else (Int.gcd a b : Int))).1, .slice pg mg cg] ∧ Sl RW W pg mg cg (ci (if b < 0 then -(Int.gcd a b : Int) else (Int.gcd a b : Int))).2) ?_ ?_
  · skip
    refine J.condD rfl (fun h10 => ?_) (fun h10 => ?_)
    · skip
      refine J.reg rfl <| O.ldVw rfl hc6 rfl <| O.call rfl (integer_Neg_ok (mkI s4.to) (hg.len hp)) fun W7 v7 i7 e7 h7 => ?_
      obtain ⟨p7, n7, c7, rfl, s7⟩ := unI h7
      skip
      refine O.st rfl rfl hl5.to rfl (by simp [oneC, Value.cells]) fun W8 i8 hc8 => JO.nil <| ?_
      exact J.at' _ ⟨rfl, rfl, rfl, rfl, trivial⟩ ⟨⟨Lk.s⟩, hc8, p7, n7, c7, by rw [if_pos h10]; rfl, by rw [if_pos h10]; exact s7.to⟩
    · skip
      refine J.skip <| ?_
      exact J.at' _ ⟨rfl, rfl, rfl, rfl, trivial⟩ ⟨⟨Lk.s⟩, hc6, p4, n4, c4, by rw [if_neg h10]; rfl, by rw [if_neg h10]; exact s4.to⟩
  · skip
    rintro cs W9 ⟨iL, hc9, pg, mg, cg, rfl, sg9⟩
    refine J.seq <| ?_
    refine J.draw [.ex _, .ex _, .rel _, .ex _, .ex _, .rel _, .rel _] rfl rfl ⟨fun W1 i1 e1 _ => O.ldBw rfl hb1.to rfl <| D.ex, fun W1 i1 e1 _ => O.ldVw rfl (hc9.ext e1) rfl <| D.ex, fun W1 i1 e1 _ => O.call rfl (rational_quo_ok (mkI hs.to) (mkI sg9.to) (ha.len hp) (hgn.len hp) hgn0) fun W5 v5 i5 e5 h5 => D.rel e5 h5 V.me, fun W1 i1 e1 _ => O.ldBw rfl hb2.to rfl <| D.ex, fun W1 i1 e1 _ => O.ldVw rfl (hc9.ext e1) rfl <| D.ex, fun W1 i1 e1 _ => fun v15 h15 => O.call rfl (rational_quo_ok (mkI hs'.to) (mkI sg9.to) (hb.len hp) (hgn.len hp) hgn0) fun W5 v5 i5 e5 h5 => D.rel e5 h5 V.me, fun W1 i1 e1 _ => fun v15 h15 => fun v18 h18 => (by obtain ⟨pa, ma, ca, rfl, sa⟩ := unI h15; obtain ⟨pb, mb, cb, rfl, sb⟩ := unI h18; exact O.bld rfl rfl rfl rfl <| D.rel (R := fun W v => V RQ W v (cq (Rat.divInt a b))) (Ext.refl _) (by rw [cq, ← lowest_num hb0, ← lowest_den hb0]; exact mkQ sa sb) V.me), trivial⟩ ?_
    intro W1 i1 e1 v15 h15 v18 h18 v19 h19
    obtain ⟨pa, ma, ca, pb, mb, cb, rfl, sa, sb⟩ := unQ h19
    refine O.st rfl rfl hl3.to rfl (by simp [oneC, Value.cells]) fun W10 i10 hc10 => JO.nil <| J.ret1 rfl (.cell rfl hc10 rfl) fun W' iE iP => ?_
    exact mkQ (a := ci (Rat.divInt a b).num) (b := ci (Rat.divInt a b).den) sa.to sb.to
/-! sums, products, quotients -/
theorem Qs.addNum {p q : Nat} {x y : Rat} (h : Qs p x) (k : Qs q y) : Zs (p + q + 1) (x.num * y.den + y.num * x.den) := by
  have h1 := (h.n.mul k.d).add (k.n.mul h.d)
  exact h1.mono (by omega)
theorem divInt_nat (a : Int) (b : Nat) : Rat.divInt a (b : Int) = mkRat a b := Rat.divInt_ofNat a b
theorem add_divInt (x y : Rat) : x + y = Rat.divInt (x.num * y.den + y.num * x.den) ((x.den : Int) * y.den) := by
  rw [Rat.add_def', ← Int.natCast_mul, divInt_nat]
theorem mul_divInt (x y : Rat) : x * y = Rat.divInt (x.num * y.num) ((x.den : Int) * y.den) := by
  rw [Rat.mul_def', ← Int.natCast_mul, divInt_nat]
theorem div_divInt (x y : Rat) (h : y ≠ 0) : x / y = Rat.divInt (x.num * y.den) ((x.den : Int) * y.num) := by
  rw [Rat.div_def, Rat.inv_def]
  conv => lhs; rw [← Rat.num_divInt_den x]
  rw [Rat.divInt_mul_divInt]
theorem den1 {x : Rat} (h : (x.den : Int) = 1) : x = (x.num : Rat) := Rat.ext rfl (by show x.den = 1; omega)
theorem den1_add {x y : Rat} (h : (x.den : Int) = 1) (k : (y.den : Int) = 1) : x + y = ((x.num + y.num : Int) : Rat) := by
  conv => lhs; rw [den1 h, den1 k]
  norm_cast
theorem den1_mul {x y : Rat} (h : (x.den : Int) = 1) (k : (y.den : Int) = 1) : x * y = ((x.num * y.num : Int) : Rat) := by
  conv => lhs; rw [den1 h, den1 k]
  norm_cast
theorem den_ne (x : Rat) : (x.den : Int) ≠ 0 := by have := x.den_nz; omega
/-- Sizes of sums and products. -/
theorem Zs.divInt_num {p : Nat} {a b : Int} (ha : Zs p a) : Zs p (Rat.divInt a b).num := by
  unfold Zs at *
  rw [Rat.num_divInt]
  have h1 : (b.sign * a).natAbs ≤ a.natAbs := by
    rw [Int.natAbs_mul]
    have : b.sign.natAbs ≤ 1 := by rw [Int.natAbs_sign]; split <;> omega
    have := Nat.mul_le_mul_right a.natAbs this
    omega
  have h2 : ((b.sign * a) / (Int.gcd b a : Int)).natAbs ≤ (b.sign * a).natAbs := by
    by_cases hg : Int.gcd b a = 0
    · rw [hg]; simp
    · have hd : (Int.gcd b a : Int) ∣ b.sign * a := Int.dvd_mul_of_dvd_right (Int.gcd_dvd_right b a)
      obtain ⟨c, hc⟩ := hd
      rw [hc, Int.mul_ediv_cancel_left _ (by omega), Int.natAbs_mul]
      exact Nat.le_mul_of_pos_left _ (Nat.pos_of_ne_zero (by rw [Int.natAbs_natCast]; exact hg))
  omega
theorem Zs.divInt_den {p : Nat} {a b : Int} (hb : Zs p b) (h0 : b ≠ 0) : Zs p ((Rat.divInt a b).den : Int) := by
  unfold Zs at *
  rw [Rat.den_divInt, if_neg h0]
  have := Nat.div_le_self b.natAbs (Int.gcd b a)
  rw [Int.natAbs_natCast]
  omega
theorem Qs.divInt {p : Nat} {a b : Int} (ha : Zs p a) (hb : Zs p b) (h0 : b ≠ 0) : Qs p (Rat.divInt a b) := ⟨ha.divInt_num, hb.divInt_den h0⟩
theorem Qs.int {p : Nat} {z : Int} (h : Zs p z) (hp : 1 ≤ p) : Qs p (z : Rat) := ⟨h, Zs.one hp⟩
/-- Add -/
theorem rational_Add_ok {W : GW} {v v' : Value} {x y : Rat} {p q : Nat} (h : V RQ W v (cq x)) (h' : V RQ W v' (cq y)) (hx : Qs p x) (hy : Qs q y) (hp : p + q + 1 ≤ 17592186044416) :
    Ok Tryz.prog 97 [v, v'] W fun W' r => V RQ W' r (cq (x + y)) := by
  obtain ⟨p1, n1, c1, p2, n2, c2, rfl, h1, h2⟩ := unQ h
  obtain ⟨p3, n3, c3, p4, n4, c4, rfl, h3, h4⟩ := unQ h'
  refine Ok.enter Tryz.func97 rfl rfl rfl rfl fun W0 iEn => ?_
  refine J.seq <| J.reg rfl <| O.box rfl fun W1 b1 i1 hb1 => O.box rfl fun W2 b2 i2 hb2 => O.alloc fun W3 b3 i3 hl3 hc3 hb3 => JO.nil <| J.seq <| J.seq <| J.reg rfl <| O.fa rfl <| O.ldB2 rfl hb1.to rfl <| O.call rfl (rational_isOne_ok (mkI h2.to)) fun W4 v4 i4 e4 h4 => ?_
  subst h4
  refine O.mv rfl <| ?_
  by_cases hg9 : (x.den : Int) = 1
  · skip
    refine O.set (t := 9) (.bool true) rfl (by simp only [Value.bool.injEq, decide_eq_true_eq, decide_eq_false_iff_not]; omega) <| O.gt rfl rfl <| O.fa rfl <| O.gt rfl rfl <| O.ldB2 rfl hb2.to rfl <| O.gt rfl rfl <| O.call rfl (rational_isOne_ok (mkI h4.to)) fun W5 v5 i5 e5 h5 => ?_
    subst h5
    refine O.pickT rfl rfl <| JO.nil <| J.condD rfl (fun h13 => ?_) (fun h13 => ?_)
    · skip
      refine J.seq <| J.reg rfl <| O.fa rfl <| O.ldB2 rfl hb1.to rfl <| O.fa rfl <| O.ldB2 rfl hb2.to rfl <| O.call rfl (integer_Add_ok (mkI h1.to) (mkI h3.to) (hx.n.len (by omega)) (hy.n.len (by omega))) fun W6 v6 i6 e6 h6 => ?_
      obtain ⟨pa, ma, ca, rfl, sa⟩ := unI h6
      refine O.call rfl rational_one_ok fun W7 v7 i7 e7 h7 => ?_
      obtain ⟨pb, mb, cb, rfl, sb⟩ := unI h7
      skip
      refine O.bld rfl rfl rfl rfl <| O.st rfl rfl hl3.to rfl (by simp [oneC, Value.cells]) fun W8 i8 hc8 => JO.nil <| J.ret1 rfl (.cell rfl hc8 rfl) fun W' iE iP => ?_
      rw [den1_add hg9 h13]
      exact mkQ (a := ci (x.num + y.num)) (b := ci 1) sa.to sb.to
    · skip
      refine J.skip <| J.seq <| ?_
      refine J.draw [.ex _, .ex _, .ex _, .ex _, .rel _, .ex _, .ex _, .ex _, .ex _, .rel _, .rel _, .rel _] rfl rfl ⟨fun W1 i1 e1 _ => O.fa rfl <| D.ex, fun W1 i1 e1 _ => O.ldB2 rfl hb1.to rfl <| D.ex, fun W1 i1 e1 _ => O.fa rfl <| D.ex, fun W1 i1 e1 _ => O.ldB2 rfl hb2.to rfl <| D.ex, fun W1 i1 e1 _ => O.call rfl (integer_Mul_ok (mkI h1.to) (mkI h4.to) (hx.n.len (by omega)) (hy.d.len (by omega))) fun W5 v5 i5 e5 h5 => D.rel e5 h5 V.me, fun W1 i1 e1 _ => O.fa rfl <| D.ex, fun W1 i1 e1 _ => O.ldB2 rfl hb2.to rfl <| D.ex, fun W1 i1 e1 _ => O.fa rfl <| D.ex, fun W1 i1 e1 _ => O.ldB2 rfl hb1.to rfl <| D.ex, fun W1 i1 e1 _ => fun v25 h25 => O.call rfl (integer_Mul_ok (mkI h3.to) (mkI h2.to) (hy.n.len (by omega)) (hx.d.len (by omega))) fun W5 v5 i5 e5 h5 => D.rel e5 h5 V.me, fun W1 i1 e1 _ => fun v25 h25 => fun _ _ => fun v30 h30 => O.call rfl (integer_Add_ok h25 h30 ((hx.n.mul hy.d).len (by omega)) ((hy.n.mul hx.d).len (by omega))) fun W5 v5 i5 e5 h5 => D.rel e5 h5 V.me, fun W1 i1 e1 _ => O.allocE fun W5 b5 i5 e5 hl5 hc5 hb5 => D.rel (R := PLoc 2 W3.size) e5 (by exact ⟨_, rfl, hl5, Nat.le_trans (inferInstance : Le W3 W1).s.size hb5⟩) PLoc.me, trivial⟩ ?_
      intro W1 i1 e1 v25 h25 v30 h30 v31 h31 v5 h5
      obtain ⟨b5, rfl, hl5, hb5⟩ := h5
      obtain ⟨pa, ma, ca, rfl, sa⟩ := unI h31
      skip
      refine O.st rfl rfl hl5 rfl (by simp [oneC, Value.cells]) fun W8 i8 hc8 => JO.nil <| J.seq <| ?_
      refine J.draw [.ex _, .ex _, .ex _, .ex _, .ex _, .rel _, .rel _] rfl rfl ⟨fun W1 i1 e1 _ => O.ldVw rfl (hc8.ext e1) rfl <| D.ex, fun W1 i1 e1 _ => O.fa rfl <| D.ex, fun W1 i1 e1 _ => O.ldB2 rfl hb1.to rfl <| D.ex, fun W1 i1 e1 _ => O.fa rfl <| D.ex, fun W1 i1 e1 _ => O.ldB2 rfl hb2.to rfl <| D.ex, fun W1 i1 e1 _ => O.call rfl (integer_Mul_ok (mkI h2.to) (mkI h4.to) (hx.d.len (by omega)) (hy.d.len (by omega))) fun W5 v5 i5 e5 h5 => D.rel e5 h5 V.me, fun W1 i1 e1 _ => fun _ _ => fun v37 h37 => O.call rfl (rational_lowest_ok (mkI sa.to) h37 (hx.addNum hy) ((hx.d.mul hy.d).mono (by omega)) (by omega) (Int.mul_ne_zero (den_ne x) (den_ne y))) fun W5 v5 i5 e5 h5 => D.rel e5 h5 V.me, trivial⟩ ?_
      intro W1 i1 e1 v37 h37 v38 h38
      rw [← add_divInt] at h38
      obtain ⟨pd, md, cd, pe, me, ce, rfl, sd, se⟩ := unQ h38
      refine O.st rfl rfl hl3.to rfl (by simp [oneC, Value.cells]) fun W10 i10 hc10 => JO.nil <| J.ret1 rfl (.cell rfl hc10 rfl) fun W' iE iP => ?_
      exact mkQ (a := ci (x + y).num) (b := ci (x + y).den) sd.to se.to
  · skip
    refine O.set (t := 9) (.bool false) rfl (by simp only [Value.bool.injEq, decide_eq_true_eq, decide_eq_false_iff_not]; omega) <| O.gs rfl rfl rfl <| O.gs rfl rfl rfl <| O.gs rfl rfl rfl <| O.pickF rfl rfl <| JO.nil <| J.condF rfl <| J.skip <| J.seq <| ?_
    refine J.draw [.ex _, .ex _, .ex _, .ex _, .rel _, .ex _, .ex _, .ex _, .ex _, .rel _, .rel _, .rel _] rfl rfl ⟨fun W1 i1 e1 _ => O.fa rfl <| D.ex, fun W1 i1 e1 _ => O.ldB2 rfl hb1.to rfl <| D.ex, fun W1 i1 e1 _ => O.fa rfl <| D.ex, fun W1 i1 e1 _ => O.ldB2 rfl hb2.to rfl <| D.ex, fun W1 i1 e1 _ => O.call rfl (integer_Mul_ok (mkI h1.to) (mkI h4.to) (hx.n.len (by omega)) (hy.d.len (by omega))) fun W5 v5 i5 e5 h5 => D.rel e5 h5 V.me, fun W1 i1 e1 _ => O.fa rfl <| D.ex, fun W1 i1 e1 _ => O.ldB2 rfl hb2.to rfl <| D.ex, fun W1 i1 e1 _ => O.fa rfl <| D.ex, fun W1 i1 e1 _ => O.ldB2 rfl hb1.to rfl <| D.ex, fun W1 i1 e1 _ => fun v25 h25 => O.call rfl (integer_Mul_ok (mkI h3.to) (mkI h2.to) (hy.n.len (by omega)) (hx.d.len (by omega))) fun W5 v5 i5 e5 h5 => D.rel e5 h5 V.me, fun W1 i1 e1 _ => fun v25 h25 => fun _ _ => fun v30 h30 => O.call rfl (integer_Add_ok h25 h30 ((hx.n.mul hy.d).len (by omega)) ((hy.n.mul hx.d).len (by omega))) fun W5 v5 i5 e5 h5 => D.rel e5 h5 V.me, fun W1 i1 e1 _ => O.allocE fun W5 b5 i5 e5 hl5 hc5 hb5 => D.rel (R := PLoc 2 W3.size) e5 (by exact ⟨_, rfl, hl5, Nat.le_trans (inferInstance : Le W3 W1).s.size hb5⟩) PLoc.me, trivial⟩ ?_
    intro W1 i1 e1 v25 h25 v30 h30 v31 h31 v5 h5
    obtain ⟨b5, rfl, hl5, hb5⟩ := h5
    obtain ⟨pa, ma, ca, rfl, sa⟩ := unI h31
    skip
    refine O.st rfl rfl hl5 rfl (by simp [oneC, Value.cells]) fun W8 i8 hc8 => JO.nil <| J.seq <| ?_
    refine J.draw [.ex _, .ex _, .ex _, .ex _, .ex _, .rel _, .rel _] rfl rfl ⟨fun W1 i1 e1 _ => O.ldVw rfl (hc8.ext e1) rfl <| D.ex, fun W1 i1 e1 _ => O.fa rfl <| D.ex, fun W1 i1 e1 _ => O.ldB2 rfl hb1.to rfl <| D.ex, fun W1 i1 e1 _ => O.fa rfl <| D.ex, fun W1 i1 e1 _ => O.ldB2 rfl hb2.to rfl <| D.ex, fun W1 i1 e1 _ => O.call rfl (integer_Mul_ok (mkI h2.to) (mkI h4.to) (hx.d.len (by omega)) (hy.d.len (by omega))) fun W5 v5 i5 e5 h5 => D.rel e5 h5 V.me, fun W1 i1 e1 _ => fun _ _ => fun v37 h37 => O.call rfl (rational_lowest_ok (mkI sa.to) h37 (hx.addNum hy) ((hx.d.mul hy.d).mono (by omega)) (by omega) (Int.mul_ne_zero (den_ne x) (den_ne y))) fun W5 v5 i5 e5 h5 => D.rel e5 h5 V.me, trivial⟩ ?_
    intro W1 i1 e1 v37 h37 v38 h38
    rw [← add_divInt] at h38
    obtain ⟨pd, md, cd, pe, me, ce, rfl, sd, se⟩ := unQ h38
    refine O.st rfl rfl hl3.to rfl (by simp [oneC, Value.cells]) fun W10 i10 hc10 => JO.nil <| J.ret1 rfl (.cell rfl hc10 rfl) fun W' iE iP => ?_
    exact mkQ (a := ci (x + y).num) (b := ci (x + y).den) sd.to se.to
/-- Mul -/
theorem rational_Mul_ok {W : GW} {v v' : Value} {x y : Rat} {p q : Nat} (h : V RQ W v (cq x)) (h' : V RQ W v' (cq y)) (hx : Qs p x) (hy : Qs q y) (hp : p + q + 1 ≤ 17592186044416) :
    Ok Tryz.prog 98 [v, v'] W fun W' r => V RQ W' r (cq (x * y)) := by
  obtain ⟨p1, n1, c1, p2, n2, c2, rfl, h1, h2⟩ := unQ h
  obtain ⟨p3, n3, c3, p4, n4, c4, rfl, h3, h4⟩ := unQ h'
  refine Ok.enter Tryz.func98 rfl rfl rfl rfl fun W0 iEn => ?_
  refine J.seq <| J.reg rfl <| O.box rfl fun W1 b1 i1 hb1 => O.box rfl fun W2 b2 i2 hb2 => O.alloc fun W3 b3 i3 hl3 hc3 hb3 => JO.nil <| J.seq <| J.seq <| J.reg rfl <| O.fa rfl <| O.ldB2 rfl hb1.to rfl <| O.call rfl (rational_isOne_ok (mkI h2.to)) fun W4 v4 i4 e4 h4 => ?_
  subst h4
  refine O.mv rfl <| ?_
  by_cases hg8 : (x.den : Int) = 1
  · skip
    refine O.set (t := 8) (.bool true) rfl (by simp only [Value.bool.injEq, decide_eq_true_eq, decide_eq_false_iff_not]; omega) <| O.gt rfl rfl <| O.fa rfl <| O.gt rfl rfl <| O.ldB2 rfl hb2.to rfl <| O.gt rfl rfl <| O.call rfl (rational_isOne_ok (mkI h4.to)) fun W5 v5 i5 e5 h5 => ?_
    subst h5
    refine O.pickT rfl rfl <| JO.nil <| J.condD rfl (fun h12 => ?_) (fun h12 => ?_)
    · skip
      refine J.seq <| J.reg rfl <| O.fa rfl <| O.ldB2 rfl hb1.to rfl <| O.fa rfl <| O.ldB2 rfl hb2.to rfl <| O.call rfl (integer_Mul_ok (mkI h1.to) (mkI h3.to) (hx.n.len (by omega)) (hy.n.len (by omega))) fun W6 v6 i6 e6 h6 => ?_
      obtain ⟨pa, ma, ca, rfl, sa⟩ := unI h6
      refine O.call rfl rational_one_ok fun W7 v7 i7 e7 h7 => ?_
      obtain ⟨pb, mb, cb, rfl, sb⟩ := unI h7
      skip
      refine O.bld rfl rfl rfl rfl <| O.st rfl rfl hl3.to rfl (by simp [oneC, Value.cells]) fun W8 i8 hc8 => JO.nil <| J.ret1 rfl (.cell rfl hc8 rfl) fun W' iE iP => ?_
      rw [den1_mul hg8 h12]
      exact mkQ (a := ci (x.num * y.num)) (b := ci 1) sa.to sb.to
    · skip
      refine J.skip <| J.seq <| ?_
      refine J.draw [.ex _, .ex _, .ex _, .ex _, .rel _, .ex _, .ex _, .ex _, .ex _, .rel _, .rel _] rfl rfl ⟨fun W1 i1 e1 _ => O.fa rfl <| D.ex, fun W1 i1 e1 _ => O.ldB2 rfl hb1.to rfl <| D.ex, fun W1 i1 e1 _ => O.fa rfl <| D.ex, fun W1 i1 e1 _ => O.ldB2 rfl hb2.to rfl <| D.ex, fun W1 i1 e1 _ => O.call rfl (integer_Mul_ok (mkI h1.to) (mkI h3.to) (hx.n.len (by omega)) (hy.n.len (by omega))) fun W5 v5 i5 e5 h5 => D.rel e5 h5 V.me, fun W1 i1 e1 _ => O.fa rfl <| D.ex, fun W1 i1 e1 _ => O.ldB2 rfl hb1.to rfl <| D.ex, fun W1 i1 e1 _ => O.fa rfl <| D.ex, fun W1 i1 e1 _ => O.ldB2 rfl hb2.to rfl <| D.ex, fun W1 i1 e1 _ => fun v24 h24 => O.call rfl (integer_Mul_ok (mkI h2.to) (mkI h4.to) (hx.d.len (by omega)) (hy.d.len (by omega))) fun W5 v5 i5 e5 h5 => D.rel e5 h5 V.me, fun W1 i1 e1 _ => fun v24 h24 => fun _ _ => fun v29 h29 => O.call rfl (rational_lowest_ok h24 h29 (hx.n.mul hy.n) (hx.d.mul hy.d) (by omega) (Int.mul_ne_zero (den_ne x) (den_ne y))) fun W5 v5 i5 e5 h5 => D.rel e5 h5 V.me, trivial⟩ ?_
      intro W1 i1 e1 v24 h24 v29 h29 v30 h30
      rw [← mul_divInt] at h30
      obtain ⟨pd, md, cd, pe, me, ce, rfl, sd, se⟩ := unQ h30
      refine O.st rfl rfl hl3.to rfl (by simp [oneC, Value.cells]) fun W10 i10 hc10 => JO.nil <| J.ret1 rfl (.cell rfl hc10 rfl) fun W' iE iP => ?_
      exact mkQ (a := ci (x * y).num) (b := ci (x * y).den) sd.to se.to
  · skip
    refine O.set (t := 8) (.bool false) rfl (by simp only [Value.bool.injEq, decide_eq_true_eq, decide_eq_false_iff_not]; omega) <| O.gs rfl rfl rfl <| O.gs rfl rfl rfl <| O.gs rfl rfl rfl <| O.pickF rfl rfl <| JO.nil <| J.condF rfl <| J.skip <| J.seq <| ?_
    refine J.draw [.ex _, .ex _, .ex _, .ex _, .rel _, .ex _, .ex _, .ex _, .ex _, .rel _, .rel _] rfl rfl ⟨fun W1 i1 e1 _ => O.fa rfl <| D.ex, fun W1 i1 e1 _ => O.ldB2 rfl hb1.to rfl <| D.ex, fun W1 i1 e1 _ => O.fa rfl <| D.ex, fun W1 i1 e1 _ => O.ldB2 rfl hb2.to rfl <| D.ex, fun W1 i1 e1 _ => O.call rfl (integer_Mul_ok (mkI h1.to) (mkI h3.to) (hx.n.len (by omega)) (hy.n.len (by omega))) fun W5 v5 i5 e5 h5 => D.rel e5 h5 V.me, fun W1 i1 e1 _ => O.fa rfl <| D.ex, fun W1 i1 e1 _ => O.ldB2 rfl hb1.to rfl <| D.ex, fun W1 i1 e1 _ => O.fa rfl <| D.ex, fun W1 i1 e1 _ => O.ldB2 rfl hb2.to rfl <| D.ex, fun W1 i1 e1 _ => fun v24 h24 => O.call rfl (integer_Mul_ok (mkI h2.to) (mkI h4.to) (hx.d.len (by omega)) (hy.d.len (by omega))) fun W5 v5 i5 e5 h5 => D.rel e5 h5 V.me, fun W1 i1 e1 _ => fun v24 h24 => fun _ _ => fun v29 h29 => O.call rfl (rational_lowest_ok h24 h29 (hx.n.mul hy.n) (hx.d.mul hy.d) (by omega) (Int.mul_ne_zero (den_ne x) (den_ne y))) fun W5 v5 i5 e5 h5 => D.rel e5 h5 V.me, trivial⟩ ?_
    intro W1 i1 e1 v24 h24 v29 h29 v30 h30
    rw [← mul_divInt] at h30
    obtain ⟨pd, md, cd, pe, me, ce, rfl, sd, se⟩ := unQ h30
    refine O.st rfl rfl hl3.to rfl (by simp [oneC, Value.cells]) fun W10 i10 hc10 => JO.nil <| J.ret1 rfl (.cell rfl hc10 rfl) fun W' iE iP => ?_
    exact mkQ (a := ci (x * y).num) (b := ci (x * y).den) sd.to se.to
theorem num_ne {y : Rat} (h : y.num ≠ 0) : y ≠ 0 := fun e => h (by rw [e]; rfl)
/-- Div -/
theorem rational_Div_ok {W : GW} {v v' : Value} {x y : Rat} {p q : Nat} (h : V RQ W v (cq x)) (h' : V RQ W v' (cq y)) (hx : Qs p x) (hy : Qs q y) (hp : p + q + 1 ≤ 17592186044416) :
    Ok Tryz.prog 146 [v, v'] W fun W' r => ∃ v1 e, r = .tuple #[v1, .int .i64 e] ∧ ((y = 0 ∧ e = 6 ∧ V RQ W' v1 ((false, []), (false, []))) ∨ (y ≠ 0 ∧ e = 0 ∧ V RQ W' v1 (cq (x / y)))) := by
  obtain ⟨p1, n1, c1, p2, n2, c2, rfl, h1, h2⟩ := unQ h
  obtain ⟨p3, n3, c3, p4, n4, c4, rfl, h3, h4⟩ := unQ h'
  refine Ok.enter Tryz.func146 rfl rfl rfl rfl fun W0 iEn => ?_
  refine J.seq <| J.reg rfl <| O.box rfl fun W1 b1 i1 hb1 => O.box rfl fun W2 b2 i2 hb2 => O.alloc fun W3 b3 i3 hl3 hc3 hb3 => O.as rfl <| JO.nil <| J.seq <| J.seq <| J.reg rfl <| O.fa rfl <| O.ldB2 rfl hb2.to rfl <| O.call rfl (rational_isZero_ok (mkI h3.to)) fun W4 v4 i4 e4 h4 => ?_
  subst h4
  refine JO.nil <| J.condD rfl (fun h8 => ?_) (fun h8 => ?_)
  · skip
    refine J.seq <| J.reg rfl <| O.bld0 <| ?_
    skip
    refine O.st rfl rfl hl3.to rfl (by simp [oneC, Value.cells]) fun W8 i8 hc8 => O.as rfl <| JO.nil <| J.ret2 rfl (.cell rfl hc8 rfl) (.tmp rfl) fun W' iE iP => ?_
    refine ⟨_, 6, rfl, .inl ⟨Rat.num_eq_zero.1 h8, rfl, ?_⟩⟩
    exact mkQ (a := (false, [])) (b := (false, [])) (nil_sl _ _ _) (nil_sl _ _ _)
  · skip
    have hy0 := num_ne h8
    refine J.skip <| J.seq <| ?_
    refine J.draw [.ex _, .ex _, .ex _, .ex _, .rel _, .ex _, .ex _, .ex _, .ex _, .rel _, .rel _] rfl rfl ⟨fun W1 i1 e1 _ => O.fa rfl <| D.ex, fun W1 i1 e1 _ => O.ldB2 rfl hb1.to rfl <| D.ex, fun W1 i1 e1 _ => O.fa rfl <| D.ex, fun W1 i1 e1 _ => O.ldB2 rfl hb2.to rfl <| D.ex, fun W1 i1 e1 _ => O.call rfl (integer_Mul_ok (mkI h1.to) (mkI h4.to) (hx.n.len (by omega)) (hy.d.len (by omega))) fun W5 v5 i5 e5 h5 => D.rel e5 h5 V.me, fun W1 i1 e1 _ => O.fa rfl <| D.ex, fun W1 i1 e1 _ => O.ldB2 rfl hb1.to rfl <| D.ex, fun W1 i1 e1 _ => O.fa rfl <| D.ex, fun W1 i1 e1 _ => O.ldB2 rfl hb2.to rfl <| D.ex, fun W1 i1 e1 _ => fun v14 h14 => O.call rfl (integer_Mul_ok (mkI h2.to) (mkI h3.to) (hx.d.len (by omega)) (hy.n.len (by omega))) fun W5 v5 i5 e5 h5 => D.rel e5 h5 V.me, fun W1 i1 e1 _ => fun v14 h14 => fun _ _ => fun v19 h19 => O.call rfl (rational_lowest_ok h14 h19 (hx.n.mul hy.d) (hx.d.mul hy.n) (by omega) (Int.mul_ne_zero (den_ne x) h8)) fun W5 v5 i5 e5 h5 => D.rel e5 h5 V.me, trivial⟩ ?_
    intro W1 i1 e1 v14 h14 v19 h19 v20 h20
    rw [← div_divInt x y hy0] at h20
    obtain ⟨pd, md, cd, pe, me, ce, rfl, sd, se⟩ := unQ h20
    refine O.st rfl rfl hl3.to rfl (by simp [oneC, Value.cells]) fun W10 i10 hc10 => O.as rfl <| JO.nil <| J.ret2 rfl (.cell rfl hc10 rfl) (.tmp rfl) fun W' iE iP => ?_
    exact ⟨_, 0, rfl, .inr ⟨hy0, rfl, mkQ (a := ci (x / y).num) (b := ci (x / y).den) sd.to se.to⟩⟩
end
section
theorem cmpI_pos {z : Int} : cmpI z 0 > 0 ↔ z > 0 := by
  unfold cmpI
  split
  · constructor <;> intro <;> omega
  · split
    · constructor <;> intro <;> omega
    · constructor <;> intro <;> omega
theorem cq_iff {z w : Int} : (∃ x : Rat, (ci z, ci w) = cq x) ↔ (w > 0 ∧ (Int.gcd z w : Int) = 1) := by
  constructor
  · rintro ⟨x, h⟩
    have h1 := ci_inj (Prod.mk.inj h).1
    have h2 := ci_inj (Prod.mk.inj h).2
    have h3 := x.den_nz
    have h4 := x.reduced
    refine ⟨by omega, ?_⟩
    rw [h1, h2]
    show ((Nat.gcd x.num.natAbs x.den : Nat) : Int) = 1
    have : Nat.gcd x.num.natAbs x.den = 1 := h4
    rw [this]; rfl
  · rintro ⟨h1, h2⟩
    refine ⟨⟨z, w.natAbs, by omega, ?_⟩, ?_⟩
    · have : Int.gcd z w = 1 := by omega
      exact this
    · show _ = (ci z, ci ((w.natAbs : Nat) : Int))
      rw [Int.natAbs_of_nonneg (by omega)]
theorem ci_len {z : Int} {i : Bool × List Nat} (h : i = ci z) (hl : i.2.length ≤ 1099511627776) : (dig z.natAbs).length ≤ 1099511627776 := by subst h; exact hl
theorem rational_Valid_ok {W : GW} {v : Value} {i : Raw} (h : V RQ W v i) (hl : i.1.2.length ≤ 1099511627776) (hl' : i.2.2.length ≤ 1099511627776) :
    Ok Tryz.prog 105 [v] W fun W' r => ∃ b, r = .bool b ∧ (b = true ↔ ∃ x, i = cq x) := by
  obtain ⟨p1, n1, c1, p2, n2, c2, rfl, h1, h2⟩ := unQ h
  obtain ⟨⟨s1, l1⟩, ⟨s2, l2⟩⟩ := i
  dsimp only at *
  refine Ok.enter Tryz.func105 rfl rfl rfl rfl fun W0 iEn => ?_
  refine J.seq <| J.reg rfl <| O.box rfl fun W1 b1 j1 hb1 => O.as rfl <| JO.nil <| J.seq <| J.reg rfl <| O.fa rfl <| O.ldB2 rfl hb1.to rfl <| O.call rfl (integer_Valid_ok (mkI h1.to)) fun W2 v2 j2 e2 k2 => ?_
  obtain ⟨b2, rfl, k2⟩ := k2
  refine O.mv rfl <| ?_
  by_cases hg6 : b2 = true
  · skip
    obtain ⟨z, hz⟩ := k2.1 hg6
    refine O.set (t := 6) (.bool true) rfl (by rw [hg6]) <| O.gt rfl rfl <| O.fa rfl <| O.gt rfl rfl <| O.ldB2 rfl hb1.to rfl <| O.gt rfl rfl <| O.call rfl (integer_Valid_ok (mkI h2.to)) fun W3 v3 j3 e3 k3 => ?_
    obtain ⟨b3, rfl, k3⟩ := k3
    refine O.pickT rfl rfl <| O.mv rfl <| ?_
    by_cases hg11 : b3 = true
    · skip
      obtain ⟨w, hw⟩ := k3.1 hg11
      have hlz := ci_len hz hl
      have hlw := ci_len hw hl'
      obtain ⟨rfl, rfl⟩ := Prod.mk.inj hz
      obtain ⟨rfl, rfl⟩ := Prod.mk.inj hw
      refine O.set (t := 11) (.bool true) rfl (by rw [hg11]) <| O.gt rfl rfl <| O.fa rfl <| O.gt rfl rfl <| O.ldB2 rfl hb1.to rfl <| O.gt rfl rfl <| O.call rfl (integer_Sign_ok (mkI h2.to)) fun W4 v4 j4 e4 k4 => ?_
      subst k4
      have hci := @cq_iff z w
      have hcp := @cmpI_pos w
      refine O.gt rfl rfl <| O.gtr rfl rfl <| O.pickT rfl rfl <| O.mv rfl <| ?_
      by_cases hg17 : w > 0
      · skip
        refine O.set (t := 17) (.bool true) rfl (by simp only [Value.bool.injEq, decide_eq_true_eq]; omega) <| O.gt rfl rfl <| O.fa rfl <| O.gt rfl rfl <| O.ldB2 rfl hb1.to rfl <| O.gt rfl rfl <| O.fa rfl <| O.gt rfl rfl <| O.ldB2 rfl hb1.to rfl <| O.gt rfl rfl <| O.call rfl (integer_GCD_ok (mkI h1.to) (mkI h2.to) hlz hlw) fun W5 v5 j5 e5 k5 => O.gt rfl rfl <| O.call rfl (rational_isOne_ok k5) fun W6 v6 j6 e6 k6 => ?_
        subst k6
        refine O.pickT rfl rfl <| O.as rfl <| JO.nil <| J.ret1 rfl (.tmp rfl) fun W' iE iP => ?_
        exact ⟨_, rfl, by show _ ↔ ∃ x, (ci z, ci w) = cq x; rw [hci, decide_eq_true_eq]; exact ⟨fun h => ⟨hg17, h⟩, fun h => h.2⟩⟩
      · skip
        refine O.set (t := 17) (.bool false) rfl (by simp only [Value.bool.injEq, decide_eq_false_iff_not]; omega) <| O.gs rfl rfl rfl <| O.gs rfl rfl rfl <| O.gs rfl rfl rfl <| O.gs rfl rfl rfl <| O.gs rfl rfl rfl <| O.gs rfl rfl rfl <| O.pickF rfl rfl <| O.as rfl <| JO.nil <| J.ret1 rfl (.tmp rfl) fun W' iE iP => ?_
        exact ⟨false, rfl, by show _ ↔ ∃ x, (ci z, ci w) = cq x; rw [hci]; exact ⟨fun h => (nomatch h), fun h => absurd h.1 hg17⟩⟩
    · skip
      refine O.set (t := 11) (.bool false) rfl (by rw [Bool.eq_false_iff.2 hg11]) <| O.gs rfl rfl rfl <| O.gs rfl rfl rfl <| O.gs rfl rfl rfl <| O.gs rfl rfl rfl <| O.pickF rfl rfl <| O.mv rfl <| O.gs rfl rfl rfl <| O.gs rfl rfl rfl <| O.gs rfl rfl rfl <| O.gs rfl rfl rfl <| O.gs rfl rfl rfl <| O.gs rfl rfl rfl <| O.pickF rfl rfl <| O.as rfl <| JO.nil <| J.ret1 rfl (.tmp rfl) fun W' iE iP => ?_
      exact ⟨false, rfl, ⟨fun h => (nomatch h), fun ⟨x, hx⟩ => absurd (k3.2 ⟨_, (Prod.mk.inj hx).2⟩) hg11⟩⟩
  · skip
    refine O.set (t := 6) (.bool false) rfl (by rw [Bool.eq_false_iff.2 hg6]) <| O.gs rfl rfl rfl <| O.gs rfl rfl rfl <| O.gs rfl rfl rfl <| O.pickF rfl rfl <| O.mv rfl <| O.gs rfl rfl rfl <| O.gs rfl rfl rfl <| O.gs rfl rfl rfl <| O.gs rfl rfl rfl <| O.pickF rfl rfl <| O.mv rfl <| O.gs rfl rfl rfl <| O.gs rfl rfl rfl <| O.gs rfl rfl rfl <| O.gs rfl rfl rfl <| O.gs rfl rfl rfl <| O.gs rfl rfl rfl <| O.pickF rfl rfl <| O.as rfl <| JO.nil <| J.ret1 rfl (.tmp rfl) fun W' iE iP => ?_
    exact ⟨false, rfl, ⟨fun h => (nomatch h), fun ⟨x, hx⟩ => absurd (k2.2 ⟨_, (Prod.mk.inj hx).1⟩) hg6⟩⟩
theorem ref02_Valid_ok {W : GW} {v : Value} {i : Raw} (h : V RQ W v i) (hl : i.1.2.length ≤ 1099511627776) (hl' : i.2.2.length ≤ 1099511627776) :
    Ok Tryz.prog 41 [v] W fun W' r => ∃ b, r = .bool b ∧ (b = true ↔ ∃ x, i = cq x) := by
  obtain ⟨p1, n1, c1, p2, n2, c2, rfl, h1, h2⟩ := unQ h
  obtain ⟨⟨s1, l1⟩, ⟨s2, l2⟩⟩ := i
  dsimp only at *
  refine Ok.enter Tryz.func41 rfl rfl rfl rfl fun W0 iEn => ?_
  refine J.seq <| J.reg rfl <| O.box rfl fun W1 b1 j1 hb1 => O.as rfl <| JO.nil <| J.seq <| J.reg rfl <| O.fa rfl <| O.ldB2 rfl hb1.to rfl <| O.call rfl (ref01_Valid_ok (mkI h1.to)) fun W2 v2 j2 e2 k2 => ?_
  obtain ⟨b2, rfl, k2⟩ := k2
  refine O.mv rfl <| ?_
  by_cases hg6 : b2 = true
  · skip
    obtain ⟨z, hz⟩ := k2.1 hg6
    refine O.set (t := 6) (.bool true) rfl (by rw [hg6]) <| O.gt rfl rfl <| O.fa rfl <| O.gt rfl rfl <| O.ldB2 rfl hb1.to rfl <| O.gt rfl rfl <| O.call rfl (ref01_Valid_ok (mkI h2.to)) fun W3 v3 j3 e3 k3 => ?_
    obtain ⟨b3, rfl, k3⟩ := k3
    refine O.pickT rfl rfl <| O.mv rfl <| ?_
    by_cases hg11 : b3 = true
    · skip
      obtain ⟨w, hw⟩ := k3.1 hg11
      have hlz := ci_len hz hl
      have hlw := ci_len hw hl'
      obtain ⟨rfl, rfl⟩ := Prod.mk.inj hz
      obtain ⟨rfl, rfl⟩ := Prod.mk.inj hw
      refine O.set (t := 11) (.bool true) rfl (by rw [hg11]) <| O.gt rfl rfl <| O.fa rfl <| O.gt rfl rfl <| O.ldB2 rfl hb1.to rfl <| O.gt rfl rfl <| O.call rfl (ref01_Sign_ok (mkI h2.to)) fun W4 v4 j4 e4 k4 => ?_
      subst k4
      have hci := @cq_iff z w
      have hcp := @cmpI_pos w
      refine O.gt rfl rfl <| O.gtr rfl rfl <| O.pickT rfl rfl <| O.mv rfl <| ?_
      by_cases hg17 : w > 0
      · skip
        refine O.set (t := 17) (.bool true) rfl (by simp only [Value.bool.injEq, decide_eq_true_eq]; omega) <| O.gt rfl rfl <| O.fa rfl <| O.gt rfl rfl <| O.ldB2 rfl hb1.to rfl <| O.gt rfl rfl <| O.fa rfl <| O.gt rfl rfl <| O.ldB2 rfl hb1.to rfl <| O.gt rfl rfl <| O.call rfl (ref01_GCD_ok (mkI h1.to) (mkI h2.to) hlz hlw) fun W5 v5 j5 e5 k5 => O.gt rfl rfl <| O.call rfl (ref02_one_ok k5) fun W6 v6 j6 e6 k6 => ?_
        subst k6
        refine O.pickT rfl rfl <| O.as rfl <| JO.nil <| J.ret1 rfl (.tmp rfl) fun W' iE iP => ?_
        exact ⟨_, rfl, by show _ ↔ ∃ x, (ci z, ci w) = cq x; rw [hci, decide_eq_true_eq]; exact ⟨fun h => ⟨hg17, h⟩, fun h => h.2⟩⟩
      · skip
        refine O.set (t := 17) (.bool false) rfl (by simp only [Value.bool.injEq, decide_eq_false_iff_not]; omega) <| O.gs rfl rfl rfl <| O.gs rfl rfl rfl <| O.gs rfl rfl rfl <| O.gs rfl rfl rfl <| O.gs rfl rfl rfl <| O.gs rfl rfl rfl <| O.pickF rfl rfl <| O.as rfl <| JO.nil <| J.ret1 rfl (.tmp rfl) fun W' iE iP => ?_
        exact ⟨false, rfl, by show _ ↔ ∃ x, (ci z, ci w) = cq x; rw [hci]; exact ⟨fun h => (nomatch h), fun h => absurd h.1 hg17⟩⟩
    · skip
      refine O.set (t := 11) (.bool false) rfl (by rw [Bool.eq_false_iff.2 hg11]) <| O.gs rfl rfl rfl <| O.gs rfl rfl rfl <| O.gs rfl rfl rfl <| O.gs rfl rfl rfl <| O.pickF rfl rfl <| O.mv rfl <| O.gs rfl rfl rfl <| O.gs rfl rfl rfl <| O.gs rfl rfl rfl <| O.gs rfl rfl rfl <| O.gs rfl rfl rfl <| O.gs rfl rfl rfl <| O.pickF rfl rfl <| O.as rfl <| JO.nil <| J.ret1 rfl (.tmp rfl) fun W' iE iP => ?_
      exact ⟨false, rfl, ⟨fun h => (nomatch h), fun ⟨x, hx⟩ => absurd (k3.2 ⟨_, (Prod.mk.inj hx).2⟩) hg11⟩⟩
  · skip
    refine O.set (t := 6) (.bool false) rfl (by rw [Bool.eq_false_iff.2 hg6]) <| O.gs rfl rfl rfl <| O.gs rfl rfl rfl <| O.gs rfl rfl rfl <| O.pickF rfl rfl <| O.mv rfl <| O.gs rfl rfl rfl <| O.gs rfl rfl rfl <| O.gs rfl rfl rfl <| O.gs rfl rfl rfl <| O.pickF rfl rfl <| O.mv rfl <| O.gs rfl rfl rfl <| O.gs rfl rfl rfl <| O.gs rfl rfl rfl <| O.gs rfl rfl rfl <| O.gs rfl rfl rfl <| O.gs rfl rfl rfl <| O.pickF rfl rfl <| O.as rfl <| JO.nil <| J.ret1 rfl (.tmp rfl) fun W' iE iP => ?_
    exact ⟨false, rfl, ⟨fun h => (nomatch h), fun ⟨x, hx⟩ => absurd (k2.2 ⟨_, (Prod.mk.inj hx).1⟩) hg6⟩⟩
theorem ref02_SameInt_ok {W : GW} {v v' : Value} {i j : Bool × List Nat} (h : V RI W v i) (h' : V RI W v' j) :
    Ok Tryz.prog 121 [v, v'] W fun W' r => r = .bool (decide (i = j)) := by
  obtain ⟨p, m, c, rfl, hs⟩ := unI h
  obtain ⟨p', m', c', rfl, hs'⟩ := unI h'
  obtain ⟨s, l⟩ := i
  obtain ⟨s', l'⟩ := j
  replace hs : Sl RW W p m c l := hs
  replace hs' : Sl RW W p' m' c' l' := hs'
  have hn := hs.hn
  have hn' := hs'.hn
  have hC := hs.hC
  have hcc := hs.hc
  refine Ok.enter Tryz.func121 rfl rfl rfl rfl fun W0 iEn => ?_
  refine J.seq <| J.reg rfl <| O.box rfl fun W1 b1 i1 hb1 => O.box rfl fun W2 b2 i2 hb2 => O.as rfl <| JO.nil <| J.seq <| J.seq <| J.reg rfl <| O.fa rfl <| O.ldB rfl hb1.to rfl <| O.fa rfl <| O.ldB rfl hb2.to rfl <| O.bne rfl rfl <| O.mv rfl <| ?_
  by_cases hg11 : s ≠ s'
  · skip
    refine O.set (t := 11) (.bool true) rfl (by simp [hg11]) <| O.gs rfl rfl rfl <| O.gs rfl rfl rfl <| O.gs rfl rfl rfl <| O.gs rfl rfl rfl <| O.gs rfl rfl rfl <| O.gs rfl rfl rfl <| O.gs rfl rfl rfl <| O.pickT rfl rfl <| JO.nil <| J.condT rfl <| J.seq <| J.reg rfl <| O.as rfl <| JO.nil <| J.ret1 rfl (.tmp rfl) fun W' iE iP => ?_
    congr 1
    refine (decide_eq_false fun he => hg11 (Prod.mk.inj he).1).symm
  · skip
    refine O.set (t := 11) (.bool false) rfl (by simp at hg11; simp [hg11]) <| O.gt rfl rfl <| O.fa rfl <| O.gt rfl rfl <| O.ldB rfl hb1.to rfl <| O.gt rfl rfl <| O.len rfl <| O.gt rfl rfl <| O.fa rfl <| O.gt rfl rfl <| O.ldB rfl hb2.to rfl <| O.gt rfl rfl <| O.len rfl <| O.gt rfl rfl <| O.ne rfl rfl <| O.pickF rfl rfl <| JO.nil <| J.condD rfl (fun h19 => ?_) (fun h19 => ?_)
    · skip
      refine J.seq <| J.reg rfl <| O.as rfl <| JO.nil <| J.ret1 rfl (.tmp rfl) fun W' iE iP => ?_
      congr 1
      refine (decide_eq_false fun he => ?_).symm
      have := congrArg List.length (Prod.mk.inj he).2
      omega
    · skip
      refine J.skip <| J.seq <| J.seq <| J.reg rfl <| O.as rfl <| JO.nil <| J.block <| ?_
      refine J.loop (α := Nat) (fun k => [(2, .pointer (some ⟨b1, 0, none⟩)), (3, .pointer (some ⟨b2, 0, none⟩)), (5, .int .i64 (k : Int))]) (fun k W' => Le W2 W' ∧ Le W1 W' ∧ Le W0 W' ∧ k ≤ m ∧ l.take k = l'.take k) (fun k => m - k) 0 ⟨rfl, rfl, rfl, trivial⟩ ⟨inferInstance, inferInstance, inferInstance, Nat.zero_le _, rfl⟩ ?_
      rintro k W3 ⟨_, _, _, hk, hd⟩
      refine J.seq <| J.seq <| J.reg rfl <| O.mv rfl <| O.fa rfl <| O.ldB rfl hb1.to rfl <| O.len rfl <| O.lt rfl rfl <| JO.nil <| J.condD rfl (fun h24 => ?_) (fun h24 => ?_)
      · skip
        obtain ⟨u, hu⟩ := xat (l := l) (k := k) (by omega)
        obtain ⟨v, hv⟩ := xat (l := l') (k := k) (by omega)
        obtain ⟨bx, ox, rfl, hjx, hwx⟩ := hs.word hu
        obtain ⟨by', oy, rfl, hjy, hwy⟩ := hs'.word hv
        refine J.skip <| J.seq <| J.block <| J.seq <| ?_
        refine J.sub [(2, _), (3, _), (5, _)] ⟨rfl, rfl, rfl, trivial⟩ ?_
        refine J.draw [.ex _, .ex _, .ex _, .ex _, .ex _, .ex _, .ex _, .ex _, .ex _, .ex _, .ex _] rfl rfl ⟨fun W1 i1 e1 _ => O.fa rfl <| D.ex, fun W1 i1 e1 _ => O.ldB rfl hb1.to rfl <| D.ex, fun W1 i1 e1 _ => O.mv rfl <| D.ex, fun W1 i1 e1 _ => O.ia (j := k) rfl rfl rfl hjx <| D.ex, fun W1 i1 e1 _ => O.ldC rfl (hwx _ Lf.s) <| D.ex, fun W1 i1 e1 _ => O.fa rfl <| D.ex, fun W1 i1 e1 _ => O.ldB rfl hb2.to rfl <| D.ex, fun W1 i1 e1 _ => O.mv rfl <| D.ex, fun W1 i1 e1 _ => O.ia (j := k) rfl rfl rfl hjy <| D.ex, fun W1 i1 e1 _ => O.ldC rfl (hwy _ Lf.s) <| D.ex, fun W1 i1 e1 _ => O.ne rfl rfl <| D.ex, trivial⟩ ?_
        intro W1 i1 e1
        refine JO.nil <| J.condD rfl (fun h37 => ?_) (fun h37 => ?_)
        · skip
          refine J.seq <| J.reg rfl <| O.as rfl <| JO.nil <| J.ret1 rfl (.tmp rfl) fun W' iE iP => ?_
          congr 1
          refine (decide_eq_false fun he => h37 ?_).symm
          have := (Prod.mk.inj he).2
          rw [this, hv] at hu
          injection hu with hu
          omega
        · skip
          refine J.skip <| J.bend <| J.reg rfl <| O.mv rfl <| O.add rfl rfl (wI (by omega)) <| O.as rfl <| JO.nil <| ?_
          have huv : u = v := by omega
          have hd2 : l.take (k + 1) = l'.take (k + 1) := by
            rw [List.take_add_one, List.take_add_one, hd, hu, hv, huv]
          exact J.at' (k + 1) ⟨rfl, rfl, rfl, trivial⟩ ⟨⟨inferInstance, inferInstance, inferInstance, by omega, hd2⟩, by omega⟩
      · skip
        refine J.exit rfl <| J.seq <| J.reg rfl <| O.as rfl <| JO.nil <| J.ret1 rfl (.tmp rfl) fun W' iE iP => ?_
        have hkm : k = m := by omega
        rw [hkm, List.take_of_length_le (by omega), List.take_of_length_le (by omega)] at hd
        congr 1
        simp at hg11
        rw [hd, hg11]
        simp
end
end Go.Proofs.YtcaikjefkkejbaaGreat
