/- Rational numbers: the program's and the reference's: contracts, first part. -/
import Derived.Test.YtcobdnnfmhfenaaGreatKd
set_option linter.unusedVariables false
set_option linter.unusedSimpArgs false
set_option maxRecDepth 10000
set_option maxHeartbeats 1000000
namespace Go.Proofs.YtcobdnnfmhfenaaGreat
open Go Go.Rx Go.Num

/-! sizes -/
theorem szl {n p : Nat} (h : n < 2 ^ p) (hp : p ≤ 17592186044416) : (dig n).length ≤ 1099511627776 := by
  have h1 : n < 4294967296 ^ (p / 32 + 1) := by
    rw [show 4294967296 = 2 ^ 32 from rfl, ← Nat.pow_mul]
    exact Nat.lt_of_lt_of_le h (Nat.pow_le_pow_right (by decide) (by omega))
  have := dig_len_le h1
  omega
/-- an integer of at most p bits -/
def Zs (p : Nat) (z : Int) : Prop := z.natAbs < 2 ^ p
theorem Zs.len {p : Nat} {z : Int} (h : Zs p z) (hp : p ≤ 17592186044416) : (dig z.natAbs).length ≤ 1099511627776 := szl h hp
theorem Zs.mono {p q : Nat} {z : Int} (h : Zs p z) (hp : p ≤ q) : Zs q z := Nat.lt_of_lt_of_le h (Nat.pow_le_pow_right (by decide) hp)
theorem Zs.mul {p q : Nat} {x y : Int} (h : Zs p x) (k : Zs q y) : Zs (p + q) (x * y) := by
  unfold Zs at *
  rw [Int.natAbs_mul, Nat.pow_add]
  exact Nat.mul_lt_mul'' h k
theorem Zs.add {p q : Nat} {x y : Int} (h : Zs p x) (k : Zs q y) : Zs (max p q + 1) (x + y) := by
  have h1 := h.mono (Nat.le_max_left p q)
  have h2 := k.mono (Nat.le_max_right p q)
  unfold Zs at *
  have := Int.natAbs_add_le x y
  rw [Nat.pow_succ]
  omega
theorem Zs.neg {p : Nat} {x : Int} (h : Zs p x) : Zs p (-x) := by
  unfold Zs at *
  rwa [Int.natAbs_neg]
theorem Zs.gcd {p : Nat} {x y : Int} (h : Zs p y) (h0 : y ≠ 0) : Zs p (Int.gcd x y : Int) := by
  unfold Zs at *
  have : Int.gcd x y ≤ y.natAbs := Nat.le_of_dvd (by omega) (Int.gcd_dvd_natAbs_right x y)
  omega
theorem Zs.one {p : Nat} (hp : 1 ≤ p) : Zs p 1 := Nat.lt_of_lt_of_le (by decide) (Nat.pow_le_pow_right (by decide) hp : 2 ^ 1 ≤ 2 ^ p)
theorem Zs.zero {p : Nat} : Zs p 0 := Nat.two_pow_pos p
/-- a rational number with a numerator and a denominator of at most p bits -/
structure Qs (p : Nat) (x : Rat) : Prop where
  n : Zs p x.num
  d : Zs p (x.den : Int)
theorem Qs.mono {p q : Nat} {x : Rat} (h : Qs p x) (hp : p ≤ q) : Qs q x := ⟨h.n.mono hp, h.d.mono hp⟩
theorem Qs.neg {p : Nat} {x : Rat} (h : Qs p x) : Qs p (-x) := ⟨by rw [Rat.neg_num]; exact h.n.neg, by rw [Rat.neg_den]; exact h.d⟩

/-! data -/
/-- A rational number as it lies in memory. -/
abbrev Raw := (Bool × List Nat) × (Bool × List Nat)
abbrev RQ : Rep Raw := RP RI RI
def cq (x : Rat) : Raw := (ci x.num, ci x.den)
theorem mkQ {W : GW} {a b : Bool × List Nat} {p1 p2 : Option Addr} {n1 c1 n2 c2 : Nat} (h1 : Sl RW W p1 n1 c1 a.2) (h2 : Sl RW W p2 n2 c2 b.2) : V RQ W (.agg #[.bool a.1, .slice p1 n1 c1, .bool b.1, .slice p2 n2 c2]) (a, b) :=
  ⟨_, ⟨[.bool a.1, .slice p1 n1 c1], [.bool b.1, .slice p2 n2 c2], rfl, ⟨[.bool a.1], [.slice p1 n1 c1], rfl, rfl, ⟨p1, n1, c1, rfl, h1⟩⟩, ⟨[.bool b.1], [.slice p2 n2 c2], rfl, rfl, ⟨p2, n2, c2, rfl, h2⟩⟩⟩, rfl⟩
theorem unQ {W : GW} {v : Value} {i : Raw} (h : V RQ W v i) : ∃ p1 n1 c1 p2 n2 c2, v = .agg #[.bool i.1.1, .slice p1 n1 c1, .bool i.2.1, .slice p2 n2 c2] ∧ Sl RW W p1 n1 c1 i.1.2 ∧ Sl RW W p2 n2 c2 i.2.2 := by
  obtain ⟨k1, k2, rfl, ⟨e1, e2, rfl, h1, p1, n1, c1, h2, h3⟩, ⟨f1, f2, rfl, g1, p2, n2, c2, g2, g3⟩⟩ := h.pair
  obtain rfl : e1 = [.bool i.1.1] := h1
  obtain rfl : f1 = [.bool i.2.1] := g1
  subst h2
  subst g2
  exact ⟨p1, n1, c1, p2, n2, c2, rfl, h3, g3⟩
theorem ci_inj {x y : Int} (h : ci x = ci y) : x = y := by
  have h1 : decide (x < 0) = decide (y < 0) := (Prod.mk.inj h).1
  have h2 : dig x.natAbs = dig y.natAbs := (Prod.mk.inj h).2
  have h3 : x.natAbs = y.natAbs := by rw [← val_dig x.natAbs, h2, val_dig]
  have h4 : x < 0 ↔ y < 0 := by
    constructor <;> intro h5
    · have := decide_eq_true h5; rw [h1] at this; exact of_decide_eq_true this
    · have := decide_eq_true h5; rw [← h1] at this; exact of_decide_eq_true this
  omega
theorem cq_inj {x y : Rat} (h : cq x = cq y) : x = y := by
  have h1 := ci_inj (Prod.mk.inj h).1
  have h2 := ci_inj (Prod.mk.inj h).2
  exact Rat.ext h1 (by exact_mod_cast h2)

/-! small functions -/
theorem rational_one_ok {W : GW} : Ok Tryz.prog 74 [] W fun W' r => V RI W' r (ci 1) := by
  refine Ok.enter Tryz.func74 rfl rfl rfl rfl fun W0 iEn => ?_
  refine J.seq <| J.reg rfl <| O.alloc fun W1 b1 i1 hl1 hc1 hb1 => JO.nil <| J.seq <| J.reg rfl <| O.call rfl (integer_FromInt_ok (z := 1) (by decide)) fun W2 v2 i2 e2 h2 => ?_
  obtain ⟨p2, m2, c2, rfl, hs2⟩ := unI h2
  refine O.st rfl rfl hl1.to rfl (by simp [oneC, Value.cells]) fun W4 i4 hc4 => JO.nil <| J.ret1 rfl (.cell rfl hc4 rfl) fun W' iE iP => ?_
  exact mkI hs2.to
theorem dig_one : dig 1 = [1] := (dig_val (l := [1]) (fun x hx => by simp at hx; subst hx; decide) (.inr ⟨1, rfl, by decide⟩)).symm ▸ rfl
theorem one_iff {z : Int} : (dig z.natAbs = [1] ∧ ¬ z < 0) ↔ z = 1 := by
  constructor
  · rintro ⟨h1, h2⟩
    have : z.natAbs = 1 := by rw [← val_dig z.natAbs, h1]; rfl
    omega
  · rintro rfl
    exact ⟨dig_one, by decide⟩
theorem len1 {l : List Nat} {u : Nat} (h : l.length = 1) (hu : l[0]? = some u) : l = [u] := by
  match l, h with
  | [x], _ => simp at hu; rw [hu]
theorem rational_isOne_ok {W : GW} {v : Value} {z : Int} (h : V RI W v (ci z)) : Ok Tryz.prog 71 [v] W fun W' r => r = .bool (decide (z = 1)) := by
  obtain ⟨p, m, c, rfl, hs⟩ := unI h
  replace hs : Sl RW W p m c (dig z.natAbs) := hs
  have hn := hs.hn
  have h1 := @one_iff z
  refine Ok.enter Tryz.func71 rfl rfl rfl rfl fun W0 iEn => ?_
  refine J.seq <| J.reg rfl <| O.box rfl fun W1 b1 i1 hb1 => O.as rfl <| JO.nil <| J.seq <| J.reg rfl <| O.fa rfl <| O.ldB rfl hb1.to rfl <| O.not rfl <| O.mv rfl <| ?_
  by_cases hg6 : ¬ z < 0
  · skip
    refine O.set (t := 6) (.bool true) rfl (by simp [ci, hg6]) <| O.gt rfl rfl <| O.fa rfl <| O.gt rfl rfl <| O.ldB rfl hb1.to rfl <| O.gt rfl rfl <| O.len rfl <| O.gt rfl rfl <| O.eq rfl rfl <| O.pickT rfl rfl <| O.mv rfl <| ?_
    by_cases hg12 : m = 1
    · skip
      refine O.set (t := 12) (.bool true) rfl (by simp only [Value.bool.injEq, decide_eq_true_eq, decide_eq_false_iff_not]; omega) <| O.gt rfl rfl <| O.fa rfl <| O.gt rfl rfl <| O.ldB rfl hb1.to rfl <| O.gt rfl rfl <| ?_
      obtain ⟨x, hx⟩ := xat (l := dig z.natAbs) (k := 0) (by omega)
      refine O.iaW (j := 0) rfl rfl rfl hs.to hx fun ba oa hcell => O.gt rfl rfl <| O.ldC rfl hcell <| O.gt rfl rfl <| O.eq rfl rfl <| O.pickT rfl rfl <| O.as rfl <| JO.nil <| J.ret1 rfl (.tmp rfl) fun W' iE iP => ?_
      have h2 := len1 (by omega) hx
      congr 1
      apply decide_eq_decide.2
      rw [← h1, h2]
      constructor
      · intro h3; exact ⟨by rw [show x = 1 from by omega], hg6⟩
      · rintro ⟨h3, _⟩; simp at h3; omega
    · skip
      refine O.set (t := 12) (.bool false) rfl (by simp only [Value.bool.injEq, decide_eq_true_eq, decide_eq_false_iff_not]; omega) <| O.gs rfl rfl rfl <| O.gs rfl rfl rfl <| O.gs rfl rfl rfl <| O.gs rfl rfl rfl <| O.gs rfl rfl rfl <| O.pickF rfl rfl <| O.as rfl <| JO.nil <| J.ret1 rfl (.tmp rfl) fun W' iE iP => ?_
      congr 1
      refine (decide_eq_false fun h3 => hg12 ?_).symm
      rw [hn, (h1.2 h3).1]; rfl
  · skip
    refine O.set (t := 6) (.bool false) rfl ((by have h6 : z < 0 := Classical.not_not.1 hg6; simp [ci, h6])) <| O.gs rfl rfl rfl <| O.gs rfl rfl rfl <| O.gs rfl rfl rfl <| O.gs rfl rfl rfl <| O.pickF rfl rfl <| O.mv rfl <| O.gs rfl rfl rfl <| O.gs rfl rfl rfl <| O.gs rfl rfl rfl <| O.gs rfl rfl rfl <| O.gs rfl rfl rfl <| O.pickF rfl rfl <| O.as rfl <| JO.nil <| J.ret1 rfl (.tmp rfl) fun W' iE iP => ?_
    congr 1
    refine (decide_eq_false fun h3 => hg6 ?_).symm
    omega
theorem ref02_one_ok {W : GW} {v : Value} {z : Int} (h : V RI W v (ci z)) : Ok Tryz.prog 61 [v] W fun W' r => r = .bool (decide (z = 1)) := by
  obtain ⟨p, m, c, rfl, hs⟩ := unI h
  replace hs : Sl RW W p m c (dig z.natAbs) := hs
  have hn := hs.hn
  have h1 := @one_iff z
  refine Ok.enter Tryz.func61 rfl rfl rfl rfl fun W0 iEn => ?_
  refine J.seq <| J.reg rfl <| O.box rfl fun W1 b1 i1 hb1 => O.as rfl <| JO.nil <| J.seq <| J.reg rfl <| O.fa rfl <| O.ldB rfl hb1.to rfl <| O.len rfl <| O.eq rfl rfl <| O.mv rfl <| ?_
  by_cases hg7 : m = 1
  · skip
    refine O.set (t := 7) (.bool true) rfl (by simp only [Value.bool.injEq, decide_eq_true_eq, decide_eq_false_iff_not]; omega) <| O.gt rfl rfl <| O.fa rfl <| O.gt rfl rfl <| O.ldB rfl hb1.to rfl <| O.gt rfl rfl <| ?_
    obtain ⟨x, hx⟩ := xat (l := dig z.natAbs) (k := 0) (by omega)
    refine O.iaW (j := 0) rfl rfl rfl hs.to hx fun ba oa hcell => O.gt rfl rfl <| O.ldC rfl hcell <| O.gt rfl rfl <| O.eq rfl rfl <| O.pickT rfl rfl <| O.mv rfl <| ?_
    by_cases hg14 : x = 1
    · skip
      refine O.set (t := 14) (.bool true) rfl (by simp only [Value.bool.injEq, decide_eq_true_eq, decide_eq_false_iff_not]; omega) <| O.gt rfl rfl <| O.fa rfl <| O.gt rfl rfl <| O.ldB rfl hb1.to rfl <| O.gt rfl rfl <| O.not rfl <| O.pickT rfl rfl <| O.as rfl <| JO.nil <| J.ret1 rfl (.tmp rfl) fun W' iE iP => ?_
      have h2 := len1 (by omega) hx
      rw [hg14] at h2
      congr 1
      rw [show (ci z).1 = decide (z < 0) from rfl]
      rw [← decide_not]
      apply decide_eq_decide.2
      rw [← h1, h2]
      simp
    · skip
      refine O.set (t := 14) (.bool false) rfl (by simp only [Value.bool.injEq, decide_eq_true_eq, decide_eq_false_iff_not]; omega) <| O.gs rfl rfl rfl <| O.gs rfl rfl rfl <| O.gs rfl rfl rfl <| O.pickF rfl rfl <| O.as rfl <| JO.nil <| J.ret1 rfl (.tmp rfl) fun W' iE iP => ?_
      have h2 := len1 (by omega) hx
      congr 1
      refine (decide_eq_false fun h3 => hg14 ?_).symm
      have := (h1.2 h3).1
      rw [h2] at this
      simpa using this
  · skip
    refine O.set (t := 7) (.bool false) rfl (by simp only [Value.bool.injEq, decide_eq_true_eq, decide_eq_false_iff_not]; omega) <| O.gs rfl rfl rfl <| O.gs rfl rfl rfl <| O.gs rfl rfl rfl <| O.gs rfl rfl rfl <| O.gs rfl rfl rfl <| O.pickF rfl rfl <| O.mv rfl <| O.gs rfl rfl rfl <| O.gs rfl rfl rfl <| O.gs rfl rfl rfl <| O.pickF rfl rfl <| O.as rfl <| JO.nil <| J.ret1 rfl (.tmp rfl) fun W' iE iP => ?_
    congr 1
    refine (decide_eq_false fun h3 => hg7 ?_).symm
    rw [hn, (h1.2 h3).1]; rfl
theorem rational_isZero_ok {W : GW} {v : Value} {z : Int} (h : V RI W v (ci z)) : Ok Tryz.prog 104 [v] W fun W' r => r = .bool (decide (z = 0)) := by
  obtain ⟨p, m, c, rfl, hs⟩ := unI h
  have hn : m = (dig z.natAbs).length := hs.hn
  have hz := @dig_len0 z.natAbs
  refine Ok.enter Tryz.func104 rfl rfl rfl rfl fun W0 iEn => ?_
  refine J.seq <| J.reg rfl <| O.box rfl fun W1 b1 i1 hb1 => O.as rfl <| JO.nil <| J.seq <| J.reg rfl <| O.fa rfl <| O.ldB rfl hb1.to rfl <| O.len rfl <| O.eq rfl rfl <| O.as rfl <| JO.nil <| J.ret1 rfl (.tmp rfl) fun W' iE iP => ?_
  congr 1
  apply decide_eq_decide.2
  omega
theorem fdiv_one (a : Int) : a.fdiv 1 = a := by rw [Int.fdiv_eq_ediv_of_nonneg _ (by decide), Int.ediv_one]
theorem rational_quo_ok {W : GW} {v v' : Value} {z z' : Int} (h : V RI W v (ci z)) (h' : V RI W v' (ci z')) (hl : (dig z.natAbs).length ≤ 1099511627776) (hl' : (dig z'.natAbs).length ≤ 1099511627776) (hz0 : z' ≠ 0) :
    Ok Tryz.prog 123 [v, v'] W fun W' r => V RI W' r (ci (z.fdiv z')) := by
  obtain ⟨p, m, c, rfl, hs⟩ := unI h
  obtain ⟨p', m', c', rfl, hs'⟩ := unI h'
  refine Ok.enter Tryz.func123 rfl rfl rfl rfl fun W0 iEn => ?_
  refine J.seq <| J.reg rfl <| O.box rfl fun W1 b1 i1 hb1 => O.box rfl fun W2 b2 i2 hb2 => O.alloc fun W3 b3 i3 hl3 hc3 hb3 => JO.nil <| J.seq <| J.seq <| J.reg rfl <| O.ldBw rfl hb2.to rfl <| O.call rfl (rational_isOne_ok (mkI hs'.to)) fun W4 v4 i4 e4 h4 => ?_
  subst h4
  refine JO.nil <| J.condD rfl (fun h9 => ?_) (fun h9 => ?_)
  · skip
    refine J.seq <| J.reg rfl <| O.ldBw rfl hb1.to rfl <| O.st rfl rfl hl3.to rfl (by simp [oneC, Value.cells]) fun W5 i5 hc5 => JO.nil <| J.ret1 rfl (.cell rfl hc5 rfl) fun W' iE iP => ?_
    rw [h9, fdiv_one]
    exact mkI hs.to
  · skip
    refine J.skip <| J.seq <| J.reg rfl <| O.ldBw rfl hb1.to rfl <| O.ldBw rfl hb2.to rfl <| O.call rfl (integer_DivMod_ok (mkI hs.to) (mkI hs'.to) hl hl' hz0) fun W5 v5 i5 e5 h5 => ?_
    obtain ⟨v6, v7, rfl, h6, h7⟩ := h5
    obtain ⟨p6, m6, c6, rfl, s6⟩ := unI h6
    obtain ⟨p7, m7, c7, rfl, s7⟩ := unI h7
    refine O.mv rfl <| O.ext rfl rfl <| O.ext rfl rfl <| O.ext rfl rfl <| O.alloc fun W6 b6 i6 hl6 hc6 hb6 => O.alloc fun W7 b7 i7 hl7 hc7 hb7 => ?_
    skip
    refine O.st rfl rfl hl6.to rfl (by simp [oneC, Value.cells]) fun W8 i8 hc8 => O.stC rfl rfl hl7.to rfl (by simp [oneC, Value.cells]) hc8 (by have : W6.size ≤ b7 := hb7; obtain ⟨_, hx⟩ := hc6; have := lt_of_heap hx; have : b6 < W6.size := this; omega) fun W9 i9 hc9 hc10 => O.as rfl <| JO.nil <| J.seq <| J.reg rfl <| O.ldVw rfl hc10 rfl <| O.st rfl rfl hl3.to rfl (by simp [oneC, Value.cells]) fun W10 i10 hc11 => JO.nil <| J.ret1 rfl (.cell rfl hc11 rfl) fun W' iE iP => ?_
    exact mkI s6.to
end Go.Proofs.YtcobdnnfmhfenaaGreat
