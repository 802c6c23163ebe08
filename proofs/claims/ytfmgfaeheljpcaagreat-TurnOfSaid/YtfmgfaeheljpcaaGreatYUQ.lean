/- rational numbers, plain: sizes, fractions. -/
import Derived.Test.YtfmgfaeheljpcaaGreatYNB
set_option linter.unusedVariables false
set_option linter.unusedSimpArgs false
namespace Go.Num
theorem szl {n p : Nat} (h : n < 2 ^ p) (hp : p ≤ 8796093022208) : (dig n).length ≤ 274877906945 := by
  have h1 : n < 4294967296 ^ (p / 32 + 1) := by
    rw [show 4294967296 = 2 ^ 32 from rfl, ← Nat.pow_mul]
    exact Nat.lt_of_lt_of_le h (Nat.pow_le_pow_right (by decide) (by omega))
  have := dig_len_le h1
  omega
/-- an integer of at most p bits -/
def Zs (p : Nat) (z : Int) : Prop := z.natAbs < 2 ^ p
theorem Zs.len {p : Nat} {z : Int} (h : Zs p z) (hp : p ≤ 8796093022208) : (dig z.natAbs).length ≤ 274877906945 := szl h hp
theorem Zs.mono {p q : Nat} {z : Int} (h : Zs p z) (hp : p ≤ q) : Zs q z := Nat.lt_of_lt_of_le h (Nat.pow_le_pow_right (by decide) hp)
theorem Zs.mul {p q : Nat} {x y : Int} (h : Zs p x) (k : Zs q y) : Zs (p + q) (x * y) := by
  unfold Zs at *
  rw [Int.natAbs_mul, Nat.pow_add]
  exact Nat.mul_lt_mul'' h k
theorem Zs.add {p q : Nat} {x y : Int} (h : Zs p x) (k : Zs q y) : Zs (max p q + 1) (x + y) := by
  have h1 := h.mono (Nat.le_max_left p q)
  have h2 := k.mono (Nat.le_max_right p q)
  unfold Zs at *
  have := Int.natAbs_add_le x y
  rw [Nat.pow_succ]
  omega
theorem Zs.neg {p : Nat} {x : Int} (h : Zs p x) : Zs p (-x) := by
  unfold Zs at *
  rwa [Int.natAbs_neg]
theorem Zs.gcd {p : Nat} {x y : Int} (h : Zs p y) (h0 : y ≠ 0) : Zs p (Int.gcd x y : Int) := by
  unfold Zs at *
  have : Int.gcd x y ≤ y.natAbs := Nat.le_of_dvd (by omega) (Int.gcd_dvd_natAbs_right x y)
  omega
theorem Zs.one {p : Nat} (hp : 1 ≤ p) : Zs p 1 := Nat.lt_of_lt_of_le (by decide) (Nat.pow_le_pow_right (by decide) hp : 2 ^ 1 ≤ 2 ^ p)
theorem Zs.zero {p : Nat} : Zs p 0 := Nat.two_pow_pos p
structure Qs (p : Nat) (x : Rat) : Prop where
  n : Zs p x.num
  d : Zs p (x.den : Int)
theorem Qs.neg {p : Nat} {x : Rat} (h : Qs p x) : Qs p (-x) := ⟨by rw [Rat.neg_num]; exact h.n.neg, by rw [Rat.neg_den]; exact h.d⟩
theorem fdiv_one (a : Int) : a.fdiv 1 = a := by rw [Int.fdiv_eq_ediv_of_nonneg _ (by decide), Int.ediv_one]
theorem lowest_num {a b : Int} (hb : b ≠ 0) : a.fdiv (if b < 0 then -(Int.gcd a b : Int) else (Int.gcd a b : Int)) = (Rat.divInt a b).num := by
  rw [Rat.num_divInt, Int.gcd_comm b a]
  split
  · rename_i h
    rw [show a.fdiv (-(Int.gcd a b : Int)) = (-a).fdiv (Int.gcd a b : Int) from by rw [← Int.neg_fdiv_neg, Int.neg_neg], Int.sign_eq_neg_one_of_neg h, Int.fdiv_eq_ediv_of_nonneg _ (by omega)]
    congr 1
    omega
  · rw [Int.sign_eq_one_of_pos (by omega), Int.one_mul, Int.fdiv_eq_ediv_of_nonneg _ (by omega)]
theorem lowest_den {a b : Int} (hb : b ≠ 0) : b.fdiv (if b < 0 then -(Int.gcd a b : Int) else (Int.gcd a b : Int)) = ((Rat.divInt a b).den : Int) := by
  rw [Rat.den_divInt, if_neg hb, Int.gcd_comm b a, Int.natCast_ediv]
  split
  · rw [show b.fdiv (-(Int.gcd a b : Int)) = (-b).fdiv (Int.gcd a b : Int) from by rw [← Int.neg_fdiv_neg, Int.neg_neg], Int.fdiv_eq_ediv_of_nonneg _ (by omega)]
    congr 1
    omega
  · rw [Int.fdiv_eq_ediv_of_nonneg _ (by omega)]
    congr 1
    omega
theorem gcd_ne {a b : Int} (hb : b ≠ 0) : Int.gcd a b ≠ 0 := fun h => hb (Int.gcd_eq_zero_iff.1 h).2
theorem Qs.addNum {p q : Nat} {x y : Rat} (h : Qs p x) (k : Qs q y) : Zs (p + q + 1) (x.num * y.den + y.num * x.den) := by
  have h1 := (h.n.mul k.d).add (k.n.mul h.d)
  exact h1.mono (by omega)
theorem divInt_nat (a : Int) (b : Nat) : Rat.divInt a (b : Int) = mkRat a b := Rat.divInt_ofNat a b
theorem add_divInt (x y : Rat) : x + y = Rat.divInt (x.num * y.den + y.num * x.den) ((x.den : Int) * y.den) := by
  rw [Rat.add_def', ← Int.natCast_mul, divInt_nat]
theorem mul_divInt (x y : Rat) : x * y = Rat.divInt (x.num * y.num) ((x.den : Int) * y.den) := by
  rw [Rat.mul_def', ← Int.natCast_mul, divInt_nat]
theorem div_divInt (x y : Rat) (h : y ≠ 0) : x / y = Rat.divInt (x.num * y.den) ((x.den : Int) * y.num) := by
  rw [Rat.div_def, Rat.inv_def]
  conv => lhs; rw [← Rat.num_divInt_den x]
  rw [Rat.divInt_mul_divInt]
theorem den1 {x : Rat} (h : (x.den : Int) = 1) : x = (x.num : Rat) := Rat.ext rfl (by show x.den = 1; omega)
theorem den1_add {x y : Rat} (h : (x.den : Int) = 1) (k : (y.den : Int) = 1) : x + y = ((x.num + y.num : Int) : Rat) := by
  conv => lhs; rw [den1 h, den1 k]
  norm_cast
theorem den1_mul {x y : Rat} (h : (x.den : Int) = 1) (k : (y.den : Int) = 1) : x * y = ((x.num * y.num : Int) : Rat) := by
  conv => lhs; rw [den1 h, den1 k]
  norm_cast
theorem den_ne (x : Rat) : (x.den : Int) ≠ 0 := by have := x.den_nz; omega
theorem Zs.divInt_num {p : Nat} {a b : Int} (ha : Zs p a) : Zs p (Rat.divInt a b).num := by
  unfold Zs at *
  rw [Rat.num_divInt]
  have h1 : (b.sign * a).natAbs ≤ a.natAbs := by
    rw [Int.natAbs_mul]
    have : b.sign.natAbs ≤ 1 := by rw [Int.natAbs_sign]; split <;> omega
    have := Nat.mul_le_mul_right a.natAbs this
    omega
  have h2 : ((b.sign * a) / (Int.gcd b a : Int)).natAbs ≤ (b.sign * a).natAbs := by
    by_cases hg : Int.gcd b a = 0
    · rw [hg]; simp
    · have hd : (Int.gcd b a : Int) ∣ b.sign * a := Int.dvd_mul_of_dvd_right (Int.gcd_dvd_right b a)
      obtain ⟨c, hc⟩ := hd
      rw [hc, Int.mul_ediv_cancel_left _ (by omega), Int.natAbs_mul]
      exact Nat.le_mul_of_pos_left _ (Nat.pos_of_ne_zero (by rw [Int.natAbs_natCast]; exact hg))
  omega
theorem Zs.divInt_den {p : Nat} {a b : Int} (hb : Zs p b) (h0 : b ≠ 0) : Zs p ((Rat.divInt a b).den : Int) := by
  unfold Zs at *
  rw [Rat.den_divInt, if_neg h0]
  have := Nat.div_le_self b.natAbs (Int.gcd b a)
  rw [Int.natAbs_natCast]
  omega
theorem Qs.divInt {p : Nat} {a b : Int} (ha : Zs p a) (hb : Zs p b) (h0 : b ≠ 0) : Qs p (Rat.divInt a b) := ⟨ha.divInt_num, hb.divInt_den h0⟩
theorem Qs.add {p q : Nat} {x y : Rat} (h : Qs p x) (k : Qs q y) : Qs (p + q + 1) (x + y) := by
  rw [add_divInt]
  exact Qs.divInt (h.addNum k) ((h.d.mul k.d).mono (by omega)) (Int.mul_ne_zero (den_ne x) (den_ne y))
theorem Qs.mul {p q : Nat} {x y : Rat} (h : Qs p x) (k : Qs q y) : Qs (p + q) (x * y) := by
  rw [mul_divInt]
  exact Qs.divInt (h.n.mul k.n) (h.d.mul k.d) (Int.mul_ne_zero (den_ne x) (den_ne y))
theorem Qs.int {p : Nat} {z : Int} (h : Zs p z) (hp : 1 ≤ p) : Qs p (z : Rat) := ⟨h, Zs.one hp⟩
theorem cmpI_pos {z : Int} : cmpI z 0 > 0 ↔ z > 0 := by
  unfold cmpI
  split
  · constructor <;> intro <;> omega
  · split
    · constructor <;> intro <;> omega
    · constructor <;> intro <;> omega
def cmpQ (x y : Rat) : Int := if x < y then -1 else if y < x then 1 else 0
theorem cmpQ_mul (x y : Rat) : cmpI (x.num * y.den) (y.num * x.den) = cmpQ x y := by
  unfold cmpI cmpQ
  simp only [Rat.lt_iff, gt_iff_lt]
theorem cmpQ_sign {x y : Rat} (h : cmpI x.num 0 < cmpI y.num 0) : cmpQ x y = -1 := by
  unfold cmpQ
  rw [if_pos]
  rw [Rat.lt_iff]
  have hx := x.den_pos
  have hy := y.den_pos
  rcases cmpI_tri x.num 0 with ⟨h1, e1⟩ | ⟨h1, e1⟩ | ⟨h1, e1⟩ <;> rcases cmpI_tri y.num 0 with ⟨h2, e2⟩ | ⟨h2, e2⟩ | ⟨h2, e2⟩ <;> rw [e1, e2] at h <;> first | omega | skip
  · rw [h2, Int.zero_mul]; exact Int.mul_neg_of_neg_of_pos h1 (by omega)
  · have := Int.mul_neg_of_neg_of_pos h1 (show (0 : Int) < y.den by omega)
    have := Int.mul_pos h2 (show (0 : Int) < x.den by omega)
    omega
  · rw [h1, Int.zero_mul]; exact Int.mul_pos h2 (by omega)
theorem cmpQ_swap (x y : Rat) : cmpQ x y = - cmpQ y x := by
  unfold cmpQ
  by_cases h1 : x < y
  · have : ¬ y < x := by grind
    rw [if_pos h1, if_neg this, if_pos h1]
  · rw [if_neg h1]
    by_cases h2 : y < x
    · rw [if_pos h2, if_pos h2]; rfl
    · rw [if_neg h2, if_neg h2, if_neg h1]; rfl
end Go.Num
