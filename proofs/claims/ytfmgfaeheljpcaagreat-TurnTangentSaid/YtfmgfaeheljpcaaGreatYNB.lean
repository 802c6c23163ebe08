/- Numbers, plain: square roots rounded down, powers of two as words. -/
import Derived.Test.YtfmgfaeheljpcaaGreatYNUM
set_option linter.unusedVariables false
set_option linter.unusedSimpArgs false
namespace Go.Num
/-- the square root, rounded down -/
def rt : Nat → Nat
  | 0 => 0
  | n + 1 => if (rt n + 1) * (rt n + 1) ≤ n + 1 then rt n + 1 else rt n
theorem rt_spec (n : Nat) : rt n * rt n ≤ n ∧ n < (rt n + 1) * (rt n + 1) := by
  induction n with
  | zero => exact ⟨Nat.le_refl _, by decide⟩
  | succ n ih =>
    obtain ⟨h1, h2⟩ := ih
    simp only [rt]
    split
    · rename_i h
      refine ⟨h, ?_⟩
      have : (rt n + 1 + 1) * (rt n + 1 + 1) = (rt n + 1) * (rt n + 1) + 2 * (rt n + 1) + 1 := by grind
      omega
    · rename_i h
      exact ⟨by omega, by omega⟩
theorem sq_lt {x y : Nat} (h : x * x < y * y) : x < y := by
  by_cases h1 : x < y
  · exact h1
  · have := Nat.mul_le_mul (Nat.le_of_not_lt h1) (Nat.le_of_not_lt h1)
    omega
theorem rt_eq {n s : Nat} (h1 : s * s ≤ n) (h2 : n < (s + 1) * (s + 1)) : rt n = s := by
  obtain ⟨g1, g2⟩ := rt_spec n
  have k1 : rt n < s + 1 := sq_lt (by omega)
  have k2 : s < rt n + 1 := sq_lt (by omega)
  omega
theorem rt_pos {n : Nat} (h : n ≠ 0) : 0 < rt n := by
  have := (rt_spec n).2
  by_cases h0 : rt n = 0
  · rw [h0] at this; omega
  · omega
/-- Newton's step stays above -/
theorem newton {a x : Nat} (hx : 0 < x) : rt a ≤ (x + a / x) / 2 := by
  obtain ⟨h1, h2⟩ := rt_spec a
  generalize rt a = s at *
  by_cases h : s ≤ (x + a / x) / 2
  · exact h
  · exfalso
    have h3 : x + a / x + 1 ≤ 2 * s := by omega
    have h4 : a < (a / x + 1) * x := by
      have := Nat.div_add_mod a x
      have := Nat.mod_lt a hx
      rw [Nat.add_mul, Nat.mul_comm (a / x)]; omega
    obtain ⟨q, hq⟩ : ∃ q, q = a / x + 1 := ⟨_, rfl⟩
    rw [← hq] at h4
    have h5 : x + q ≤ 2 * s := by omega
    have h6 : q * x ≤ s * s := by
      by_cases hxs : x ≤ s
      · obtain ⟨e, rfl⟩ : ∃ e, s = x + e := ⟨s - x, by omega⟩
        have : q ≤ x + 2 * e := by omega
        have h7 := Nat.mul_le_mul_right x this
        have : (x + e) * (x + e) = (x + 2 * e) * x + e * e := by grind
        omega
      · obtain ⟨e, he⟩ : ∃ e, x = s + e := ⟨x - s, by omega⟩
        subst he
        have h8 : q + e ≤ s := by omega
        obtain ⟨f, rfl⟩ : ∃ f, s = q + e + f := ⟨s - q - e, by omega⟩
        have : (q + e + f) * (q + e + f) = q * (q + e + f + e) + (e * e + 2 * (e * f) + f * q + f * f) := by grind
        omega
    omega
theorem newton_end {a x : Nat} (hx : 0 < x) (h : x ≤ (x + a / x) / 2) (hr : rt a ≤ x) : rt a = x := by
  have h1 : x ≤ a / x := by omega
  have h2 : x * x ≤ a := Nat.le_trans (Nat.mul_le_mul_right x h1) (Nat.div_mul_le_self a x)
  have h3 := (rt_spec a).2
  have h4 : x < rt a + 1 := sq_lt (by omega)
  omega
theorem rt_lt_pow {a B n : Nat} (h : a < 2 ^ B) (hn : B ≤ 2 * n) : rt a < 2 ^ n := by
  refine sq_lt ?_
  rw [← Nat.pow_add, ← Nat.two_mul]
  exact Nat.lt_of_le_of_lt (rt_spec a).1 (Nat.lt_of_lt_of_le h (Nat.pow_le_pow_right (by decide) hn))
theorem pow_words (n : Nat) : 4294967296 ^ (n / 32) * 2 ^ (n % 32) = 2 ^ n := by
  rw [show (4294967296 : Nat) = 2 ^ 32 from rfl, ← Nat.pow_mul, ← Nat.pow_add]
  congr 1
  omega
theorem dig_pow (n : Nat) : dig (2 ^ n) = (List.replicate (n / 32 + 1) 0).set (n / 32) (2 ^ (n % 32)) := by
  have hb : 2 ^ (n % 32) < 4294967296 := Nat.lt_of_lt_of_le (Nat.pow_lt_pow_right (by decide) (Nat.mod_lt n (by decide))) (by decide)
  have hv : val ((List.replicate (n / 32 + 1) 0).set (n / 32) (2 ^ (n % 32))) = 2 ^ n := by
    have := val_set (l := List.replicate (n / 32 + 1) 0) (k := n / 32) (d := 2 ^ (n % 32)) (by simp)
    rw [List.take_of_length_le (by simp), List.take_replicate, val_zeros, Nat.zero_add, pow_words] at this
    exact this
  have hw : Words ((List.replicate (n / 32 + 1) 0).set (n / 32) (2 ^ (n % 32))) := by
    intro y hy
    rcases List.mem_or_eq_of_mem_set hy with h | h
    · have := List.eq_of_mem_replicate h; omega
    · omega
  rw [← hv]
  refine dig_val hw (top_trim hw (by simp) ?_)
  rw [hv, List.length_set, List.length_replicate, Nat.add_sub_cancel, ← pow_words n]
  exact Nat.le_mul_of_pos_right _ (Nat.two_pow_pos _)
theorem cmpI_tri (a b : Int) : (a < b ∧ cmpI a b = -1) ∨ (a = b ∧ cmpI a b = 0) ∨ (b < a ∧ cmpI a b = 1) := by
  unfold cmpI
  split
  · left; exact ⟨by assumption, rfl⟩
  · split
    · right; right; exact ⟨by omega, rfl⟩
    · right; left; exact ⟨by omega, rfl⟩
theorem val_digit {l : List Nat} {j x : Nat} (h : l[j]? = some x) : val l = val (l.take j) + 4294967296 ^ j * (x + 4294967296 * val (l.drop (j + 1))) := by
  have hj : j < l.length := (List.getElem?_eq_some_iff.1 h).1
  rw [val_split l j (by omega), val_drop h]
end Go.Num
