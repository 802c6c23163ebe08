/- Numbers: nothing is left to be taken out. -/
import Derived.Test.YtfmgfaeheljpcaaGreatYTO
set_option linter.unusedVariables false
set_option linter.unusedSimpArgs false
namespace Go.Tow
open Go Go.Num Go.Proofs.YtfmgfaeheljpcaaGreat
/-- root i occurs in a number -/
def nd (x : Nm) (i : Nat) : Prop := oc (toL x.k x.a) i ∨ ∃ q l, i < q ∧ (toT x.k x.t)[q]? = some l ∧ oc l i
/-- all roots occur -/
def Tm (x : Nm) : Prop := ∀ i, i < x.k → nd x i
theorem woA_mem {α : Type} {i : Nat} {l : List α} : ∀ {p n : Nat} {x : α}, l[n]? = some x → (p + n) / 2 ^ i % 2 = 0 → x ∈ woA i p l := by
  induction l with
  | nil => intro p n x h; simp at h
  | cons y l ih =>
    intro p n x h hb
    cases n with
    | zero =>
      simp at h
      subst h
      simp only [woA]
      rw [if_pos (by simpa using hb)]; exact List.mem_cons_self ..
    | succ n =>
      have := ih (p := p + 1) (n := n) (x := x) (by simpa using h) (by rw [← hb]; congr 2; omega)
      simp only [woA]
      split
      · exact List.mem_cons_of_mem _ this
      · exact this
theorem rm_zero {k i : Nat} {b : El (k + 1)} (hi : i ≤ k) (ho : ¬ oc (toL (k + 1) b) i) (h : rm k i b = zero k) : b = zero (k + 1) := (eq_zero_iff (k + 1) b).2 fun x hx => Classical.byContradiction fun h0 => by
  obtain ⟨p, hp⟩ := List.getElem?_of_mem hx
  by_cases hb : p / 2 ^ i % 2 = 1
  · exact ho ⟨p, x, hp, hb, h0⟩
  · have h1 : x ∈ woA i 0 (toL (k + 1) b) := woA_mem hp (by rw [Nat.zero_add]; omega)
    have h2 : toL k (rm k i b) = woA i 0 (toL (k + 1) b) := toL_rm hi
    rw [← h2, h] at h1
    exact h0 ((eq_zero_iff k (zero k)).1 rfl x h1)
theorem oc_top {k : Nat} {a : El (k + 1)} (h : a.2 ≠ zero k) : oc (toL (k + 1) a) k := Classical.byContradiction fun ho => h ((oc_halves ho).1 rfl)
theorem oc_left {k i : Nat} {a : El (k + 1)} (hi : i < k) (h : oc (toL k a.1) i) : oc (toL (k + 1) a) i := Classical.byContradiction fun ho => ((oc_halves ho).2 hi).1 h
theorem oc_right {k i : Nat} {a : El (k + 1)} (hi : i < k) (h : oc (toL k a.2) i) : oc (toL (k + 1) a) i := Classical.byContradiction fun ho => ((oc_halves ho).2 hi).2 h
theorem oc_big {k i : Nat} {a : El k} (h : k ≤ i) : ¬ oc (toL k a) i := fun ⟨p, x, h1, h2, _⟩ => by
  have := (List.getElem?_eq_some_iff.1 h1).1
  rw [toL_length] at this
  rw [Nat.div_eq_of_lt (Nat.lt_of_lt_of_le this (Nat.pow_le_pow_right (by decide) h))] at h2
  cases h2
theorem oc_split {k i : Nat} {a : El (k + 1)} (h : oc (toL (k + 1) a) i) : oc (toL k a.1) i ∨ oc (toL k a.2) i ∨ (i = k ∧ a.2 ≠ zero k) := by
  obtain ⟨p, x, h1, h2, h3⟩ := h
  have h1 : (toL k a.1 ++ toL k a.2)[p]? = some x := h1
  by_cases hp : p < 2 ^ k
  · rw [List.getElem?_append_left (by rw [toL_length]; exact hp)] at h1
    exact .inl ⟨p, x, h1, h2, h3⟩
  · rw [List.getElem?_append_right (by rw [toL_length]; omega), toL_length] at h1
    have hlt := (List.getElem?_eq_some_iff.1 h1).1
    rw [toL_length] at hlt
    by_cases hik : i < k
    · refine .inr (.inl ⟨p - 2 ^ k, x, h1, ?_, h3⟩)
      obtain ⟨d, hd⟩ : ∃ d, k = i + 1 + d := ⟨k - i - 1, by omega⟩
      have e : p = p - 2 ^ k + 2 ^ i * (2 * 2 ^ d) := by
        have : 2 ^ k = 2 ^ i * (2 * 2 ^ d) := by rw [hd, Nat.pow_add, Nat.pow_succ, Nat.mul_assoc]
        omega
      rw [e, Nat.add_mul_div_left _ _ (Nat.two_pow_pos i), Nat.add_mul_mod_self_left] at h2
      exact h2
    · by_cases e : i = k
      · exact .inr (.inr ⟨e, fun h0 => h3 ((eq_zero_iff k a.2).1 h0 x (List.mem_of_getElem? h1))⟩)
      · exfalso
        have : p < 2 ^ i := Nat.lt_of_lt_of_le (show p < 2 ^ (k + 1) by rw [Nat.pow_succ]; omega) (Nat.pow_le_pow_right (by decide) (by omega))
        rw [Nat.div_eq_of_lt this] at h2
        cases h2
theorem oc_rm : ∀ {k i j : Nat} {a : El (k + 1)}, i ≤ j → j < k → ¬ oc (toL (k + 1) a) i → oc (toL (k + 1) a) (j + 1) → oc (toL k (rm k i a)) j := by
  intro k
  induction k with
  | zero => intro i j a _ h; omega
  | succ k ih =>
    intro i j a hij hj hno h
    obtain ⟨n1, n2⟩ := (oc_halves hno).2 (show i < k + 1 by omega)
    rw [show rm (k + 1) i a = pr (rm k i a.1) (rm k i a.2) from if_neg (by omega)]
    rcases oc_split h with h | h | ⟨h, h0⟩
    · have hjk : j < k := by
        by_cases e : j < k
        · exact e
        · exact absurd h (oc_big (by omega))
      exact oc_left hjk (ih hij hjk n1 h)
    · have hjk : j < k := by
        by_cases e : j < k
        · exact e
        · exact absurd h (oc_big (by omega))
      exact oc_right hjk (ih hij hjk n2 h)
    · obtain rfl : j = k := by omega
      exact oc_top fun e => h0 (rm_zero hij n2 e)
theorem nd_rm {m i j : Nat} {T : Tw (m + 1)} {c : El (m + 1)} (hi : i ≤ m) (hno : ¬ nd ⟨m + 1, T, c⟩ i) (hij : i ≤ j) (hj : j < m) (h : nd ⟨m + 1, T, c⟩ (j + 1)) : nd ⟨m, rmT m i T, rm m i c⟩ j := by
  rcases h with h | ⟨q, l, hq, hl, ho⟩
  · exact .inl (oc_rm hij hj (fun e => hno (.inl e)) h)
  · have hqm : q < (toT (m + 1) T).length := (List.getElem?_eq_some_iff.1 hl).1
    rw [toT_length] at hqm
    obtain ⟨e, e1, _, _⟩ := Tw.at (t := T) hqm
    have hl : (toT (m + 1) T)[q]? = some l := hl
    rw [hl] at e1
    injection e1 with e1
    subst e1
    have hn : ¬ oc (toL q e) i := fun h => hno (.inr ⟨q, _, by omega, hl, h⟩)
    obtain ⟨q, rfl⟩ : ∃ q', q = q' + 1 := ⟨q - 1, by omega⟩
    refine .inr ⟨q, wo (toL (q + 1) e) i, by omega, ?_, ?_⟩
    · show (toT m (rmT m i T))[q]? = _
      rw [toT_rmT hi, List.getElem?_append_right (by rw [List.length_take, toT_length]; omega), List.length_take, toT_length, Nat.min_eq_left (by omega), List.getElem?_map, List.getElem?_drop, show i + 1 + (q - i) = q + 1 by omega, hl]
      rfl
    · rw [← toL_rm (show i ≤ q by omega)]
      exact oc_rm hij (by omega) hn ho
end Go.Tow
