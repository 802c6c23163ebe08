/- Plain law: lists of words and natural numbers. No program here. -/
import Derived.Test.YtfmgfaeheljpcaaGreatYVO
set_option linter.unusedVariables false
set_option linter.unusedSimpArgs false
namespace Go.Num
theorem wI {x : Int} (h : -9223372036854775808 ≤ x ∧ x < 9223372036854775808) : IntKind.i64.wrap x = x := by
  have e : IntKind.i64.wrap x = if x % 18446744073709551616 ≥ 9223372036854775808 then x % 18446744073709551616 - 18446744073709551616 else x % 18446744073709551616 := by
    simp [IntKind.wrap, IntKind.bits, IntKind.signed]
  rw [e]; split <;> omega
theorem wU {x : Int} (h : 0 ≤ x ∧ x < 18446744073709551616) : IntKind.u64.wrap x = x := by
  have e : IntKind.u64.wrap x = x % 18446744073709551616 := by simp [IntKind.wrap, IntKind.bits, IntKind.signed]
  rw [e]; omega
theorem wUm (x : Int) : IntKind.u64.wrap x = x % 18446744073709551616 := by simp [IntKind.wrap, IntKind.bits, IntKind.signed]
theorem wW {x : Int} (h : 0 ≤ x ∧ x < 4294967296) : IntKind.u32.wrap x = x := by
  have e : IntKind.u32.wrap x = x % 4294967296 := by simp [IntKind.wrap, IntKind.bits, IntKind.signed]
  rw [e]; omega
theorem wWm (x : Int) : IntKind.u32.wrap x = x % 4294967296 := by simp [IntKind.wrap, IntKind.bits, IntKind.signed]
/-- The value of words to the base 2^32, the lowest first. -/
def val : List Nat → Nat
  | [] => 0
  | x :: l => x + 4294967296 * val l
/-- The words of a number. -/
def dig (n : Nat) : List Nat := if h : n = 0 then [] else (n % 4294967296) :: dig (n / 4294967296)
termination_by n
decreasing_by omega
def Words (l : List Nat) : Prop := ∀ x ∈ l, x < 4294967296
theorem Words.nil : Words [] := fun _ h => by cases h
theorem Words.cons {x : Nat} {l : List Nat} (h : x < 4294967296) (k : Words l) : Words (x :: l) := fun y hy => by
  rcases List.mem_cons.1 hy with rfl | hy
  · exact h
  · exact k y hy
theorem Words.hd {x : Nat} {l : List Nat} (h : Words (x :: l)) : x < 4294967296 := h x (List.mem_cons_self ..)
theorem Words.tl {x : Nat} {l : List Nat} (h : Words (x :: l)) : Words l := fun y hy => h y (List.mem_cons_of_mem _ hy)
theorem Words.app {l m : List Nat} (h : Words l) (k : Words m) : Words (l ++ m) := fun y hy => (List.mem_append.1 hy).elim (h y) (k y)
theorem Words.take {l : List Nat} (h : Words l) (k : Nat) : Words (l.take k) := fun y hy => h y (List.mem_of_mem_take hy)
theorem Words.drop {l : List Nat} (h : Words l) (k : Nat) : Words (l.drop k) := fun y hy => h y (List.mem_of_mem_drop hy)
theorem dig_zero : dig 0 = [] := by rw [dig]; simp
theorem dig_pos {n : Nat} (h : n ≠ 0) : dig n = (n % 4294967296) :: dig (n / 4294967296) := by rw [dig]; simp [h]
theorem val_dig (n : Nat) : val (dig n) = n := by
  induction n using Nat.strongRecOn with
  | _ n ih =>
    by_cases h : n = 0
    · subst h; rw [dig_zero]; rfl
    · rw [dig_pos h, val, ih _ (by omega)]; omega
theorem words_dig (n : Nat) : Words (dig n) := by
  induction n using Nat.strongRecOn with
  | _ n ih =>
    by_cases h : n = 0
    · subst h; rw [dig_zero]; exact .nil
    · rw [dig_pos h]; exact .cons (by omega) (ih _ (by omega))
theorem dig_eq_nil {n : Nat} : dig n = [] ↔ n = 0 := by
  constructor
  · intro h; have := val_dig n; rw [h] at this; exact this.symm
  · rintro rfl; exact dig_zero
theorem val_append (l m : List Nat) : val (l ++ m) = val l + 4294967296 ^ l.length * val m := by
  induction l with
  | nil => simp [val]
  | cons x l ih =>
    rw [List.cons_append, val, ih, val, List.length_cons, Nat.pow_succ, Nat.mul_add, Nat.add_assoc,
      Nat.mul_comm (4294967296 ^ l.length) 4294967296, Nat.mul_assoc]
theorem val_lt {l : List Nat} (h : Words l) : val l < 4294967296 ^ l.length := by
  induction l with
  | nil => simp [val]
  | cons x l ih =>
    have h1 := ih h.tl
    have h2 := h.hd
    rw [val, List.length_cons, Nat.pow_succ]
    omega
theorem val_take_succ {l : List Nat} {k x : Nat} (h : l[k]? = some x) : val (l.take (k + 1)) = val (l.take k) + 4294967296 ^ k * x := by
  have hk : k < l.length := by
    by_cases hh : k < l.length
    · exact hh
    · rw [List.getElem?_eq_none (by omega)] at h; cases h
  rw [List.take_add_one, h, val_append]
  simp [val, List.length_take, Nat.min_eq_left (Nat.le_of_lt hk)]
/-- No zero at the end. -/
def Trim (l : List Nat) : Prop := l = [] ∨ ∃ x, l[l.length - 1]? = some x ∧ x ≠ 0
theorem dig_val {l : List Nat} (hw : Words l) (ht : Trim l) : dig (val l) = l := by
  induction l with
  | nil => exact dig_zero
  | cons x l ih =>
    have hx := hw.hd
    rcases ht with h | ⟨y, hy, hne⟩
    · cases h
    · by_cases hl : l = []
      · subst hl
        simp at hy
        subst hy
        rw [dig_pos (by simp [val, hne])]
        simp only [val, Nat.mul_zero, Nat.add_zero]
        rw [Nat.mod_eq_of_lt hx, Nat.div_eq_of_lt hx, dig_zero]
      · have ht' : Trim l := by
          refine .inr ⟨y, ?_, hne⟩
          have : l.length ≠ 0 := fun h => hl (List.eq_nil_of_length_eq_zero h)
          rw [List.length_cons, show l.length + 1 - 1 = (l.length - 1) + 1 from by omega] at hy
          simpa using hy
        have ihh := ih hw.tl ht'
        have hv : val l ≠ 0 := by
          intro h0
          rw [h0, dig_zero] at ihh
          exact hl ihh.symm
        rw [val, dig_pos (by omega), show (x + 4294967296 * val l) % 4294967296 = x from by omega, show (x + 4294967296 * val l) / 4294967296 = val l from by omega, ihh]
theorem trim_dig (n : Nat) : Trim (dig n) := by
  induction n using Nat.strongRecOn with
  | _ n ih =>
    by_cases h : n = 0
    · subst h; rw [dig_zero]; exact .inl rfl
    · rw [dig_pos h]
      by_cases h2 : n / 4294967296 = 0
      · rw [h2, dig_zero]
        exact .inr ⟨n % 4294967296, rfl, by omega⟩
      · rcases ih (n / 4294967296) (by omega) with h3 | ⟨x, h3, h4⟩
        · exact absurd (dig_eq_nil.1 h3) h2
        · refine .inr ⟨x, ?_, h4⟩
          have : (dig (n / 4294967296)).length ≠ 0 := fun h => h2 (dig_eq_nil.1 (List.eq_nil_of_length_eq_zero h))
          rw [List.length_cons, show (dig (n / 4294967296)).length + 1 - 1 = ((dig (n / 4294967296)).length - 1) + 1 from by omega]
          simpa using h3
theorem dig_lb {n : Nat} (h : n ≠ 0) : 4294967296 ^ ((dig n).length - 1) ≤ n := by
  induction n using Nat.strongRecOn with
  | _ n ih =>
    rw [dig_pos h, List.length_cons, Nat.add_sub_cancel]
    by_cases h2 : n / 4294967296 = 0
    · rw [h2, dig_zero]; simp; omega
    · have h1 := ih (n / 4294967296) (by omega) h2
      have hl : (dig (n / 4294967296)).length ≠ 0 := fun hh => h2 (dig_eq_nil.1 (List.eq_nil_of_length_eq_zero hh))
      rw [show (dig (n / 4294967296)).length = (dig (n / 4294967296)).length - 1 + 1 from by omega, Nat.pow_succ]
      exact Nat.le_trans (Nat.mul_le_mul_right _ h1) (Nat.div_mul_le_self ..)
theorem dig_ub (n : Nat) : n < 4294967296 ^ (dig n).length := by
  have := val_lt (words_dig n)
  rwa [val_dig] at this
theorem dig_len_le {n k : Nat} (h : n < 4294967296 ^ k) : (dig n).length ≤ k := by
  by_cases h0 : n = 0
  · subst h0; rw [dig_zero]; simp
  · have h1 := dig_lb h0
    apply Classical.byContradiction
    intro hn
    have : 4294967296 ^ k ≤ 4294967296 ^ ((dig n).length - 1) := Nat.pow_le_pow_right (by decide) (by omega)
    omega
theorem len_mono {m n : Nat} (h : m ≤ n) : (dig m).length ≤ (dig n).length := dig_len_le (Nat.lt_of_le_of_lt h (dig_ub n))
theorem lt_of_len {m n : Nat} (h : (dig m).length < (dig n).length) : m < n := by
  apply Classical.byContradiction
  intro hn
  have := len_mono (m := n) (n := m) (by omega)
  omega
/-- The last word is not 0 if the value is great enough. -/
theorem top_trim {l : List Nat} (hw : Words l) (h0 : 0 < l.length) (h : 4294967296 ^ (l.length - 1) ≤ val l) : Trim l := by
  have hlt : l.length - 1 < l.length := by omega
  refine .inr ⟨l[l.length - 1], List.getElem?_eq_getElem hlt, fun hz => ?_⟩
  have h1 := val_take_succ (l := l) (List.getElem?_eq_getElem hlt)
  rw [show l.length - 1 + 1 = l.length from by omega, List.take_length, hz, Nat.mul_zero, Nat.add_zero] at h1
  have h2 := val_lt (hw.take (l.length - 1))
  rw [List.length_take, Nat.min_eq_left (by omega)] at h2
  omega
theorem len_add (x y : Nat) : (dig (x + y)).length ≤ max (dig x).length (dig y).length + 1 := by
  apply dig_len_le
  have h1 := dig_ub x
  have h2 := dig_ub y
  have h3 : 4294967296 ^ (dig x).length ≤ 4294967296 ^ max (dig x).length (dig y).length := Nat.pow_le_pow_right (by decide) (Nat.le_max_left ..)
  have h4 : 4294967296 ^ (dig y).length ≤ 4294967296 ^ max (dig x).length (dig y).length := Nat.pow_le_pow_right (by decide) (Nat.le_max_right ..)
  rw [Nat.pow_succ]
  omega
theorem len_mul (x y : Nat) : (dig (x * y)).length ≤ (dig x).length + (dig y).length := by
  apply dig_len_le
  rw [Nat.pow_add]
  exact Nat.mul_lt_mul'' (dig_ub x) (dig_ub y)
theorem shr32 (s : Nat) : Int.fdiv (s : Int) (2 ^ (min (Int.toNat 32) (IntKind.bits .u64))) = ((s / 4294967296 : Nat) : Int) := by
  have e : (2 : Int) ^ (min (Int.toNat 32) (IntKind.bits .u64)) = 4294967296 := by decide
  rw [e, Int.fdiv_eq_ediv_of_nonneg _ (by omega)]
  rfl
theorem take_ge {l : List Nat} {k : Nat} (h : l.length ≤ k) : l.take (k + 1) = l.take k := by
  rw [List.take_of_length_le h, List.take_of_length_le (by omega)]
theorem val_set {l : List Nat} {k d : Nat} (h : k < l.length) : val ((l.set k d).take (k + 1)) = val (l.take k) + 4294967296 ^ k * d := by
  have := val_take_succ (l := l.set k d) (k := k) (x := d) (by rw [List.getElem?_set_self h])
  rw [this, List.take_set_of_le (Nat.le_refl k)]
theorem val_split (l : List Nat) (k : Nat) (h : k ≤ l.length) : val l = val (l.take k) + 4294967296 ^ k * val (l.drop k) := by
  conv => lhs; rw [← List.take_append_drop k l]
  rw [val_append, List.length_take, Nat.min_eq_left h]
/-- the sign of a difference -/
def cmpI (a b : Int) : Int := if a < b then -1 else if a > b then 1 else 0
theorem lt_top {l m : List Nat} (hl : Words l) {k x y : Nat} (hk : k < l.length) (hk2 : k < m.length) (hx : l[k]? = some x) (hy : m[k]? = some y) (hd : l.drop (k + 1) = m.drop (k + 1)) (h : x < y) : val l < val m := by
  rw [val_split l (k + 1) (by omega), val_split m (k + 1) (by omega), hd, val_take_succ hx, val_take_succ hy]
  have h1 := val_lt (hl.take k)
  rw [List.length_take, Nat.min_eq_left (by omega)] at h1
  have h2 : 4294967296 ^ k * (x + 1) ≤ 4294967296 ^ k * y := Nat.mul_le_mul_left _ h
  rw [Nat.mul_add] at h2
  omega
theorem val_zeros (n : Nat) : val (List.replicate n 0) = 0 := by
  induction n with
  | zero => rfl
  | succ n ih => rw [List.replicate_succ, val, ih]
theorem shl_eq {u n : Nat} (h : u * 2 ^ n < 18446744073709551616) (hn : n ≤ 64) : IntKind.u64.wrap ((u : Int) * 2 ^ (min (Int.toNat (n : Int)) (IntKind.bits .u64))) = ((u * 2 ^ n : Nat) : Int) := by
  have e : min (Int.toNat (n : Int)) (IntKind.bits .u64) = n := by
    rw [Int.toNat_natCast]; exact Nat.min_eq_left hn
  rw [e]
  have e2 : (u : Int) * 2 ^ n = ((u * 2 ^ n : Nat) : Int) := by rw [Int.natCast_mul, Int.natCast_pow]; rfl
  rw [e2]
  exact wU ⟨by omega, by omega⟩
theorem or_add (a b n : Nat) (h : a < 2 ^ n) : b * 2 ^ n ||| a = b * 2 ^ n + a := by
  have := Nat.shiftLeft_add_eq_or_of_lt h b
  rw [Nat.shiftLeft_eq] at this
  exact this.symm
theorem mul_mod_pow (u n : Nat) (h : n ≤ 32) : u * 2 ^ n % 4294967296 = (u % 2 ^ (32 - n)) * 2 ^ n := by
  have e : 4294967296 = 2 ^ (32 - n) * 2 ^ n := by rw [← Nat.pow_add, show 32 - n + n = 32 from by omega]
  rw [e, Nat.mul_mod_mul_right]
theorem val_drop {l : List Nat} {k x : Nat} (h : l[k]? = some x) : val (l.drop k) = x + 4294967296 * val (l.drop (k + 1)) := by
  have hk : k < l.length := by
    by_cases hh : k < l.length
    · exact hh
    · rw [List.getElem?_eq_none (by omega)] at h; cases h
  rw [List.drop_eq_getElem_cons hk, val]
  rw [List.getElem?_eq_getElem hk] at h
  injection h with h
  rw [h]
theorem drop_set {l : List Nat} {k d : Nat} (h : k < l.length) : (l.set k d).drop k = d :: l.drop (k + 1) := by
  rw [List.drop_eq_getElem_cons (by simpa using h)]
  simp [List.drop_set]
/-- the number of binary digits -/
def bl (n : Nat) : Nat := if n = 0 then 0 else Nat.log2 n + 1
theorem fin256 {p : Nat → Prop} (h : ∀ j : Fin 256, p j.val) (x : Nat) (hx : x < 256) : p x := h ⟨x, hx⟩
theorem bl_bounds {n : Nat} (h : n ≠ 0) : 2 ^ (bl n - 1) ≤ n ∧ n < 2 ^ bl n ∧ 0 < bl n := by
  rw [bl, if_neg h]
  exact ⟨Nat.log2_self_le h, Nat.lt_log2_self, Nat.succ_pos _⟩
theorem bl_eq {n k : Nat} (h1 : 2 ^ k ≤ n) (h2 : n < 2 ^ (k + 1)) : bl n = k + 1 := by
  have h0 : n ≠ 0 := by have := Nat.two_pow_pos k; omega
  obtain ⟨a, b, c⟩ := bl_bounds h0
  have p1 : k < bl n := (Nat.pow_lt_pow_iff_right (by decide : 1 < 2)).1 (Nat.lt_of_le_of_lt h1 b)
  have p2 : bl n - 1 < k + 1 := (Nat.pow_lt_pow_iff_right (by decide : 1 < 2)).1 (Nat.lt_of_le_of_lt a h2)
  omega
theorem bl_shift {n k : Nat} (h : n / 2 ^ k ≠ 0) : bl n = bl (n / 2 ^ k) + k := by
  obtain ⟨a, b, c⟩ := bl_bounds h
  have hp := Nat.two_pow_pos k
  have e : bl (n / 2 ^ k) + k = (bl (n / 2 ^ k) - 1 + k) + 1 := by omega
  rw [e]
  apply bl_eq
  · rw [Nat.pow_add]
    exact (Nat.le_div_iff_mul_le hp).1 a
  · rw [show bl (n / 2 ^ k) - 1 + k + 1 = bl (n / 2 ^ k) + k from by omega, Nat.pow_add]
    exact (Nat.div_lt_iff_lt_mul hp).1 b
theorem val_mod_pow (l : List Nat) (n : Nat) (h : n ≤ 32) : val l % 2 ^ n = l.getD 0 0 % 2 ^ n := by
  cases l with
  | nil => rfl
  | cons x l =>
    have e : 4294967296 = 2 ^ n * 2 ^ (32 - n) := by rw [← Nat.pow_add, show n + (32 - n) = 32 from by omega]
    simp only [val, List.getD_cons_zero]
    rw [e, Nat.mul_assoc, Nat.add_mul_mod_self_left]
theorem tquo (s y : Nat) (h : s < 18446744073709551616) : IntKind.u64.wrap (Int.tdiv (s : Int) (y : Int)) = ((s / y : Nat) : Int) := by
  have e : Int.tdiv (s : Int) (y : Int) = ((s / y : Nat) : Int) := rfl
  rw [e]
  have h2 : s / y < 18446744073709551616 := Nat.lt_of_le_of_lt (Nat.div_le_self s y) h
  exact wU ⟨Int.natCast_nonneg _, Int.ofNat_lt.2 h2⟩
theorem trem (s y : Nat) : Int.tmod (s : Int) (y : Int) = ((s % y : Nat) : Int) := rfl
theorem wB {x : Int} (h : 0 ≤ x ∧ x < 256) : IntKind.u8.wrap x = x := by
  have e : IntKind.u8.wrap x = x % 256 := by simp [IntKind.wrap, IntKind.bits, IntKind.signed]
  rw [e]; omega
theorem u8nat {n : Nat} (h : n < 256) : (((UInt8.ofNat n).toNat : Nat) : Int) = (n : Int) := by
  rw [UInt8.toNat_ofNat_of_lt' h]
/-! the long division: estimates of a digit -/
theorem est_ge {U Y d : Nat} (hU : U < 4294967296 * Y) (hY : 0 < Y) (h : 4294967296 ≤ d) : U / Y < d := by
  have : U / Y < 4294967296 := by rw [Nat.div_lt_iff_lt_mul hY]; exact hU
  omega
theorem est_gt {low u2 top vlow next high M d r : Nat} (hlow : low < M) (hM : 0 < M) (ht : d * high + r = top) (h : r * 4294967296 + u2 < d * next) (hY : 0 < vlow + M * (next + 4294967296 * high)) :
    (low + M * (u2 + 4294967296 * top)) / (vlow + M * (next + 4294967296 * high)) < d := by
  rw [Nat.div_lt_iff_lt_mul hY]
  have h1 : d * (next + 4294967296 * high) = d * next + 4294967296 * (d * high) := by rw [Nat.mul_add, Nat.mul_left_comm]
  have h2 : u2 + 4294967296 * top + 1 ≤ d * (next + 4294967296 * high) := by rw [h1, ← ht]; omega
  have h3 := Nat.mul_le_mul_left M h2
  rw [Nat.mul_add M _ 1, Nat.mul_one] at h3
  have h4 : d * (vlow + M * (next + 4294967296 * high)) = d * vlow + M * (d * (next + 4294967296 * high)) := by rw [Nat.mul_add, Nat.mul_left_comm]
  omega
theorem est_le {low u2 top vlow next high M d r : Nat} (hM : 0 < M) (hv : vlow < M) (ht : d * high + r = top) (h : d * next ≤ r * 4294967296 + u2) (hd : d < 4294967296) (hh : 0 < high) :
    d ≤ (low + M * (u2 + 4294967296 * top)) / (vlow + M * (next + 4294967296 * high)) + 1 := by
  generalize hY : vlow + M * (next + 4294967296 * high) = Y
  generalize hU : low + M * (u2 + 4294967296 * top) = U
  have hYp : 4294967296 * M ≤ Y := by
    rw [← hY, Nat.mul_add]
    have : M * (4294967296 * 1) ≤ M * (4294967296 * high) := Nat.mul_le_mul_left _ (Nat.mul_le_mul_left _ hh)
    omega
  have h1 : d * (next + 4294967296 * high) = d * next + 4294967296 * (d * high) := by rw [Nat.mul_add, Nat.mul_left_comm]
  have h2 : d * (next + 4294967296 * high) ≤ u2 + 4294967296 * top := by rw [h1, ← ht]; omega
  have h3 := Nat.mul_le_mul_left M h2
  have h4 : d * Y = d * vlow + M * (d * (next + 4294967296 * high)) := by rw [← hY, Nat.mul_add, Nat.mul_left_comm]
  have h5 : d * vlow ≤ d * M := Nat.mul_le_mul_left _ (Nat.le_of_lt hv)
  have h6 : d * M < 4294967296 * M := Nat.mul_lt_mul_of_pos_right hd hM
  have h7 : d * Y < U + Y := by omega
  have h8 := Nat.div_add_mod U Y
  have h9 := Nat.mod_lt U (show 0 < Y by omega)
  apply Classical.byContradiction
  intro hn
  have h10 : (U / Y + 2) * Y ≤ d * Y := Nat.mul_le_mul_right _ (by omega)
  rw [Nat.add_mul, Nat.mul_comm (U / Y)] at h10
  omega
/-- what is left of a step -/
theorem step_ok {U Y d U1 c P : Nat} (hY : 0 < Y) (h1 : U / Y ≤ d) (h2 : d ≤ U / Y + 1) (h : U1 + Y * d = U + P * c) (hc : c ≤ 1) (hU1 : U1 < P) (hU : U < P) :
    (c = 0 → d = U / Y ∧ U1 = U % Y) ∧ (c = 1 → d = U / Y + 1 ∧ ∀ U2 e, U2 < P → U2 + P * e = U1 + Y → e ≤ 1 → U2 = U % Y) := by
  have hdm := Nat.div_add_mod U Y
  have hm := Nat.mod_lt U hY
  refine ⟨fun h0 => ?_, fun h0 => ?_⟩
  · subst h0
    have hd : d = U / Y := by
      apply Classical.byContradiction
      intro hn
      have : d = U / Y + 1 := by omega
      rw [this, Nat.mul_add, Nat.mul_one] at h
      omega
    rw [hd] at h
    exact ⟨hd, by omega⟩
  · subst h0
    have hd : d = U / Y + 1 := by
      apply Classical.byContradiction
      intro hn
      have : d = U / Y := by omega
      rw [this] at h
      omega
    refine ⟨hd, fun U2 e hU2 he he1 => ?_⟩
    rw [hd, Nat.mul_add, Nat.mul_one] at h
    rcases Nat.eq_zero_or_pos e with h0 | h0
    · subst h0; omega
    · have : e = 1 := by omega
      subst this; omega
theorem val_wset {l : List Nat} {q i x : Nat} (h : q + i < l.length) : val (((l.set (q + i) x).drop q).take (i + 1)) = val ((l.drop q).take i) + 4294967296 ^ i * x := by
  have e : (l.set (q + i) x).drop q = (l.drop q).set i x := by
    rw [List.drop_set, if_neg (by omega), Nat.add_sub_cancel_left]
  rw [e, val_set (by rw [List.length_drop]; omega)]
theorem val_wsucc {l : List Nat} {q i u : Nat} (h : l[q + i]? = some u) : val ((l.drop q).take (i + 1)) = val ((l.drop q).take i) + 4294967296 ^ i * u :=
  val_take_succ (by rw [List.getElem?_drop]; exact h)
end Go.Num
