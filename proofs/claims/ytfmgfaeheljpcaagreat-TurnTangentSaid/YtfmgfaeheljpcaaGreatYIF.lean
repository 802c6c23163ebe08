/- integers: the exported functions. -/
import Derived.Test.YtfmgfaeheljpcaaGreatYIA
import Derived.Test.YtfmgfaeheljpcaaGreatYNB
set_option linter.unusedVariables false
set_option linter.unusedSimpArgs false
set_option maxRecDepth 10000
namespace Go.Proofs.YtfmgfaeheljpcaaGreat
open Go Go.Vm Go.Num
section
theorem natAbs_cases (z : Int) : (z < 0 ∧ z = -(z.natAbs : Int)) ∨ (¬ z < 0 ∧ z = (z.natAbs : Int)) := by omega
theorem sg_neg (z : Int) : sg (!decide (z < 0)) z.natAbs = -z := by
  rcases natAbs_cases z with ⟨h, e⟩ | ⟨h, e⟩ <;> simp [sg, h] <;> omega
theorem sg_mul (x y : Int) : sg (decide (x < 0) != decide (y < 0)) (x.natAbs * y.natAbs) = x * y := by
  rcases natAbs_cases x with ⟨h, e⟩ | ⟨h, e⟩ <;> rcases natAbs_cases y with ⟨h', e'⟩ | ⟨h', e'⟩ <;>
    (simp only [sg, h, h', decide_true, decide_false]
     generalize x.natAbs = a at *
     generalize y.natAbs = b at *
     subst e
     subst e'
     simp [Int.neg_mul, Int.mul_neg])
theorem sg_add {x y : Int} (h : decide (x < 0) = decide (y < 0)) : sg (decide (x < 0)) (x.natAbs + y.natAbs) = x + y := by
  rcases natAbs_cases x with ⟨h1, e⟩ | ⟨h1, e⟩ <;> rcases natAbs_cases y with ⟨h2, e'⟩ | ⟨h2, e'⟩ <;> simp [h1, h2] at h <;> simp [sg, h1] <;> omega
theorem sg_sub {x y : Int} (h : decide (x < 0) ≠ decide (y < 0)) (hle : y.natAbs ≤ x.natAbs) : sg (decide (x < 0)) (x.natAbs - y.natAbs) = x + y := by
  rcases natAbs_cases x with ⟨h1, e⟩ | ⟨h1, e⟩ <;> rcases natAbs_cases y with ⟨h2, e'⟩ | ⟨h2, e'⟩ <;> simp [h1, h2] at h <;> simp [sg, h1] <;> omega
theorem dig_lt2 {n : Nat} (h : (dig n).length ≤ 2) : n < 18446744073709551616 := by
  have := dig_ub n
  have h1 : 4294967296 ^ (dig n).length ≤ 4294967296 ^ 2 := Nat.pow_le_pow_right (by decide) h
  omega
theorem sg_false (n : Nat) : sg false n = (n : Int) := rfl
theorem fdm_same {a b : Int} (hb : b ≠ 0) (h : decide (a < 0) = decide (b < 0)) : sg (decide (a < 0) != decide (b < 0)) (a.natAbs / b.natAbs) = a.fdiv b ∧ sg (decide (b < 0)) (a.natAbs % b.natAbs) = a.fmod b := by
  rcases natAbs_cases a with ⟨h1, e⟩ | ⟨h1, e⟩ <;> rcases natAbs_cases b with ⟨h2, e'⟩ | ⟨h2, e'⟩ <;> simp [h1, h2] at h <;> simp only [sg, h1, h2, decide_true, decide_false]
  all_goals
    generalize a.natAbs = x at *
    generalize b.natAbs = y at *
    subst e
    subst e'
    simp [Int.fdiv_eq_ediv_of_nonneg, Int.fmod_eq_emod_of_nonneg]
theorem fdm_neg (x y : Nat) (hy : 0 < y) : (-(x : Int)).fdiv y = -((x / y + if 0 < x % y then 1 else 0 : Nat) : Int) ∧ (-(x : Int)).fmod y = ((if 0 < x % y then y - x % y else 0 : Nat) : Int) := by
  rw [Int.fdiv_eq_ediv_of_nonneg _ (by omega), Int.fmod_eq_emod_of_nonneg _ (by omega)]
  have h1 := Nat.div_add_mod x y
  have h2 := Nat.mod_lt x hy
  refine (Int.ediv_emod_unique (by omega)).2 ?_
  generalize x / y = q at *
  generalize x % y = r at *
  split
  · refine ⟨?_, by omega, by omega⟩
    rw [← h1, Int.natCast_sub (by omega)]
    push_cast
    grind
  · have : r = 0 := by omega
    subst this
    refine ⟨?_, by omega, by omega⟩
    rw [← h1]
    push_cast
    grind
theorem fdm_diff {a b : Int} (hb : b ≠ 0) (h : decide (a < 0) ≠ decide (b < 0)) : sg (decide (a < 0) != decide (b < 0)) (a.natAbs / b.natAbs + if 0 < a.natAbs % b.natAbs then 1 else 0) = a.fdiv b ∧ sg (decide (b < 0)) (if 0 < a.natAbs % b.natAbs then b.natAbs - a.natAbs % b.natAbs else 0) = a.fmod b := by
  rcases natAbs_cases a with ⟨h1, e⟩ | ⟨h1, e⟩ <;> rcases natAbs_cases b with ⟨h2, e'⟩ | ⟨h2, e'⟩ <;> simp [h1, h2] at h <;> simp only [sg, h1, h2, decide_true, decide_false]
  all_goals
    generalize a.natAbs = x at *
    generalize b.natAbs = y at *
    subst e
    subst e'
    have hf := fdm_neg x y (by omega)
  · rw [hf.1, hf.2]
    exact ⟨rfl, rfl⟩
  · have e1 : (x : Int).fdiv (-(y : Int)) = (-(x : Int)).fdiv y := by rw [← Int.neg_fdiv_neg, Int.neg_neg]
    have e2 : (x : Int).fmod (-(y : Int)) = -((-(x : Int)).fmod y) := by rw [← Int.neg_fmod_neg, Int.neg_neg]
    rw [e1, e2, hf.1, hf.2]
    exact ⟨rfl, rfl⟩
theorem cmpI_self_ne {a b : Int} (h : cmpI a 0 ≠ cmpI b 0) : cmpI (cmpI a 0) (cmpI b 0) = cmpI a b := by
  rcases cmpI_tri a 0 with ⟨h1, e1⟩ | ⟨h1, e1⟩ | ⟨h1, e1⟩ <;> rcases cmpI_tri b 0 with ⟨h2, e2⟩ | ⟨h2, e2⟩ | ⟨h2, e2⟩ <;> rw [e1, e2] at h ⊢ <;>
    first | exact absurd rfl h | (rcases cmpI_tri a b with ⟨h3, e3⟩ | ⟨h3, e3⟩ | ⟨h3, e3⟩ <;> rw [e3] <;> first | rfl | omega)
theorem cmpI_self_eq {a b : Int} (h : cmpI a 0 = cmpI b 0) : cmpI a 0 * cmpI (a.natAbs : Int) (b.natAbs : Int) = cmpI a b := by
  rcases cmpI_tri a 0 with ⟨h1, e1⟩ | ⟨h1, e1⟩ | ⟨h1, e1⟩ <;> rcases cmpI_tri b 0 with ⟨h2, e2⟩ | ⟨h2, e2⟩ | ⟨h2, e2⟩ <;> rw [e1, e2] at h <;>
    first | (exact absurd h (by decide)) | (rw [e1]; rcases cmpI_tri a b with ⟨h3, e3⟩ | ⟨h3, e3⟩ | ⟨h3, e3⟩ <;> rcases cmpI_tri (a.natAbs : Int) (b.natAbs : Int) with ⟨h4, e4⟩ | ⟨h4, e4⟩ | ⟨h4, e4⟩ <;> rw [e3, e4] <;> first | rfl | omega)
theorem bl_le32 {t : Nat} (h : t < 4294967296) : bl t ≤ 32 := by
  by_cases h0 : t = 0
  · subst h0; decide
  · have := (bl_bounds h0).1
    by_cases h2 : bl t ≤ 32
    · exact h2
    · have : 2 ^ 32 ≤ 2 ^ (bl t - 1) := Nat.pow_le_pow_right (by decide) (by omega)
      omega
theorem top_bits {n m t : Nat} (hm : m = (dig n).length) (hm0 : 0 < m) (ht : (dig n)[m - 1]? = some t) : n < 2 ^ (32 * (m - 1) + bl t) := by
  have h0 := val_digit ht
  have hd : (dig n).drop (m - 1 + 1) = [] := List.drop_eq_nil_of_le (by omega)
  rw [val_dig, hd] at h0
  have h1 := val_lt ((words_dig n).take (m - 1))
  rw [List.length_take, show min (m - 1) (dig n).length = m - 1 from by omega] at h1
  have e : (4294967296 : Nat) ^ (m - 1) = 2 ^ (32 * (m - 1)) := by rw [show (4294967296 : Nat) = 2 ^ 32 from rfl, ← Nat.pow_mul]
  have h2 : t < 2 ^ bl t := by
    by_cases ht0 : t = 0
    · subst ht0; exact Nat.two_pow_pos _
    · exact (bl_bounds ht0).2.1
  have h3 := Nat.mul_le_mul_left (4294967296 ^ (m - 1)) (show t + 1 ≤ 2 ^ bl t from h2)
  rw [Nat.mul_add, Nat.mul_one] at h3
  rw [Nat.pow_add, ← e]
  simp only [val, Nat.mul_zero, Nat.add_zero] at h0
  omega
theorem pow32lt {n : Nat} : 2 ^ (n % 32) < 4294967296 := Nat.lt_of_lt_of_le (Nat.pow_lt_pow_right (by decide) (Nat.mod_lt n (by decide))) (by decide)
theorem len_two_pow {n : Nat} : (dig (2 ^ n)).length = n / 32 + 1 := by rw [dig_pow]; simp
theorem f0 {g : Hp} {K : Hpl} : Fit g K (.st (.pr (.b false) .nil)) (.d (dz 0)) := .sd (.pd (.bd rfl) (.nil (by rw [Int.natAbs_zero, dig_zero]; rfl)))
theorem f0' {g : Hp} {K : Hpl} {z : Int} (h : z = 0) : Fit g K (.st (.pr (.b false) .nil)) (.d (dz z)) := h ▸ f0
theorem bneq {a b : Bool} : dc (¬ (a = true ↔ b = true)) = (a != b) := by rw [dc_dec]; cases a <;> cases b <;> rfl
theorem beq' {a b : Bool} : (a = true ↔ b = true) ↔ a = b := Bool.eq_iff_iff.symm
theorem trim_d {n : Nat} (h : (dig n).length ≤ 1099511627776) : C0 188 [.d (ws (dig n))] (· = .d (ws (dig n))) := trim_dig_ok h
theorem Norm_ok {z : Int} (h : (dig z.natAbs).length ≤ 1099511627776) : C0 192 [.d (dz z)] (· = .d (dz z)) := by
  refine En Tryz.func192 fun _ _ => ?_
  refine Dw rfl ?_
  refine Ce rfl (trim_d h) ?_
  refine Ce rfl (clone_u32_ok h) ?_
  refine Ce rfl (signed_sg h) ?_
  exact R1 rfl (.eq (by rw [sg_abs]))
theorem Neg_ok {z : Int} (h : (dig z.natAbs).length ≤ 1099511627776) : C0 190 [.d (dz z)] (· = .d (dz (-z))) := by
  refine En Tryz.func190 fun _ _ => ?_
  refine Dw rfl ?_
  refine Ce rfl (trim_d h) ?_
  refine Ce rfl (clone_u32_ok h) ?_
  refine Ce rfl (signed_sg h) ?_
  exact R1 rfl (.eq (by rw [sg_neg]))
theorem Sign_ok {z : Int} (h : (dig z.natAbs).length ≤ 1099511627776) : C0 202 [.d (dz z)] (· = .d (.int .i64 (cmpI z 0))) := by
  refine En Tryz.func202 fun _ _ => ?_
  refine Ce rfl (trim_d h) ?_
  refine By rfl (fun h1 => ?_) fun h1 => ?_ <;> simp only [lw] at h1
  · have : z = 0 := by have := dig_eq_nil.1 (List.eq_nil_of_length_eq_zero (by omega : (dig z.natAbs).length = 0)); omega
    exact R1 rfl (.eq (by rw [this]; rfl))
  · have h0 : z ≠ 0 := fun e => h1 (by rw [e, Int.natAbs_zero, dig_zero]; rfl)
    refine By rfl (fun h2 => ?_) fun h2 => ?_
    · exact R1 rfl (.eq (by rw [cmpI, if_pos h2]))
    · exact R1 rfl (.eq (by rw [cmpI, if_neg h2, if_pos (by omega)]))
theorem Cmp_ok {a b : Int} (ha : (dig a.natAbs).length ≤ 1099511627776) (hb : (dig b.natAbs).length ≤ 1099511627776) : C0 133 [.d (dz a), .d (dz b)] (· = .d (.int .i64 (cmpI a b))) := by
  refine En Tryz.func133 fun _ _ => ?_
  refine Dw rfl ?_
  refine Ce rfl (Sign_ok ha) ?_
  refine Ce rfl (Sign_ok hb) ?_
  refine By rfl (fun h1 => ?_) fun h1 => ?_
  · refine Ce rfl cmp_Compare_int_ok ?_
    exact R1 rfl (.eq (by rw [cmpI_self_ne h1]))
  · have h1 : cmpI a 0 = cmpI b 0 := Classical.not_not.1 h1
    refine Dw rfl ?_
    refine Ce rfl (trim_d ha) ?_
    refine Ce rfl (trim_d hb) ?_
    refine Ce rfl (compare_ok ha) ?_
    refine Ar (cmpI a b) rfl ?_ (wr (cmpI_self_eq h1) (by simp only [inK]; rcases cmpI_tri a b with ⟨g1, g2⟩ | ⟨g1, g2⟩ | ⟨g1, g2⟩ <;> omega))
    exact R0
theorem Mul_ok {a b : Int} (ha : (dig a.natAbs).length ≤ 549755813888) (hb : (dig b.natAbs).length ≤ 549755813888) : C0 120 [.d (dz a), .d (dz b)] (· = .d (dz (a * b))) := by
  refine En Tryz.func120 fun _ _ => ?_
  refine Dw rfl ?_
  refine Ce rfl (trim_d (by omega)) ?_
  refine Ce rfl (trim_d (by omega)) ?_
  refine Ce rfl (times_ok ha hb) ?_
  refine Ce rfl (signed_sg (Nat.le_trans (len_mul ..) (by omega))) ?_
  exact R1 rfl (.eq (by rw [bneq, sg_mul]))
theorem cmpI_ge {x y : Nat} : ¬ cmpI (x : Int) (y : Int) < 0 ↔ y ≤ x := by rw [cmpI_neg]; omega
theorem Add_ok {a b : Int} (ha : (dig a.natAbs).length ≤ 549755813888) (hb : (dig b.natAbs).length ≤ 549755813888) : C0 199 [.d (dz a), .d (dz b)] (· = .d (dz (a + b))) := by
  refine En Tryz.func199 fun _ _ => ?_
  refine Dw rfl ?_
  refine Ce rfl (trim_d (by omega)) ?_
  refine Ce rfl (trim_d (by omega)) ?_
  refine By rfl (fun h => ?_) fun h => ?_ <;> rw [beq'] at h
  · refine Dw rfl ?_
    refine Ce rfl (plus_ok (by omega) (by omega)) ?_
    refine Ce rfl (signed_sg (Nat.le_trans (len_add ..) (by omega))) ?_
    exact R1 rfl (.eq (by rw [sg_add h]))
  · refine Ce rfl (compare_ok (by omega)) ?_
    refine By rfl (fun h1 => ?_) fun h1 => ?_
    · have hle := Nat.le_of_lt (cmpI_neg.1 h1)
      refine Dw rfl ?_
      refine Ce rfl (minus_ok (by omega) hle) ?_
      refine Ce rfl (signed_sg (Nat.le_trans (len_mono (Nat.sub_le ..)) (by omega))) ?_
      exact R1 rfl (.eq (by rw [sg_sub (fun e => h e.symm) hle, Int.add_comm]))
    · have hle := cmpI_ge.1 h1
      refine Dw rfl ?_
      refine Ce rfl (minus_ok (by omega) hle) ?_
      refine Ce rfl (signed_sg (Nat.le_trans (len_mono (Nat.sub_le ..)) (by omega))) ?_
      exact R1 rfl (.eq (by rw [sg_sub h hle]))
theorem GCD_ok {a b : Int} (ha : (dig a.natAbs).length ≤ 549755813888) (hb : (dig b.natAbs).length ≤ 549755813888) : C0 189 [.d (dz a), .d (dz b)] (· = .d (dz (Int.gcd a b))) := by
  have hz : ∀ {x : Nat}, (dig x).length = 0 ↔ x = 0 := fun {x} => ⟨fun h => dig_eq_nil.1 (List.eq_nil_of_length_eq_zero h), fun h => by rw [h, dig_zero]; rfl⟩
  refine En Tryz.func189 fun _ _ => ?_
  refine Dw rfl ?_
  refine Ce rfl (trim_d (by omega)) ?_
  refine Ce rfl (trim_d (by omega)) ?_
  refine Cu (some 1000000) (fun ((x, y) : Nat × Nat) => [(4, .ptr 4 0), (5, .d (ws (dig x))), (6, .d (ws (dig y)))]) (fun _ => [(4, .var (.st (.pr (.b false) .nil)))]) (fun (x, y) => Nat.gcd x y = Int.gcd a b ∧ (dig x).length ≤ 549755813888 ∧ (dig y).length ≤ 2 ∧ ((dig x).length ≤ 2 ∨ y = 0)) rfl ?_ fun ⟨x, y⟩ ⟨hg, hx, hy, hxy⟩ => ?_
  · refine Lo (fun ((x, y) : Nat × Nat) => [(4, .ptr 4 0), (5, .d (ws (dig x))), (6, .d (ws (dig y)))]) (fun _ => [(4, .var (.st (.pr (.b false) .nil)))]) (fun (x, y) => Nat.gcd x y = Int.gcd a b ∧ (dig x).length ≤ 549755813888 ∧ (dig y).length ≤ 549755813888) (fun (_, y) => y) (a.natAbs, b.natAbs) [] rfl ⟨rfl, ha, hb⟩ fun ⟨x, y⟩ ⟨hg, hx, hy⟩ => ?_
    have step : y ≠ 0 → Nat.gcd y (x % y) = Int.gcd a b ∧ (dig y).length ≤ 549755813888 ∧ (dig (x % y)).length ≤ 549755813888 ∧ x % y < y := fun h0 => by
      have hlt := Nat.mod_lt x (Nat.pos_of_ne_zero h0)
      exact ⟨by rw [← hg, Nat.gcd_comm y, ← Nat.gcd_rec, Nat.gcd_comm], hy, Nat.le_trans (len_mono (Nat.le_of_lt hlt)) hy, hlt⟩
    refine By rfl (fun h1 => ?_) fun h1 => ?_ <;> simp only [lw] at h1
    · have h0 : y ≠ 0 := fun e => by have := hz.2 e; omega
      refine Ce rfl (divide_ok hx hy h0) ?_
      have h2 := step h0
      exact Bk (y, x % y) [] rfl ⟨h2.1, h2.2.1, h2.2.2.1⟩ h2.2.2.2
    refine By rfl (fun h2 => ?_) fun h2 => ?_ <;> simp only [lw] at h2
    · refine By rfl (fun h3 => ?_) fun h3 => ?_ <;> simp only [lw] at h3
      · have h0 : y ≠ 0 := fun e => by have := hz.2 e; omega
        refine Ce rfl (divide_ok hx hy h0) ?_
        have h2 := step h0
        exact Bk (y, x % y) [] rfl ⟨h2.1, h2.2.1, h2.2.2.1⟩ h2.2.2.2
      · exact Jn (x, y) [] rfl ⟨hg, hx, by omega, .inr (hz.1 (by omega))⟩
    · exact Jn (x, y) [] rfl ⟨hg, hx, by omega, .inl (by omega)⟩
  refine By rfl (fun h => ?_) fun h => ?_ <;> simp only [lw] at h
  · have h0 : y = 0 := hz.1 (by omega)
    subst h0
    rw [Nat.gcd_zero_right] at hg
    refine Ce rfl (clone_u32_ok (by omega)) ?_
    refine Ce rfl (signed_sg (b := false) (by omega)) ?_
    exact R1 rfl (.eq (by rw [sg_false, hg]))
  · have hlt1 : x < 18446744073709551616 := dig_lt2 (by rcases hxy with h | h; exact h; exact absurd (hz.2 h) (by omega))
    have hlt2 : y < 18446744073709551616 := dig_lt2 (by omega)
    refine Ce rfl (toUint_ok hlt1) ?_
    refine Ce rfl (toUint_ok hlt2) ?_
    refine Lo (fun ((x, y) : Nat × Nat) => [(4, .ptr 4 0), (9, .d (.int .u64 x)), (10, .d (.int .u64 y))]) (fun _ => [(4, .var (.st (.pr (.b false) .nil)))]) (fun (x, y) => x < 18446744073709551616 ∧ y < 18446744073709551616 ∧ Nat.gcd x y = Int.gcd a b) (fun (_, y) => y) (x, y) [] rfl ⟨hlt1, hlt2, hg⟩ fun ⟨x, y⟩ ⟨hx, hy, hg⟩ => ?_
    refine By rfl (fun h => ?_) fun h => ?_
    · have hy0 : y ≠ 0 := by omega
      have hltm := Nat.mod_lt x (Nat.pos_of_ne_zero hy0)
      refine Dw rfl ?_
      refine Ar (x % y : Nat) rfl ?_ (show _ ∧ _ from ⟨by omega, trem x y⟩)
      exact Bk (y, x % y) [] rfl ⟨hy, by omega, by rw [← hg, Nat.gcd_comm y, ← Nat.gcd_rec, Nat.gcd_comm]⟩ hltm
    · have h0 : y = 0 := by omega
      subst h0
      rw [Nat.gcd_zero_right] at hg
      refine Ce rfl (fromUint_ok hx) ?_
      refine Ce rfl (signed_sg (b := false) (Nat.le_trans (dig_len_le (k := 2) (by omega)) (by omega))) ?_
      exact R1 rfl (.eq (by rw [sg_false, hg]))
theorem dig1 : dig 1 = [1] := by rw [dig_pos (by decide), show 1 / 4294967296 = 0 from rfl, dig_zero]
theorem plus1_ok {x : Nat} (hx : (dig x).length ≤ 1099511627775) : C0 252 [.d (ws (dig x)), .d (.sl 1 [.int .u32 1])] (· = .d (ws (dig (x + 1)))) := by
  have := plus_ok (y := 1) hx (by rw [dig1]; decide)
  rw [dig1] at this
  exact this
theorem DivMod_ok {a b : Int} (ha : (dig a.natAbs).length ≤ 549755813888) (hb : (dig b.natAbs).length ≤ 549755813888) (hb0 : b ≠ 0) : C0 248 [.d (dz a), .d (dz b)] (· = .tup (.pr (.d (dz (a.fdiv b))) (.pr (.d (dz (a.fmod b))) (.d (.int .i64 0))))) := by
  have hz : ∀ {x : Nat}, (dig x).length = 0 ↔ x = 0 := fun {x} => ⟨fun h => dig_eq_nil.1 (List.eq_nil_of_length_eq_zero h), fun h => by rw [h, dig_zero]; rfl⟩
  have hq : (dig (a.natAbs / b.natAbs)).length ≤ 549755813888 := Nat.le_trans (len_mono (Nat.div_le_self ..)) ha
  have hr : (dig (a.natAbs % b.natAbs)).length ≤ 549755813888 := Nat.le_trans (len_mono (Nat.mod_le ..)) ha
  have hq1 : (dig (a.natAbs / b.natAbs + 1)).length ≤ 549755813889 := Nat.le_trans (len_add ..) (by rw [dig1]; simp; omega)
  refine En Tryz.func248 fun _ _ => ?_
  refine Ce rfl (trim_d (by omega)) ?_
  refine By rfl (fun h => ?_) fun h => ?_ <;> simp only [lw] at h
  · exact absurd ((@hz b.natAbs).1 (by omega)) (by omega)
  refine Ce rfl (trim_d (by omega)) ?_
  refine Ce rfl (divide_ok ha hb (by omega)) ?_
  refine By rfl (fun h1 => ?_) fun h1 => ?_ <;> rw [beq'] at h1
  · refine By rfl (fun h2 => ?_) fun h2 => ?_ <;> simp only [lw] at h2
    · have hp : 0 < a.natAbs % b.natAbs := Nat.pos_of_ne_zero fun e => by have := hz.2 e; omega
      have hf := fdm_diff hb0 h1
      rw [if_pos hp, if_pos hp] at hf
      refine Ce rfl (plus1_ok (x := a.natAbs / b.natAbs) (by omega)) ?_
      refine Ce rfl (minus_ok (by omega) (Nat.le_of_lt (Nat.mod_lt _ (by omega)))) ?_
      refine Dw rfl ?_
      refine Ce rfl (signed_sg (by omega)) ?_
      refine Ce rfl (signed_sg (Nat.le_trans (len_mono (Nat.sub_le ..)) (by omega))) ?_
      exact RTt rfl (.cons (.eq (by rw [bneq, hf.1])) (.cons (.eq (by rw [hf.2])) (.one (.rf rfl) (fun _ _ e => by cases e) (fun _ _ e => by cases e))))
    · have hp : ¬ 0 < a.natAbs % b.natAbs := fun hp => by have := mt hz.1 (Nat.pos_iff_ne_zero.1 hp); omega
      have hf := fdm_diff hb0 h1
      rw [if_neg hp, if_neg hp, Nat.add_zero] at hf
      refine Dw rfl ?_
      refine Ce rfl (signed_sg (by omega)) ?_
      refine Ce rfl (signed_sg (by omega)) ?_
      exact RTt rfl (.cons (.eq (by rw [bneq, hf.1])) (.cons (.eq (by rw [show a.natAbs % b.natAbs = 0 by omega, hf.2])) (.one (.rf rfl) (fun _ _ e => by cases e) (fun _ _ e => by cases e))))
  · have hf := fdm_same hb0 (Classical.not_not.1 h1)
    refine Dw rfl ?_
    refine Ce rfl (signed_sg (by omega)) ?_
    refine Ce rfl (signed_sg (by omega)) ?_
    exact RTt rfl (.cons (.eq (by rw [bneq, hf.1])) (.cons (.eq (by rw [hf.2])) (.one (.rf rfl) (fun _ _ e => by cases e) (fun _ _ e => by cases e))))
theorem half_ok {x : Nat} (hx : (dig x).length ≤ 549755813888) : C0 326 [.d (ws (dig x))] (· = .d (ws (dig (x / 2)))) := by
  refine En Tryz.func326 fun _ _ => ?_
  refine Ca rfl (shiftRight_ok (n := 1) (words_dig x) hx (by decide)) fun v hv => ?_
  obtain ⟨l, h1, h2, h3, rfl⟩ := hv
  rw [val_dig] at h1
  refine Ce rfl (trim_ok h2 (by omega)) ?_
  exact R1 rfl (.eq (by rw [h1]))
theorem shl32one {j : Nat} (h : j < 32) : arB .shl .u32 1 j (2 ^ j : Nat) := ⟨by omega, by
  rw [Int.toNat_natCast, show min j (IntKind.bits .u32) = j from Nat.min_eq_left (Nat.le_of_lt h), Int.one_mul, show (2 : Int) ^ j = ((2 ^ j : Nat) : Int) by rw [Int.natCast_pow]; rfl]
  have : 2 ^ j < 2 ^ 32 := Nat.pow_lt_pow_right (by decide) h
  exact wW ⟨Int.natCast_nonneg _, Int.ofNat_lt.2 this⟩⟩
theorem shifted_ok {n : Nat} (hn : n ≤ 8796093022210) : C0 325 [.d (.int .i64 n)] (· = .d (ws (dig (2 ^ n)))) := by
  refine En Tryz.func325 fun _ _ => ?_
  refine Ar (n / 32 : Nat) rfl ?_ (show _ ∧ _ from ⟨by decide, by rw [show Int.tdiv (n : Int) 32 = ((n / 32 : Nat) : Int) from rfl]; exact wI (by omega)⟩)
  refine Ar (n / 32 + 1 : Nat) rfl ?_
  refine Mk (n / 32 + 1) rfl (by omega) ?_
  refine Ar (n / 32 : Nat) rfl ?_ (show _ ∧ _ from ⟨by decide, by rw [show Int.tdiv (n : Int) 32 = ((n / 32 : Nat) : Int) from rfl]; exact wI (by omega)⟩)
  refine Ar (n % 32 : Nat) rfl ?_ (show _ ∧ _ from ⟨by decide, rfl⟩)
  refine Ar (2 ^ (n % 32) : Nat) rfl ?_ (shl32one (Nat.mod_lt _ (by decide)))
  refine Eo (n / 32) rfl (by omega) ?_
  refine Sto rfl (by simp) rfl ?_
  refine R1 rfl (.own rfl (by simp) ?_)
  rw [dig_pow, List.drop_zero, List.take_of_length_le (by simp), ← ms, List.map_replicate]
  rfl
end
section
theorem Bits_ok {z : Int} (hl : (dig z.natAbs).length ≤ 549755813888) (h0 : z ≠ 0) : C0 324 [.d (dz z)] fun v => ∃ B : Nat, v = .d (.int .i64 B) ∧ z.natAbs < 2 ^ B ∧ B ≤ 32 * (dig z.natAbs).length := by
  refine En Tryz.func324 fun _ _ => ?_
  refine Ce rfl (trim_d (by omega)) ?_
  refine By rfl (fun h => ?_) fun h => ?_ <;> simp only [lw] at h
  · exact absurd (dig_eq_nil.1 (List.eq_nil_of_length_eq_zero (by omega : (dig z.natAbs).length = 0))) (by omega)
  obtain ⟨t, ht⟩ := xat (l := dig z.natAbs) (k := (dig z.natAbs).length - 1) (by omega)
  have htb := ww ht (words_dig _)
  have hb := bl_le32 htb
  refine Ar ((dig z.natAbs).length - 1 : Nat) rfl ?_ (wr (by simp only [lw]; omega) (by simp only [inK]; omega))
  refine Ar (32 * ((dig z.natAbs).length - 1) : Nat) rfl ?_
  refine Ar ((dig z.natAbs).length - 1 : Nat) rfl ?_ (wr (by simp only [lw]; omega) (by simp only [inK]; omega))
  refine Ix ((dig z.natAbs).length - 1) rfl (mp ht) ?_
  refine Ce rfl (Len32_ok htb) ?_
  refine Ar (32 * ((dig z.natAbs).length - 1) + bl t : Nat) rfl ?_
  exact Rt rfl (.one (.rf rfl) rfl rfl) ⟨_, rfl, top_bits rfl (by omega) ht, by omega⟩
theorem Sqrt_ok {a : Nat} (hl : (dig a).length ≤ 274877906944) : C0 314 [.d (dz (a : Int))] (· = .tup (.pr (.d (dz (rt a : Int))) (.d (.int .i64 0)))) := by
  have hln : (dig (a : Int).natAbs).length ≤ 274877906944 := by rw [Int.natAbs_natCast]; exact hl
  refine En Tryz.func314 fun _ _ => ?_
  refine Ce rfl (Sign_ok (z := a) (by omega)) ?_
  refine By rfl (fun h => ?_) fun h => ?_
  · rcases cmpI_tri (a : Int) 0 with ⟨g1, g2⟩ | ⟨g1, g2⟩ | ⟨g1, g2⟩ <;> omega
  refine By rfl (fun h1 => ?_) fun h1 => ?_
  · have ha0 : a = 0 := by rcases cmpI_tri (a : Int) 0 with ⟨g1, g2⟩ | ⟨g1, g2⟩ | ⟨g1, g2⟩ <;> omega
    exact RTt rfl (.cons (f0' (by rw [ha0]; rfl)) (.one (.rf rfl) (fun _ _ e => by cases e) (fun _ _ e => by cases e)))
  have ha0 : a ≠ 0 := by rcases cmpI_tri (a : Int) 0 with ⟨g1, g2⟩ | ⟨g1, g2⟩ | ⟨g1, g2⟩ <;> omega
  refine Ca rfl (Bits_ok (z := a) (by omega) (by omega)) fun v hv => ?_
  obtain ⟨B, rfl, hB1, hB2⟩ := hv
  rw [Int.natAbs_natCast] at hB1 hB2
  refine Ar (B / 2 : Nat) rfl ?_ (show _ ∧ _ from ⟨by decide, by rw [show Int.tdiv (B : Int) 2 = ((B / 2 : Nat) : Int) from rfl]; exact wI (by omega)⟩)
  refine Ar (B / 2 + 1 : Nat) rfl ?_
  refine Ce rfl (shifted_ok (n := B / 2 + 1) (by omega)) ?_
  refine Lo (fun (x : Nat) => [(1, .ptr 1 0), (2, .ptr 2 0), (3, .d (.int .i64 0)), (5, .d (ws (dig x)))]) (fun _ => [(1, .var (.d (dz a))), (2, .var (.st (.pr (.b false) .nil)))]) (fun x => 0 < x ∧ rt a ≤ x ∧ x ≤ 2 ^ (B / 2 + 1)) (fun x => x) (2 ^ (B / 2 + 1)) [] rfl
    ⟨Nat.two_pow_pos _, Nat.le_of_lt (rt_lt_pow hB1 (by omega)), Nat.le_refl _⟩ fun x ⟨hx0, hxr, hxp⟩ => ?_
  have hxl : (dig x).length ≤ 549755813000 := Nat.le_trans (len_mono hxp) (by rw [len_two_pow]; omega)
  have hql : (dig (a / x)).length ≤ 274877906944 := Nat.le_trans (len_mono (Nat.div_le_self a x)) hl
  refine Ce (r := .d (ws (dig a))) rfl (trim_d (n := a) (by omega)) ?_
  refine Ce rfl (divide_ok (by omega) (by omega) (by omega)) ?_
  refine Ce rfl (plus_ok (by omega) (by omega)) ?_
  refine Ce rfl (half_ok (Nat.le_trans (len_add ..) (by omega))) ?_
  refine Ce rfl (compare_ok (Nat.le_trans (len_mono (Nat.div_le_self ..)) (Nat.le_trans (len_add ..) (by omega)))) ?_
  refine By rfl (fun h2 => ?_) fun h2 => ?_
  · have hge : x ≤ (x + a / x) / 2 := by rcases cmpI_tri (((x + a / x) / 2 : Nat) : Int) (x : Int) with ⟨g1, g2⟩ | ⟨g1, g2⟩ | ⟨g1, g2⟩ <;> omega
    refine Ce rfl (signed_sg (b := false) (by omega)) ?_
    exact RTt rfl (.cons (.eq (by rw [newton_end hx0 hge hxr]; rfl)) (.one (.rf rfl) (fun _ _ e => by cases e) (fun _ _ e => by cases e)))
  · have hlt : (x + a / x) / 2 < x := by rcases cmpI_tri (((x + a / x) / 2 : Nat) : Int) (x : Int) with ⟨g1, g2⟩ | ⟨g1, g2⟩ | ⟨g1, g2⟩ <;> omega
    exact Bk ((x + a / x) / 2) [] rfl ⟨Nat.lt_of_lt_of_le (rt_pos ha0) (newton hx0), newton hx0, by omega⟩ hlt
end
end Go.Proofs.YtfmgfaeheljpcaaGreat
