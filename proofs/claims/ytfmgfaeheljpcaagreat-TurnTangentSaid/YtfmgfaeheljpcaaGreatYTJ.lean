/- Squares in towers: sizes of the numbers. -/
import Derived.Test.YtfmgfaeheljpcaaGreatYTB
import Derived.Test.YtfmgfaeheljpcaaGreatYNB
import Derived.Test.YtfmgfaeheljpcaaGreatYTC
set_option linter.unusedVariables false
set_option linter.unusedSimpArgs false
namespace Go.Proofs.YtfmgfaeheljpcaaGreat
open Go Go.Num Go.Tow
/-- norms, with common denominators -/
def nS (r k p : Nat) : Nat := 2 * p + 2 * cB r k + r + 1
theorem Sz.normS {r k p : Nat} {t : Tw (k + 1)} {a : El (k + 1)} (ht : TS r (k + 1) t) (h : Sz p (toL (k + 1) a)) : Sz (nS r k p) (toL k (Tow.norm k t a)) := by
  obtain ⟨E, e0, e1, e2⟩ := mul_isD ht.1
  obtain ⟨d, d0, d1, d2⟩ := h
  obtain ⟨g, g0, g1, g2⟩ := ht.2
  have hx : IsD d (2 ^ p) (toL k a.1) := d2.left
  have hy : IsD d (2 ^ p) (toL k a.2) := d2.right
  have h1 := (e2 _ _ d d _ _ d0 d0 hx hx).scale (Nat.mul_pos e0 g0)
  have h2 := e2 _ _ (d * d * E) g _ _ (Nat.mul_pos (Nat.mul_pos d0 d0) e0) g0 (e2 _ _ d d _ _ d0 d0 hy hy) g2
  rw [show d * d * E * g * E = d * d * E * (E * g) from by rw [Nat.mul_assoc (d * d * E), Nat.mul_comm g E]] at h2
  have hg : E * g ≤ 2 ^ cB r k * 2 ^ r := Nat.mul_le_mul e1 (Nat.le_of_lt g1)
  have hn : 2 ^ (2 * p + 2 * cB r k + r) = 2 ^ p * 2 ^ p * 2 ^ cB r k * (2 ^ cB r k * 2 ^ r) := by
    rw [← Nat.pow_add, ← Nat.pow_add, ← Nat.pow_add, ← Nat.pow_add]; congr 1; omega
  have h1' : IsD (d * d * E * (E * g)) (2 ^ (2 * p + 2 * cB r k + r)) (toL k (Tow.mul k t.1 a.1 a.1)) := h1.mono (by rw [hn]; exact Nat.mul_le_mul_left _ hg)
  have h2' : IsD (d * d * E * (E * g)) (2 ^ (2 * p + 2 * cB r k + r)) (toL k (Tow.mul k t.1 (Tow.mul k t.1 a.2 a.2) t.2)) := h2.mono (by
    rw [hn, Nat.mul_assoc (2 ^ p * 2 ^ p * 2 ^ cB r k), Nat.mul_comm (2 ^ r)]; exact Nat.le_refl _)
  rw [Tow.norm, toL_add, toL_neg]
  refine ⟨d * d * E * (E * g), Nat.mul_pos (Nat.mul_pos (Nat.mul_pos d0 d0) e0) (Nat.mul_pos e0 g0), ?_, (h1'.add h2'.neg).mono (by unfold nS; rw [Nat.pow_succ 2 (2 * p + 2 * cB r k + r)]; omega)⟩
  have h3 : d * d * E * (E * g) < 2 ^ p * 2 ^ p * (2 ^ cB r k * (2 ^ cB r k * 2 ^ r)) := by
    rw [Nat.mul_assoc (d * d)]
    refine Nat.lt_of_lt_of_le (Nat.mul_lt_mul_of_pos_right (Nat.mul_lt_mul'' d1 d1) (Nat.mul_pos e0 (Nat.mul_pos e0 g0))) (Nat.mul_le_mul_left _ (Nat.mul_le_mul e1 hg))
  have h4 : 2 ^ nS r k p = 2 ^ (2 * p + 2 * cB r k + r) * 2 := by unfold nS; rw [Nat.pow_succ]
  rw [h4, hn, Nat.mul_assoc (2 ^ p * 2 ^ p)]
  omega
theorem Sz.scal {r k p q : Nat} {t : Tw k} {x y n : El k} (ht : TS r k t) (h : Sz p (toL k x ++ toL k y)) (hn : Sz q (toL k n)) : Sz (p + q + cB r k) (toL k (Tow.mul k t x n) ++ toL k (Tow.mul k t y n)) := by
  obtain ⟨E, e0, e1, e2⟩ := mul_isD ht
  obtain ⟨d, d0, d1, d2⟩ := h
  obtain ⟨e, k0, k1, k2⟩ := hn
  have h1 := e2 _ _ d e _ _ d0 k0 d2.left k2
  have h2 := e2 _ _ d e _ _ d0 k0 d2.right k2
  rw [← Nat.pow_add, ← Nat.pow_add] at h1 h2
  refine ⟨d * e * E, Nat.mul_pos (Nat.mul_pos d0 k0) e0, ?_, h1.append h2⟩
  rw [Nat.pow_add, Nat.pow_add]
  exact Nat.lt_of_lt_of_le (Nat.mul_lt_mul_of_pos_right (Nat.mul_lt_mul'' d1 k1) e0) (Nat.mul_le_mul_left _ e1)
def iS (r : Nat) : Nat → Nat → Nat
  | 0, p => p + 1
  | k + 1, p => p + iS r k (nS r k p) + cB r k
theorem IsD.neg2 {d n : Nat} {l m : List Rat} (h : IsD d n (l ++ m)) : IsD d n (l ++ m.map (- ·)) := h.left.append h.right.neg
theorem Sz.neg2 {p : Nat} {l m : List Rat} (h : Sz p (l ++ m)) : Sz p (l ++ m.map (- ·)) := by
  obtain ⟨d, h0, h1, h2⟩ := h
  exact ⟨d, h0, h1, h2.neg2⟩
theorem Sz.invS {r k p : Nat} {t : Tw k} {a b : El k} (ht : TS r k t) (h : Sz p (toL k a)) (hb : Tow.inv k t a = some b) : Sz (iS r k p) (toL k b) := by
  induction k generalizing p with
  | zero => exact h.inv ht hb
  | succ k ih =>
    simp only [Tow.inv] at hb
    split at hb
    · cases hb
    · rename_i n hn
      injection hb with hb
      subst hb
      have h1 := ih ht.1 (h.normS ht) hn
      show Sz _ (toL k _ ++ toL k (Tow.neg k _))
      rw [toL_neg]
      exact (Sz.scal ht.1 h h1).neg2
theorem Sz.dbl {p : Nat} {l : List Rat} (h : Sz p l) : Sz (p + 1) (List.zipWith (· + ·) l l) := by
  obtain ⟨d, h0, h1, h2⟩ := h
  exact ⟨d, h0, by rw [Nat.pow_succ]; omega, (h2.add h2).mono (by rw [Nat.pow_succ]; omega)⟩
theorem cB_mono {r : Nat} {k : Nat} : ∀ {s : Nat}, r ≤ s → cB r k ≤ cB s k := by
  induction k with
  | zero => intro s h; exact Nat.le_refl _
  | succ k ih => intro s h; have := ih h; show 2 * cB r k + r + 1 ≤ 2 * cB s k + s + 1; omega
theorem nS_mono {r s k p q : Nat} (hr : r ≤ s) (h : p ≤ q) : nS r k p ≤ nS s k q := by have := cB_mono (k := k) hr; unfold nS; omega
theorem iS_mono {r s : Nat} (hr : r ≤ s) : ∀ {k p q : Nat}, p ≤ q → iS r k p ≤ iS s k q
  | 0, p, q, h => by show p + 1 ≤ q + 1; omega
  | k + 1, p, q, h => by
    have h1 := iS_mono hr (nS_mono (k := k) hr h) (k := k)
    have h2 := cB_mono (k := k) hr
    show p + iS r k (nS r k p) + cB r k ≤ q + iS s k (nS s k q) + cB s k
    omega
theorem iB_mono {r s : Nat} (hr : r ≤ s) : ∀ {k p q : Nat}, p ≤ q → iB r k p ≤ iB s k q
  | 0, p, q, h => by show p + 1 ≤ q + 1; omega
  | k + 1, p, q, h => by
    have h2 := cB_mono (k := k) hr
    have h1 := iB_mono hr (show nB r k p ≤ nB s k q by unfold nB; omega) (k := k)
    show 2 * (p + iB r k (nB r k p) + cB r k) ≤ 2 * (q + iB s k (nB s k q) + cB s k)
    omega
/-! rational squares -/
theorem rat_sq (x : Rat) : (x * x).num = x.num * x.num ∧ (x * x).den = x.den * x.den := by
  have hc : (x.num * x.num).natAbs.gcd (x.den * x.den) = 1 := by
    rw [Int.natAbs_mul]
    exact Nat.Coprime.mul_right (Nat.Coprime.mul_left x.reduced x.reduced) (Nat.Coprime.mul_left x.reduced x.reduced)
  rw [Rat.num_mul, Rat.den_mul, hc]
  exact ⟨Int.ediv_one _, Nat.div_one _⟩
theorem rt_sq (n : Nat) : rt (n * n) = n := rt_eq (Nat.le_refl _) (by rw [Nat.add_mul, Nat.mul_add]; omega)
def sqN (n : Nat) : Prop := rt n * rt n = n
theorem sqQ_some {q : Rat} (h0 : 0 ≤ q.num) (h1 : sqN q.num.natAbs) (h2 : sqN q.den) : ∃ x : Rat, x.num = (rt q.num.natAbs : Int) ∧ x.den = rt q.den ∧ x * x = q := by
  have hd : rt q.den ≠ 0 := fun e => q.den_nz (by rw [← h2, e])
  have hc : (rt q.num.natAbs).Coprime (rt q.den) := by
    have := q.reduced
    rw [← h1, ← h2] at this
    exact Nat.Coprime.coprime_mul_right (Nat.Coprime.coprime_mul_right_right this)
  refine ⟨⟨(rt q.num.natAbs : Int), rt q.den, hd, by rw [Int.natAbs_natCast]; exact hc⟩, rfl, rfl, ?_⟩
  refine Rat.ext ?_ ?_
  · rw [(rat_sq _).1]
    show (rt q.num.natAbs : Int) * (rt q.num.natAbs : Int) = q.num
    have : ((rt q.num.natAbs * rt q.num.natAbs : Nat) : Int) = (q.num.natAbs : Int) := by rw [h1]
    rw [Int.natCast_mul] at this
    rw [this]; omega
  · rw [(rat_sq _).2]; exact h2
theorem sqQ_iff {q : Rat} : (∃ x : Rat, x * x = q) ↔ 0 ≤ q.num ∧ sqN q.num.natAbs ∧ sqN q.den := by
  refine ⟨?_, fun ⟨h0, h1, h2⟩ => let ⟨x, _, _, h⟩ := sqQ_some h0 h1 h2; ⟨x, h⟩⟩
  rintro ⟨x, rfl⟩
  obtain ⟨e1, e2⟩ := rat_sq x
  rw [e1, e2]
  refine ⟨?_, ?_, ?_⟩
  · rcases Int.le_total 0 x.num with h | h
    · exact Int.mul_nonneg h h
    · exact Int.mul_nonneg_of_nonpos_of_nonpos h h
  · unfold sqN; rw [Int.natAbs_mul, rt_sq]
  · unfold sqN; rw [rt_sq]
/-! the steps of a root -/
theorem Sz.half {k : Nat} : Sz 3 (toL k (Tow.rat k (1 / 2))) := Sz.rat (p := 2) k ⟨show (1 / 2 : Rat).num.natAbs < 2 ^ 2 by decide +kernel, show ((1 / 2 : Rat).den : Int).natAbs < 2 ^ 2 by decide +kernel⟩
end Go.Proofs.YtfmgfaeheljpcaaGreat
