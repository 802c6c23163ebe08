/- Square roots in towers are short: from the square alone. -/
import Derived.Test.YtfmgfaeheljpcaaGreatYTJ
set_option linter.unusedVariables false
set_option linter.unusedSimpArgs false
namespace Go.Proofs.YtfmgfaeheljpcaaGreat
open Go Go.Num Go.Tow
/-- what a root has more than its square -/
def gC (r : Nat) : Nat → Nat
  | 0 => 0
  | k + 1 => 2 * gC r k + 2 * cB r k + r + iS r k r + 2
theorem IsD.pw {d n a b : Nat} {l : List Rat} (h : IsD d (n * 2 ^ a) l) (hab : a ≤ b) : IsD d (n * 2 ^ b) l := h.mono (Nat.mul_le_mul_left _ (Nat.pow_le_pow_right (by decide) hab))
theorem IsD.sc {d n a b e : Nat} {l : List Rat} (h : IsD d (n * 2 ^ a) l) (he : 0 < e) (hb : e ≤ 2 ^ b) : IsD (d * e) (n * 2 ^ (a + b)) l := (h.scale he).mono (by rw [Nat.pow_add, ← Nat.mul_assoc]; exact Nat.mul_le_mul_left _ hb)
theorem IsD.dbl {d n : Nat} {l : List Rat} (h : IsD d n (List.zipWith (· + ·) l l)) : IsD (d * 2) n l := fun x hx => by
  obtain ⟨i, hi⟩ := List.getElem?_of_mem hx
  obtain ⟨z, h1, h2⟩ := h (x + x) (List.mem_of_getElem? (i := i) (by rw [List.getElem?_zipWith, hi]))
  refine ⟨z, ?_, h2⟩
  rw [← h1, Rat.natCast_mul]
  show x * (d * 2) = _
  grind
theorem root_isD0 {x : Rat} {e n : Nat} (he : 0 < e) (h : IsD (e * e) (n * n) [x * x]) : IsD e n [x] := fun y hy => by
  obtain rfl := List.mem_singleton.1 hy
  obtain ⟨z, h1, h2⟩ := h _ (List.mem_cons_self ..)
  have h3 : (y * e) * (y * e) = (z : Rat) := by rw [← h1, Rat.natCast_mul]; grind
  obtain ⟨e1, e2⟩ := rat_sq (y * e)
  rw [h3] at e1 e2
  have e2 : 1 = (y * e).den * (y * e).den := e2
  have e1 : z = (y * e).num * (y * e).num := e1
  have hd : (y * e).den = 1 := Nat.eq_one_of_mul_eq_one_left e2.symm
  refine ⟨(y * e).num, ?_, ?_⟩
  · have := mul_den (y * e)
    rw [hd] at this
    rw [← this]; exact (Rat.mul_one _).symm
  · rw [e1, Int.natAbs_mul] at h2
    exact Nat.lt_of_not_le fun hle => Nat.lt_irrefl _ (Nat.lt_of_lt_of_le h2 (Nat.mul_le_mul hle hle))
theorem root_isD : ∀ {k r : Nat} {t : Tw k}, TS r k t → red k t → ∃ Δ, 0 < Δ ∧ Δ ≤ 2 ^ gC r k ∧ ∀ (s : El k) (e n : Nat), 0 < e → IsD (e * e) (n * n) (toL k (mul k t s s)) → IsD (e * Δ) (n * 2 ^ gC r k) (toL k s)
  | 0, r, t, _, _ => ⟨1, by decide, Nat.le_refl 1, fun s e n he h => by rw [Nat.mul_one, show 2 ^ gC r 0 = 1 from rfl, Nat.mul_one]; exact root_isD0 he h⟩
  | k + 1, r, t, hT, hR => by
    obtain ⟨E, E0, E1, E2⟩ := mul_isD hT.1
    obtain ⟨g, g0, g1, g2⟩ := hT.2
    obtain ⟨Δ, D0, D1, D2⟩ := root_isD hT.1 hR.1
    have L := ring k t.1
    obtain ⟨i, hi⟩ := (red_fld hR.1).2 t.2 (show t.2 ≠ zero k from fun h0 => hR.2.2 ⟨zero k, by rw [h0, L.mz]⟩)
    obtain ⟨f, f0, f1, f2⟩ := Sz.invS hT.1 hT.2 hi
    have hi := inv_mul hi
    generalize hc : cB r k = c at *
    generalize hq : iS r k r = q at *
    generalize hG : gC r k = G at *
    have hg' : gC r (k + 1) = 2 * G + 2 * c + r + q + 2 := by show 2 * gC r k + 2 * cB r k + r + iS r k r + 2 = _; rw [hc, hq, hG]
    have g1 := Nat.le_of_lt g1
    have f1 := Nat.le_of_lt f1
    have Eg1 : E * g ≤ 2 ^ (c + r) := by rw [Nat.pow_add]; exact Nat.mul_le_mul E1 g1
    have Eg0 := Nat.mul_pos E0 g0
    have M : ∀ {a b : El k} {d e n m x y : Nat}, 0 < d → 0 < e → IsD d (n * 2 ^ x) (toL k a) → IsD e (m * 2 ^ y) (toL k b) → IsD (d * e * E) (n * m * 2 ^ (x + y + c)) (toL k (mul k t.1 a b)) := fun hd he h h' => (E2 _ _ _ _ _ _ hd he h h').mono (by
      rw [Nat.pow_add, Nat.pow_add]; exact Nat.le_of_eq (by ac_rfl))
    refine ⟨2 * (E * g * Δ) * Δ * (f * E), ?_, ?_, fun s e n he h => ?_⟩
    · exact Nat.mul_pos (Nat.mul_pos (Nat.mul_pos (by decide) (Nat.mul_pos Eg0 D0)) D0) (Nat.mul_pos f0 E0)
    · have x1 := Nat.mul_le_mul (Nat.mul_le_mul (Nat.mul_le_mul (Nat.le_refl 2) (Nat.mul_le_mul Eg1 D1)) D1) (Nat.mul_le_mul f1 E1)
      refine Nat.le_trans x1 ?_
      rw [show (2 : Nat) * (2 ^ (c + r) * 2 ^ G) * 2 ^ G * (2 ^ q * 2 ^ c) = 2 ^ (1 + ((c + r) + G) + G + (q + c)) by simp only [Nat.pow_add]]
      exact Nat.pow_le_pow_right (by decide) (by omega)
    obtain ⟨u, v⟩ := s
    have ha : IsD (e * e) (n * n) (toL k (add k (mul k t.1 u u) (mul k t.1 (mul k t.1 v v) t.2))) := h.left
    have hb : IsD (e * e) (n * n) (toL k (add k (mul k t.1 u v) (mul k t.1 v u))) := h.right
    generalize h1 : add k (mul k t.1 u u) (mul k t.1 (mul k t.1 v v) t.2) = a1 at ha
    generalize h2 : add k (mul k t.1 u v) (mul k t.1 v u) = a2 at hb
    have e0 := Nat.mul_pos he he
    have ha : IsD (e * e) (n * n * 2 ^ 0) (toL k a1) := by simpa using ha
    have hb : IsD (e * e) (n * n * 2 ^ 0) (toL k a2) := by simpa using hb
    have g2 : IsD g (1 * 2 ^ r) (toL k t.2) := by simpa using g2
    have f2 : IsD f (1 * 2 ^ q) (toL k i) := by simpa using f2
    -- the norm
    obtain ⟨N, hN⟩ : ∃ N, N = add k (mul k t.1 u u) (neg k (mul k t.1 (mul k t.1 v v) t.2)) := ⟨_, rfl⟩
    have hNN : mul k t.1 N N = add k (mul k t.1 a1 a1) (neg k (mul k t.1 (mul k t.1 a2 a2) t.2)) := by
      rw [hN, ← h1, ← h2]
      exact (Laws.req L [u, v, t.2] (.mul (.add (.mul (.v 0) (.v 0)) (.neg (.mul (.mul (.v 1) (.v 1)) (.v 2)))) (.add (.mul (.v 0) (.v 0)) (.neg (.mul (.mul (.v 1) (.v 1)) (.v 2))))) (.add (.mul (.add (.mul (.v 0) (.v 0)) (.mul (.mul (.v 1) (.v 1)) (.v 2))) (.add (.mul (.v 0) (.v 0)) (.mul (.mul (.v 1) (.v 1)) (.v 2)))) (.neg (.mul (.mul (.add (.mul (.v 0) (.v 1)) (.mul (.v 1) (.v 0))) (.add (.mul (.v 0) (.v 1)) (.mul (.v 1) (.v 0)))) (.v 2)))) (by decide +kernel))
    have n1 : IsD (e * e * E * g * (e * e * E * g)) (n * n * 2 ^ (c + r + 1) * (n * n * 2 ^ (c + r + 1))) (toL k (mul k t.1 N N)) := by
      rw [hNN, toL_add, toL_neg]
      have x1 := (M e0 e0 ha ha).sc (Nat.mul_pos Eg0 g0) (show E * g * g ≤ 2 ^ (c + r + r) by rw [Nat.pow_add 2 (c + r)]; exact Nat.mul_le_mul Eg1 g1)
      have x2 := ((M (Nat.mul_pos (Nat.mul_pos e0 e0) E0) g0 (M e0 e0 hb hb) g2).sc g0 g1).neg
      rw [Nat.mul_one] at x2
      rw [show e * e * (e * e) * E * (E * g * g) = e * e * E * g * (e * e * E * g) by ac_rfl] at x1
      rw [show e * e * (e * e) * E * g * E * g = e * e * E * g * (e * e * E * g) by ac_rfl] at x2
      have x3 := x1.pw (show _ ≤ 2 * c + 2 * r by omega)
      have x4 := x2.pw (show _ ≤ 2 * c + 2 * r by omega)
      refine (x3.add x4).mono ?_
      rw [← Nat.mul_two]
      have x5 : 2 ^ (2 * c + 2 * r) * 2 ≤ 2 ^ (c + r + 1) * 2 ^ (c + r + 1) := by
        rw [← Nat.pow_succ, ← Nat.pow_add]; exact Nat.pow_le_pow_right (by decide) (by omega)
      have x6 := Nat.mul_le_mul_left (n * n * (n * n)) x5
      rw [show n * n * (n * n) * 2 ^ (2 * c + 2 * r) * 2 = n * n * (n * n) * (2 ^ (2 * c + 2 * r) * 2) by ac_rfl]
      exact Nat.le_trans x6 (Nat.le_of_eq (by ac_rfl))
    have n2 := D2 N (e * e * E * g) (n * n * 2 ^ (c + r + 1)) (Nat.mul_pos (Nat.mul_pos e0 E0) g0) n1
    rw [Nat.mul_assoc (n * n), ← Nat.pow_add] at n2
    have K0 : 0 < E * g * Δ := Nat.mul_pos Eg0 D0
    have K1 : E * g * Δ ≤ 2 ^ (c + r + G) := by rw [Nat.pow_add 2 (c + r)]; exact Nat.mul_le_mul Eg1 D1
    have a' := ha.sc K0 K1
    rw [show e * e * E * g * Δ = e * e * (E * g * Δ) by ac_rfl] at n2
    have half : ∀ {w S : El k}, add k w w = S → IsD (e * e * (E * g * Δ)) (n * n * 2 ^ (c + r + G + 2)) (toL k S) → IsD (e * e * (E * g * Δ) * 2) (n * n * 2 ^ (c + r + G + 2)) (toL k w) := fun e h => IsD.dbl (by rw [← toL_add, e]; exact h)
    have s1 : IsD (e * e * (E * g * Δ)) (n * n * 2 ^ (c + r + G + 2)) (toL k (add k a1 N)) := by
      rw [toL_add]
      refine ((a'.pw (show _ ≤ c + r + G + 1 by omega)).add (n2.pw (show _ ≤ c + r + G + 1 by omega))).mono ?_
      rw [Nat.pow_succ 2 (c + r + G + 1), ← Nat.mul_assoc, Nat.mul_two]; exact Nat.le_refl _
    have s2 : IsD (e * e * (E * g * Δ)) (n * n * 2 ^ (c + r + G + 2)) (toL k (add k a1 (neg k N))) := by
      rw [toL_add, toL_neg]
      refine ((a'.pw (show _ ≤ c + r + G + 1 by omega)).add ((n2.pw (show _ ≤ c + r + G + 1 by omega)).neg)).mono ?_
      rw [Nat.pow_succ 2 (c + r + G + 1), ← Nat.mul_assoc, Nat.mul_two]; exact Nat.le_refl _
    have u1 := half (w := mul k t.1 u u) (by rw [← h1, hN]; exact (Laws.req L [u, v, t.2] (.add (.mul (.v 0) (.v 0)) (.mul (.v 0) (.v 0))) (.add (.add (.mul (.v 0) (.v 0)) (.mul (.mul (.v 1) (.v 1)) (.v 2))) (.add (.mul (.v 0) (.v 0)) (.neg (.mul (.mul (.v 1) (.v 1)) (.v 2))))) (by decide +kernel))) s1
    have v1 := half (w := mul k t.1 (mul k t.1 v v) t.2) (by rw [← h1, hN]; exact (Laws.req L [u, v, t.2] (.add (.mul (.mul (.v 1) (.v 1)) (.v 2)) (.mul (.mul (.v 1) (.v 1)) (.v 2))) (.add (.add (.mul (.v 0) (.v 0)) (.mul (.mul (.v 1) (.v 1)) (.v 2))) (.neg (.add (.mul (.v 0) (.v 0)) (.neg (.mul (.mul (.v 1) (.v 1)) (.v 2)))))) (by decide +kernel))) s2
    have K2 : 0 < E * g * Δ * 2 := Nat.mul_pos K0 (by decide)
    have ek : 0 < e * (E * g * Δ * 2) := Nat.mul_pos he K2
    have sq : ∀ {w : El k} {x : Nat}, x ≤ (c + r + G + 2) + (c + r + G + 2) → IsD (e * (E * g * Δ * 2) * (e * (E * g * Δ * 2))) (n * n * 2 ^ x) (toL k (mul k t.1 w w)) → IsD (e * (E * g * Δ * 2) * Δ) (n * 2 ^ (c + r + G + 2 + G)) (toL k w) := fun {w x} hx h => by
      have h' := D2 w _ (n * 2 ^ (c + r + G + 2)) ek ((h.pw hx).mono (by rw [Nat.pow_add 2 (c + r + G + 2) (c + r + G + 2)]; exact Nat.le_of_eq (by ac_rfl)))
      rwa [Nat.mul_assoc n, ← Nat.pow_add] at h'
    have u2 : IsD (e * (E * g * Δ * 2) * Δ) (n * 2 ^ (c + r + G + 2 + G)) (toL k u) := by
      refine sq (x := c + r + G + 2 + (c + r + G + 1)) (by omega) ?_
      have := u1.sc K2 (show E * g * Δ * 2 ≤ 2 ^ (c + r + G + 1) by rw [Nat.pow_succ]; exact Nat.mul_le_mul_right _ K1)
      rwa [show e * e * (E * g * Δ) * 2 * (E * g * Δ * 2) = e * (E * g * Δ * 2) * (e * (E * g * Δ * 2)) by ac_rfl] at this
    have v2 : IsD (e * (E * g * Δ * 2) * Δ) (n * 2 ^ (c + r + G + 2 + G)) (toL k (mul k t.1 v t.2)) := by
      refine sq (x := c + r + G + 2 + r + c + (G + 1)) (by omega) ?_
      have := (M (Nat.mul_pos (Nat.mul_pos e0 K0) (by decide)) g0 v1 g2).sc (Nat.mul_pos D0 (by decide : 0 < 2)) (show Δ * 2 ≤ 2 ^ (G + 1) by rw [Nat.pow_succ]; exact Nat.mul_le_mul_right _ D1)
      rw [Nat.mul_one, show e * e * (E * g * Δ) * 2 * g * E * (Δ * 2) = e * (E * g * Δ * 2) * (e * (E * g * Δ * 2)) by ac_rfl] at this
      rwa [show mul k t.1 (mul k t.1 v t.2) (mul k t.1 v t.2) = mul k t.1 (mul k t.1 (mul k t.1 v v) t.2) t.2 from (Laws.req L [v, t.2] (.mul (.mul (.v 0) (.v 1)) (.mul (.v 0) (.v 1))) (.mul (.mul (.mul (.v 0) (.v 0)) (.v 1)) (.v 1)) (by decide +kernel))]
    have v3 : IsD (e * (E * g * Δ * 2) * Δ * f * E) (n * 1 * 2 ^ (c + r + G + 2 + G + q + c)) (toL k v) := by
      have := M (Nat.mul_pos ek D0) f0 v2 f2
      rwa [show mul k t.1 (mul k t.1 v t.2) i = v from by rw [L.ma, L.mc t.2, hi, L.mo]] at this
    have u3 := u2.sc (Nat.mul_pos f0 E0) (show f * E ≤ 2 ^ (q + c) by rw [Nat.pow_add]; exact Nat.mul_le_mul f1 E1)
    rw [show e * (2 * (E * g * Δ) * Δ * (f * E)) = e * (E * g * Δ * 2) * Δ * (f * E) by ac_rfl, hg']
    refine IsD.append (u3.pw (by omega)) ?_
    rw [Nat.mul_one, Nat.mul_assoc _ f E] at v3
    exact v3.pw (by omega)
/-- the root of a short square is short -/
theorem Sz.rootS {k r p : Nat} {t : Tw k} {s a : El k} (hT : TS r k t) (hR : red k t) (ha : Sz p (toL k a)) (e : Tow.mul k t s s = a) : Sz (p + gC r k) (toL k s) := by
  obtain ⟨Δ, D0, D1, D2⟩ := root_isD hT hR
  obtain ⟨d, d0, d1, d2⟩ := ha
  subst e
  have := D2 s d (2 ^ p) d0 ((d2.scale d0).mono (Nat.mul_le_mul_left _ (Nat.le_of_lt d1)))
  rw [← Nat.pow_add] at this
  refine ⟨_, Nat.mul_pos d0 D0, ?_, this⟩
  rw [Nat.pow_add]
  exact Nat.lt_of_lt_of_le (Nat.mul_lt_mul_of_pos_right d1 D0) (Nat.mul_le_mul_left _ D1)
/-- what is asked about halves -/
def sX (r k p : Nat) : Nat := p + nS r k p + gC r k + cB r k + iS r k r + 4
def vB (r : Nat) : Nat → Nat → Nat
  | 0, p => p
  | k + 1, p => vB r k (nB r k p)
/-- what a root takes -/
def qB (r : Nat) : Nat → Nat → Nat
  | 0, p => p
  | k + 1, p => p + vB r (k + 1) p + vB r (k + 1) r + nB r k p + qB r k (sX r k p) + iB r k (sX r k p + gC r k) + iS r k (sX r k p + gC r k) + iB r k r + 2 * cB r k + 4
theorem nB_mono {r k p q : Nat} (h : p ≤ q) : nB r k p ≤ nB r k q := by unfold nB; omega
theorem vB_mono {r : Nat} : ∀ {k s s' : Nat}, s ≤ s' → vB r k s ≤ vB r k s'
  | 0, _, _, h => h
  | k + 1, _, _, h => vB_mono (k := k) (nB_mono h)
theorem vB_ge {r : Nat} : ∀ (k s : Nat), s ≤ vB r k s
  | 0, _ => Nat.le_refl _
  | k + 1, s => Nat.le_trans (nB_ge r k s) (vB_ge k _)
theorem vB_le {r i k s : Nat} (h : i ≤ k) : vB r i s ≤ vB r k s := by
  induction k generalizing s with
  | zero => rw [show i = 0 by omega]; exact Nat.le_refl _
  | succ k ih =>
    by_cases e : i = k + 1
    · rw [e]; exact Nat.le_refl _
    · exact Nat.le_trans (ih (by omega)) (vB_mono (k := k) (nB_ge r k s))
theorem sX_mono {r k p q : Nat} (h : p ≤ q) : sX r k p ≤ sX r k q := by
  have := nS_mono (Nat.le_refl r) h (k := k)
  unfold sX; omega
theorem qB_mono {r : Nat} : ∀ {k p q : Nat}, p ≤ q → qB r k p ≤ qB r k q
  | 0, _, _, h => h
  | k + 1, p, q, h => by
    have h1 := vB_mono (r := r) (k := k + 1) h
    have h2 := nB_mono (r := r) (k := k) h
    have h3 := sX_mono (r := r) (k := k) h
    have h4 := qB_mono (r := r) (k := k) h3
    have h5 := iB_mono (Nat.le_refl r) (k := k) (show sX r k p + gC r k ≤ sX r k q + gC r k by omega)
    have h6 := iS_mono (Nat.le_refl r) (k := k) (show sX r k p + gC r k ≤ sX r k q + gC r k by omega)
    unfold qB; omega
theorem qB_ge {r : Nat} : ∀ {k p : Nat}, p ≤ qB r k p
  | 0, _ => Nat.le_refl _
  | k + 1, _ => by unfold qB; omega
theorem qB_le {r i k p : Nat} (h : i ≤ k) : qB r i p ≤ qB r k p := by
  induction k generalizing p with
  | zero => rw [show i = 0 by omega]; exact Nat.le_refl _
  | succ k ih =>
    by_cases e : i = k + 1
    · rw [e]; exact Nat.le_refl _
    · have h1 := ih (p := p) (by omega)
      have h2 : qB r k p ≤ qB r k (sX r k p) := qB_mono (by unfold sX; omega)
      have h3 : qB r k (sX r k p) ≤ qB r (k + 1) p := by conv => rhs; unfold qB
                                                         omega
      omega
end Go.Proofs.YtfmgfaeheljpcaaGreat
