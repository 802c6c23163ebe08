/- Conjugation in a tower, as plain data: it respects sums and products, and twice it changes nothing. -/
import Derived.Test.YtcobdnnfmhfenaaGreatTg
set_option linter.unusedVariables false
set_option linter.unusedSimpArgs false
namespace Go.Proofs.YtcobdnnfmhfenaaGreat
open Go Go.Rx Go.Num Go.Tow

/-- the conjugate with the opposite j-th root -/
def conj (j : Nat) : (k : Nat) → El k → El k
  | 0 => id
  | k + 1 => fun x => if j = k then (x.1, neg k x.2) else (conj j k x.1, conj j k x.2)
theorem conj_at {k : Nat} (a : El (k + 1)) : conj k (k + 1) a = ((a.1, neg k a.2) : El k × El k) := if_pos rfl
theorem conj_ne {j k : Nat} (h : ¬ j = k) (a : El (k + 1)) : conj j (k + 1) a = ((conj j k a.1, conj j k a.2) : El k × El k) := if_neg h
theorem flip_append (j : Nat) (A B : List Rat) : flipL j (A ++ B) = flipL j A ++ B.mapIdx fun q x => if (q + A.length) / 2 ^ j % 2 = 1 then -x else x := by
  rw [flipL, List.mapIdx_append]; rfl
theorem mapIdx_all {B : List Rat} {f g : Nat → Rat → Rat} (h : ∀ q x, q < B.length → f q x = g q x) : B.mapIdx f = B.mapIdx g := by
  apply List.ext_getElem?
  intro i
  rw [List.getElem?_mapIdx, List.getElem?_mapIdx]
  by_cases hi : i < B.length
  · rw [List.getElem?_eq_getElem hi]
    simp [h i _ hi]
  · rw [List.getElem?_eq_none (by omega)]; rfl
theorem mapIdx_map (B : List Rat) (f : Rat → Rat) : B.mapIdx (fun _ x => f x) = B.map f := by
  apply List.ext_getElem?
  intro i
  rw [List.getElem?_mapIdx, List.getElem?_map]
theorem mapIdx_id (B : List Rat) : B.mapIdx (fun _ x => x) = B := by
  rw [mapIdx_map B (fun x => x)]; simp
theorem bit_low {j k q : Nat} (h : j < k) : (q + 2 ^ k) / 2 ^ j % 2 = q / 2 ^ j % 2 := by
  have e : 2 ^ k = 2 ^ j * (2 * 2 ^ (k - j - 1)) := by
    rw [← Nat.pow_succ', ← Nat.pow_add]; congr 1; omega
  rw [e, Nat.add_mul_div_left _ _ (Nat.two_pow_pos j)]
  omega
theorem bit_at {k q : Nat} (h : q < 2 ^ k) : (q + 2 ^ k) / 2 ^ k % 2 = 1 ∧ q / 2 ^ k % 2 = 0 := by
  rw [Nat.add_div_right _ (Nat.two_pow_pos k), Nat.div_eq_of_lt h]
  exact ⟨rfl, rfl⟩
theorem bit_high {j q : Nat} (h : q < 2 ^ j) : q / 2 ^ j % 2 = 0 := by rw [Nat.div_eq_of_lt h]
theorem flip_high {j : Nat} {A : List Rat} (h : A.length ≤ 2 ^ j) : flipL j A = A := by
  rw [flipL, mapIdx_all (g := fun _ x => x) fun q x hq => by rw [bit_high (by omega)]; rfl, mapIdx_id]
theorem conj_high {j k : Nat} (h : k ≤ j) (a : El k) : conj j k a = a := by
  induction k with
  | zero => rfl
  | succ k ih =>
    rw [conj_ne (by omega), ih (by omega), ih (by omega)]; rfl
theorem toL_conj (j k : Nat) (a : El k) : toL k (conj j k a) = flipL j (toL k a) := by
  induction k with
  | zero =>
    show [a] = _
    rw [flip_high (by show 1 ≤ _; exact Nat.two_pow_pos j)]; rfl
  | succ k ih =>
    by_cases hj : j < k + 1
    · have e0 : flipL j (toL (k + 1) a) = flipL j (toL k a.1) ++ (toL k a.2).mapIdx fun q x => if (q + 2 ^ k) / 2 ^ j % 2 = 1 then -x else x := by
        show flipL j (toL k a.1 ++ toL k a.2) = _
        rw [flip_append, toL_length]
      rw [e0]
      by_cases hk : j = k
      · subst hk
        rw [conj_at, flip_high (by rw [toL_length]; exact Nat.le_refl _), mapIdx_all (g := fun _ x => -x) (fun q x hq => by rw [if_pos (bit_at (by rw [toL_length] at hq; exact hq)).1]), mapIdx_map _ (- ·), ← toL_neg]
        rfl
      · rw [conj_ne hk, mapIdx_all (g := fun q x => if q / 2 ^ j % 2 = 1 then -x else x) (fun q x hq => by rw [bit_low (by omega)])]
        show toL k _ ++ toL k _ = _
        rw [ih, ih]; rfl
    · rw [conj_high (by omega), flip_high (by rw [toL_length]; exact Nat.pow_le_pow_right (by decide) (by omega))]
theorem conj_add {j k : Nat} (t : Tw k) (x y : El k) : conj j k (add k x y) = add k (conj j k x) (conj j k y) := by
  induction k with
  | zero => rfl
  | succ k ih =>
    have e : ∀ u v : El (k + 1), add (k + 1) u v = ((add k u.1 v.1, add k u.2 v.2) : El k × El k) := fun _ _ => rfl
    by_cases hk : j = k
    · subst hk
      rw [conj_at, conj_at, conj_at]
      show ((add j x.1 y.1, neg j (add j x.2 y.2)) : El j × El j) = (add j x.1 y.1, add j (neg j x.2) (neg j y.2))
      rw [(ring j t.1).nd]
    · rw [conj_ne hk, conj_ne hk, conj_ne hk]
      show ((conj j k (add k x.1 y.1), conj j k (add k x.2 y.2)) : El k × El k) = (add k (conj j k x.1) (conj j k y.1), add k (conj j k x.2) (conj j k y.2))
      rw [ih t.1, ih t.1]
theorem conj_conj {j k : Nat} (t : Tw k) (x : El k) : conj j k (conj j k x) = x := by
  induction k with
  | zero => rfl
  | succ k ih =>
    by_cases hk : j = k
    · subst hk
      rw [conj_at, conj_at]
      show ((x.1, neg j (neg j x.2)) : El j × El j) = x
      rw [(ring j t.1).nn]; rfl
    · rw [conj_ne hk, conj_ne hk]
      show ((conj j k (conj j k x.1), conj j k (conj j k x.2)) : El k × El k) = x
      rw [ih t.1, ih t.1]; rfl
/-- the radicands above are fixed -/
def Fix (j : Nat) : (k : Nat) → Tw k → Prop
  | 0, _ => True
  | k + 1, t => Fix j k t.1 ∧ (j < k → conj j k t.2 = t.2)
theorem conj_mul {j k : Nat} {t : Tw k} (h : Fix j k t) (x y : El k) : conj j k (mul k t x y) = mul k t (conj j k x) (conj j k y) := by
  induction k with
  | zero => rfl
  | succ k ih =>
    have L := ring k t.1
    by_cases hk : j = k
    · subst hk
      rw [conj_at, conj_at, conj_at]
      show (add j (mul j t.1 x.1 y.1) (mul j t.1 (mul j t.1 x.2 y.2) t.2), neg j (add j (mul j t.1 x.1 y.2) (mul j t.1 x.2 y.1))) = (add j (mul j t.1 x.1 y.1) (mul j t.1 (mul j t.1 (neg j x.2) (neg j y.2)) t.2), add j (mul j t.1 x.1 (neg j y.2)) (mul j t.1 (neg j x.2) y.1))
      rw [L.nm, L.mn, L.nn, L.mn, L.nm, L.nd]
    · rw [conj_ne hk, conj_ne hk, conj_ne hk]
      have hr : conj j k t.2 = t.2 := by
        by_cases hj : j < k
        · exact h.2 hj
        · exact conj_high (by omega) _
      show (conj j k (add k (mul k t.1 x.1 y.1) (mul k t.1 (mul k t.1 x.2 y.2) t.2)), conj j k (add k (mul k t.1 x.1 y.2) (mul k t.1 x.2 y.1))) = (add k (mul k t.1 (conj j k x.1) (conj j k y.1)) (mul k t.1 (mul k t.1 (conj j k x.2) (conj j k y.2)) t.2), add k (mul k t.1 (conj j k x.1) (conj j k y.2)) (mul k t.1 (conj j k x.2) (conj j k y.1)))
      rw [conj_add t.1, conj_add t.1, ih h.1, ih h.1, ih h.1, ih h.1, ih h.1, hr]
theorem fix_of {j k : Nat} {t : Tw k} (h : conjOk j (toT k t)) : Fix j k t := by
  induction k with
  | zero => trivial
  | succ k ih =>
    have hl : (toT k t.1).length = k := toT_length k t.1
    have e : toT (k + 1) t = toT k t.1 ++ [toL k t.2] := rfl
    refine ⟨ih fun u r hu hur => h u r hu ?_, fun hj => ?_⟩
    · rw [e, List.getElem?_append_left]
      · exact hur
      · by_cases h : u < (toT k t.1).length
        · exact h
        · rw [List.getElem?_eq_none (by omega)] at hur; cases hur
    · refine toL_inj ?_
      rw [toL_conj]
      have hz := h k (toL k t.2) hj (by rw [e, List.getElem?_append_right (by omega), hl, Nat.sub_self]; rfl)
      apply List.ext_getElem?
      intro p
      cases hx : (toL k t.2)[p]? with
      | none => rw [List.getElem?_eq_none_iff] at hx ⊢; rw [flip_length]; exact hx
      | some x =>
        rw [flip_get hx]
        split
        · rename_i hb; rw [hz p x hx hb]; rfl
        · rfl
theorem Sz.flip {p j : Nat} {l : List Rat} (h : Sz p l) : Sz p (flipL j l) := by
  obtain ⟨d, h0, h1, h2⟩ := h
  refine ⟨d, h0, h1, fun x hx => ?_⟩
  obtain ⟨i, hi, rfl⟩ := List.mem_mapIdx.1 hx
  obtain ⟨z, k1, k2⟩ := h2 l[i] (List.getElem_mem hi)
  split
  · exact ⟨-z, by rw [Rat.neg_mul, k1, Rat.intCast_neg], by rw [Int.natAbs_neg]; exact k2⟩
  · exact ⟨z, k1, k2⟩
end Go.Proofs.YtcobdnnfmhfenaaGreat
