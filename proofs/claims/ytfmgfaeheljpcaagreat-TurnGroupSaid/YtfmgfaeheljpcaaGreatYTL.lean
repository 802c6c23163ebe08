/- Values of elements of towers in one great tower. -/
import Derived.Test.YtfmgfaeheljpcaaGreatYTK
set_option linter.unusedVariables false
set_option linter.unusedSimpArgs false
namespace Go.Tow
open Go Go.Num Go.Proofs.YtfmgfaeheljpcaaGreat
section
/-- the value of an element, ρ i being that of root i -/
def ev {K : Nat} (G : Tw K) (ρ : Nat → El K) : (k : Nat) → El k → El K
  | 0, x => rat K x
  | k + 1, a => add K (ev G ρ k a.1) (mul K G (ev G ρ k a.2) (ρ k))
/-- ρ maps the tower t into G -/
def Hom {K : Nat} (G : Tw K) (ρ : Nat → El K) : (k : Nat) → Tw k → Prop
  | 0, _ => True
  | k + 1, t => Hom G ρ k t.1 ∧ mul K G (ρ k) (ρ k) = ev G ρ k t.2 ∧ sgn K G (ρ k) = 1
variable {K : Nat} {G : Tw K} {ρ σ : Nat → El K}
theorem ev_congr : ∀ {k : Nat} {a : El k}, (∀ i, i < k → ρ i = σ i) → ev G ρ k a = ev G σ k a
  | 0, _, _ => rfl
  | k + 1, a, h => by
    show add K (ev G ρ k a.1) (mul K G (ev G ρ k a.2) (ρ k)) = add K (ev G σ k a.1) (mul K G (ev G σ k a.2) (σ k))
    rw [ev_congr (k := k) fun i hi => h i (by omega), ev_congr (k := k) (a := a.2) fun i hi => h i (by omega), h k (by omega)]
theorem Hom.congr : ∀ {k : Nat} {t : Tw k}, Hom G ρ k t → (∀ i, i < k → ρ i = σ i) → Hom G σ k t
  | 0, _, _, _ => trivial
  | k + 1, t, ⟨h1, h2, h3⟩, h => ⟨h1.congr fun i hi => h i (by omega), by rw [← h k (by omega), h2]; exact ev_congr fun i hi => h i (by omega), by rw [← h k (by omega)]; exact h3⟩
theorem ev_zero : ∀ {k : Nat}, ev G ρ k (zero k) = zero K
  | 0 => rat_zero K
  | k + 1 => by
    show add K (ev G ρ k (zero k)) (mul K G (ev G ρ k (zero k)) (ρ k)) = zero K
    rw [ev_zero, (ring K G).zm, (ring K G).az]
theorem ev_add : ∀ {k : Nat} {a b : El k}, ev G ρ k (add k a b) = add K (ev G ρ k a) (ev G ρ k b)
  | 0, a, b => rat_add K a b
  | k + 1, a, b => by
    show add K (ev G ρ k (add k a.1 b.1)) (mul K G (ev G ρ k (add k a.2 b.2)) (ρ k)) = add K (add K (ev G ρ k a.1) (mul K G (ev G ρ k a.2) (ρ k))) (add K (ev G ρ k b.1) (mul K G (ev G ρ k b.2) (ρ k)))
    rw [ev_add, ev_add]
    have L := ring K G
    exact (Laws.req L [ev G ρ k a.1, ev G ρ k a.2, ev G ρ k b.1, ev G ρ k b.2, ρ k] (.add (.add (.v 0) (.v 2)) (.mul (.add (.v 1) (.v 3)) (.v 4))) (.add (.add (.v 0) (.mul (.v 1) (.v 4))) (.add (.v 2) (.mul (.v 3) (.v 4)))) (by decide +kernel))
theorem ev_neg : ∀ {k : Nat} {a : El k}, ev G ρ k (neg k a) = neg K (ev G ρ k a)
  | 0, a => rat_neg K a
  | k + 1, a => by
    show add K (ev G ρ k (neg k a.1)) (mul K G (ev G ρ k (neg k a.2)) (ρ k)) = neg K (add K (ev G ρ k a.1) (mul K G (ev G ρ k a.2) (ρ k)))
    rw [ev_neg, ev_neg, (ring K G).nm, (ring K G).nd]
theorem ev_up {k : Nat} {a : El k} : ev G ρ (k + 1) (up k a) = ev G ρ k a := by
  show add K (ev G ρ k a) (mul K G (ev G ρ k (zero k)) (ρ k)) = _
  rw [ev_zero, (ring K G).zm, (ring K G).az]
theorem ev_rat : ∀ {k : Nat} {x : Rat}, ev G ρ k (rat k x) = rat K x
  | 0, _ => rfl
  | k + 1, x => by rw [show rat (k + 1) x = up k (rat k x) from rfl, ev_up, ev_rat]
theorem ev_mul : ∀ {k : Nat} {t : Tw k} {a b : El k}, Hom G ρ k t → ev G ρ k (mul k t a b) = mul K G (ev G ρ k a) (ev G ρ k b)
  | 0, t, a, b, _ => rat_mul K G a b
  | k + 1, t, a, b, h => by
    show add K (ev G ρ k (add k (mul k t.1 a.1 b.1) (mul k t.1 (mul k t.1 a.2 b.2) t.2))) (mul K G (ev G ρ k (add k (mul k t.1 a.1 b.2) (mul k t.1 a.2 b.1))) (ρ k)) = mul K G (add K (ev G ρ k a.1) (mul K G (ev G ρ k a.2) (ρ k))) (add K (ev G ρ k b.1) (mul K G (ev G ρ k b.2) (ρ k)))
    rw [ev_add, ev_add, ev_mul h.1, ev_mul h.1, ev_mul h.1, ev_mul h.1, ev_mul h.1, ← h.2.1]
    have L := ring K G
    exact (Laws.req L [ev G ρ k a.1, ev G ρ k a.2, ev G ρ k b.1, ev G ρ k b.2, ρ k] (.add (.add (.mul (.v 0) (.v 2)) (.mul (.mul (.v 1) (.v 3)) (.mul (.v 4) (.v 4)))) (.mul (.add (.mul (.v 0) (.v 3)) (.mul (.v 1) (.v 2))) (.v 4))) (.mul (.add (.v 0) (.mul (.v 1) (.v 4))) (.add (.v 2) (.mul (.v 3) (.v 4)))) (by decide +kernel))
theorem ev_norm {k : Nat} {t : Tw (k + 1)} {a : El (k + 1)} (h : Hom G ρ k t.1) : ev G ρ k (norm k t a) = add K (mul K G (ev G ρ k a.1) (ev G ρ k a.1)) (neg K (mul K G (mul K G (ev G ρ k a.2) (ev G ρ k a.2)) (ev G ρ k t.2))) := by
  unfold norm
  rw [ev_add, ev_neg, ev_mul h, ev_mul h, ev_mul h]
/-- signs are kept -/
theorem ev_sgn (hG : real K G) : ∀ {k : Nat} {t : Tw k} {a : El k}, Hom G ρ k t → sgn K G (ev G ρ k a) = sgn k t a
  | 0, t, a, _ => sgn_rat hG
  | k + 1, t, a, h => by
    have L := ring K G
    have S := sgn_ok hG
    have e : sgn (k + 1) t a = L.sx (ev G ρ k t.2) (sgn K G) (ev G ρ k a.1, ev G ρ k a.2) := by
      show (if sgn k t.1 a.2 = 0 ∨ sgn k t.1 a.1 = sgn k t.1 a.2 then sgn k t.1 a.1 else if sgn k t.1 a.1 = 0 then sgn k t.1 a.2 else sgn k t.1 a.1 * sgn k t.1 (norm k t a)) = _
      rw [← ev_sgn hG h.1, ← ev_sgn hG h.1 (a := a.1), ← ev_sgn hG h.1 (a := norm k t a), ev_norm h.1]
      rfl
    have hr : L.Rt (ev G ρ k t.2) (sgn K G) (ρ k) (rat K 1) := by
      refine ⟨h.2.2, by rw [sgn_rat hG]; decide +kernel, ?_⟩
      rw [h.2.1, L.mo, L.mo, L.an, S.s0 L]
    have hd : sgn K G (ev G ρ k t.2) = 1 := by rw [← h.2.1, S.sm, h.2.2]; rfl
    rw [e, S.sx_rt L hd hr, L.mo]
    rfl
theorem ev_inj0 (hG : real K G) {k : Nat} {t : Tw k} (h : Hom G ρ k t) (hr : red k t) {a : El k} (e : ev G ρ k a = zero K) : a = zero k := by
  have := ev_sgn hG h (a := a)
  rw [e, (sgn_ok hG).s0 (ring K G)] at this
  exact (red_zero hr).1 this.symm
theorem ev_inj (hG : real K G) {k : Nat} {t : Tw k} (h : Hom G ρ k t) (hr : red k t) {a b : El k} (e : ev G ρ k a = ev G ρ k b) : a = b := by
  refine (ring k t).sub0 (ev_inj0 hG h hr (a := add k a (neg k b)) ?_)
  rw [ev_add, ev_neg, e, (ring K G).an]
/-- the roots' values are known -/
theorem Hom.uniq (hG : red K G) : ∀ {k : Nat} {t : Tw k}, Hom G ρ k t → Hom G σ k t → ∀ i, i < k → ρ i = σ i
  | 0, _, _, _, i, hi => by omega
  | k + 1, t, h, h', i, hi => by
    have ih := h.1.uniq hG h'.1
    by_cases e : i = k
    · subst e
      refine sq_pos hG (by rw [h.2.1, h'.2.1, ev_congr ih]) (by rw [h.2.2]; decide) (by rw [h'.2.2]; decide)
    · exact ih i (by omega)
theorem root_top (i : Nat) : root (i + 1) i = (pr (zero i) (rat i 1) : El (i + 1)) := by
  unfold root; rw [if_pos rfl]
theorem root_low {k i : Nat} (h : i ≠ k) : root (k + 1) i = (up k (root k i) : El (k + 1)) := by
  conv => lhs; unfold root
  rw [if_neg h]
theorem ev_root : ∀ {k i : Nat}, i < k → ev G ρ k (root k i) = ρ i
  | k + 1, i, hi => by
    by_cases e : i = k
    · subst e
      rw [root_top]
      show add K (ev G ρ i (zero i)) (mul K G (ev G ρ i (rat i 1)) (ρ i)) = _
      rw [ev_zero, ev_rat, (ring K G).om, (ring K G).za]
    · rw [root_low e, ev_up, ev_root (by omega)]
/-- different roots have different values -/
theorem Hom.ne (hG : real K G) : ∀ {k : Nat} {t : Tw k}, Hom G ρ k t → red k t → ∀ i j, i < j → j < k → ρ i ≠ ρ j
  | 0, _, _, _, i, j, _, h => by omega
  | k + 1, t, h, hr, i, j, hij, hj => fun e => by
    by_cases ej : j = k
    · subst ej
      refine hr.2.2 ⟨root j i, ev_inj hG h.1 hr.1 ?_⟩
      rw [ev_mul h.1, ev_root hij, e, h.2.1]
    · exact h.1.ne hG hr.1 i j hij (by omega) e
theorem pigeon {α : Type} : ∀ (k : Nat) (S : List α) (f : Nat → α), (∀ i, i < k → f i ∈ S) → (∀ i j, i < j → j < k → f i ≠ f j) → k ≤ S.length
  | 0, _, _, _, _ => Nat.zero_le _
  | k + 1, S, f, h1, h2 => by
    obtain ⟨A, B, e⟩ := List.append_of_mem (h1 k (by omega))
    have := pigeon k (A ++ B) f (fun i hi => by
      have h3 := h1 i (by omega)
      rw [e] at h3
      rcases List.mem_append.1 h3 with h3 | h3
      · exact List.mem_append_left _ h3
      · rcases List.mem_cons.1 h3 with h3 | h3
        · exact absurd h3 (h2 i k hi (by omega))
        · exact List.mem_append_right _ h3) (fun i j hi hj => h2 i j hi (by omega))
    rw [e]
    simp only [List.length_append, List.length_cons] at this ⊢
    omega
/-- a tower of roots in S -/
structure TOk {K : Nat} (G : Tw K) (S : List (El K)) (k : Nat) (t : Tw k) (ρ : Nat → El K) : Prop where
  r : red k t
  h : Hom G ρ k t
  s : ∀ i, i < k → ρ i ∈ S
theorem TOk.le (hG : real K G) {S : List (El K)} {k : Nat} {t : Tw k} (h : TOk G S k t ρ) : k ≤ S.length := pigeon k S ρ h.s (h.h.ne hG h.r)
/-- a root is adjoined -/
theorem TOk.snoc (hG : real K G) {S : List (El K)} {k : Nat} {t : Tw k} (h : TOk G S k t ρ) {a : El k} (hn : ¬ isSq k t a) {s : El K} (hs : s ∈ S) (h1 : mul K G s s = ev G ρ k a) (h2 : sgn K G s = 1) : TOk G S (k + 1) (tsn t a) (fun i => if i = k then s else ρ i) where
  r := ⟨h.r, by show sgn k t a = 1; rw [← ev_sgn hG h.h, ← h1, (sgn_ok hG).sm, h2]; rfl, hn⟩
  h := ⟨h.h.congr fun i hi => (if_neg (by omega)).symm, by
    show mul K G (if k = k then s else ρ k) (if k = k then s else ρ k) = ev G _ k a
    rw [if_pos rfl, h1]; exact ev_congr fun i hi => (if_neg (by omega)).symm, by
    show sgn K G (if k = k then s else ρ k) = 1
    rw [if_pos rfl, h2]⟩
  s := fun i hi => by
    show (if i = k then s else ρ i) ∈ S
    split
    · exact hs
    · exact h.s i (by omega)
/-- one more root in the great tower -/
theorem ev_tsn {v : El K} : ∀ {k : Nat} {a : El k}, ev (tsn G v) (fun i => up K (ρ i)) k a = up K (ev G ρ k a)
  | 0, a => rfl
  | k + 1, a => by
    show add (K + 1) (ev (tsn G v) _ k a.1) (mul (K + 1) (tsn G v) (ev (tsn G v) _ k a.2) (up K (ρ k))) = up K (add K (ev G ρ k a.1) (mul K G (ev G ρ k a.2) (ρ k)))
    rw [ev_tsn, ev_tsn, mul_up]
    exact Prod.ext rfl ((ring K G).az (zero K))
theorem Hom.tsn (hG : real K G) {v : El K} : ∀ {k : Nat} {t : Tw k}, Hom G ρ k t → Hom (tsn G v) (fun i => up K (ρ i)) k t
  | 0, _, _ => trivial
  | k + 1, t, h => ⟨h.1.tsn hG, by rw [ev_tsn, ← h.2.1, mul_up]; rfl, by rw [sgn_up _ (show real K (Tow.tsn G v).1 from hG)]; exact h.2.2⟩
end
section
variable {K : Nat} {G : Tw K} {ρ : Nat → El K}
/-- the same element, further coefficients 0 -/
def Lf {k m : Nat} (a : El k) (b : El m) : Prop := toL m b = toL k a ++ List.replicate (2 ^ m - 2 ^ k) 0
theorem Lf.ex {k m : Nat} (h : k ≤ m) (a : El k) : ∃ b : El m, Lf a b := by
  obtain ⟨b, hb⟩ := exE m (toL k a ++ List.replicate (2 ^ m - 2 ^ k) 0) (by
    have := Nat.pow_le_pow_right (n := 2) (by decide) h
    rw [List.length_append, toL_length, List.length_replicate]; omega)
  exact ⟨b, hb⟩
theorem Lf.eq {k : Nat} {a b : El k} (h : Lf a b) : b = a := by
  unfold Lf at h; rw [Nat.sub_self] at h
  exact toL_inj (by simpa using h)
theorem Lf.ev {k : Nat} {a : El k} : ∀ {m : Nat} {b : El m}, k ≤ m → Lf a b → ev G ρ m b = ev G ρ k a := by
  intro m
  induction m with
  | zero => intro b h hl; have := Nat.le_zero.1 h; subst this; rw [hl.eq]
  | succ m ih =>
    intro b h hl
    by_cases e : k = m + 1
    · subst e; rw [hl.eq]
    · have hp := Nat.pow_le_pow_right (n := 2) (by decide) (show k ≤ m by omega)
      have hs : 2 ^ (m + 1) - 2 ^ k = (2 ^ m - 2 ^ k) + 2 ^ m := by rw [Nat.pow_succ]; omega
      have hl : toL m b.1 ++ toL m b.2 = (toL k a ++ List.replicate (2 ^ m - 2 ^ k) 0) ++ List.replicate (2 ^ m) 0 := by
        have : toL (m + 1) b = _ := hl
        rw [hs, ← List.replicate_append_replicate, ← List.append_assoc] at this
        exact this
      obtain ⟨h1, h2⟩ := append_inj' (by rw [toL_length, List.length_append, toL_length, List.length_replicate]; omega) hl
      have e2 : b.2 = zero m := toL_inj (by rw [h2, toL_zero])
      show add K (Tow.ev G ρ m b.1) (mul K G (Tow.ev G ρ m b.2) (ρ m)) = _
      rw [e2, ev_zero, (ring K G).zm, (ring K G).az]
      exact ih (by omega) h1
theorem Lf.sz {k m p : Nat} {a : El k} {b : El m} (h : Lf a b) (ha : Sz p (toL k a)) : Sz p (toL m b) := by
  obtain ⟨d, d0, d1, d2⟩ := ha
  rw [h]
  exact ⟨d, d0, d1, d2.append fun x hx => ⟨0, by rw [(List.mem_replicate.1 hx).2, Rat.zero_mul]; rfl, Nat.two_pow_pos p⟩⟩
theorem toT_inj : ∀ {k : Nat} {t w : Tw k}, toT k t = toT k w → t = w
  | 0, _, _, _ => rfl
  | k + 1, t, w, h => by
    have h : toT k t.1 ++ [toL k t.2] = toT k w.1 ++ [toL k w.2] := h
    obtain ⟨h1, h2⟩ := append_inj' (by rw [toT_length, toT_length]) h
    exact Prod.ext (toT_inj h1) (toL_inj (by injection h2))
/-- the first i radicands of a tower -/
theorem Tw.cut {k : Nat} : ∀ {t : Tw k} {i : Nat}, i ≤ k → ∃ w : Tw i, toT i w = (toT k t).take i ∧ (∀ r, TS r k t → TS r i w) ∧ (red k t → red i w) ∧ ∀ {K : Nat} {G : Tw K} {ρ : Nat → El K}, Hom G ρ k t → Hom G ρ i w := by
  induction k with
  | zero => intro t i h; have := Nat.le_zero.1 h; subst this; exact ⟨t, rfl, fun _ h => h, fun h => h, fun h => h⟩
  | succ k ih =>
    intro t i h
    by_cases e : i = k + 1
    · subst e; exact ⟨t, by rw [List.take_of_length_le (by rw [toT_length]; exact Nat.le_refl _)], fun _ h => h, fun h => h, fun h => h⟩
    · obtain ⟨w, h1, h2, h3, h4⟩ := ih (t := t.1) (i := i) (by omega)
      refine ⟨w, ?_, fun r h => h2 r h.1, fun h => h3 h.1, fun h => h4 h.1⟩
      show _ = (toT k t.1 ++ [toL k t.2]).take i
      rw [List.take_append_of_le_length (by rw [toT_length]; omega), h1]
/-- a tower that begins with another one -/
def Beg (k : Nat) (t : Tw k) (m : Nat) (T : Tw m) : Prop := (toT m T).take (toT k t).length = toT k t
theorem Beg.le {k m : Nat} {t : Tw k} {T : Tw m} (h : Beg k t m T) : k ≤ m := by
  have := congrArg List.length h
  simp only [List.length_take, toT_length] at this; omega
theorem Beg.hom {k m : Nat} {t : Tw k} {T : Tw m} (h : Beg k t m T) (hT : Hom G ρ m T) : Hom G ρ k t := by
  obtain ⟨w, h1, _, _, h4⟩ := Tw.cut (t := T) h.le
  have : w = t := toT_inj (by rw [h1]; unfold Beg at h; rwa [toT_length] at h)
  rw [← this]; exact h4 hT
theorem Beg.rf {k : Nat} {t : Tw k} : Beg k t k t := List.take_of_length_le (Nat.le_refl _)
theorem Beg.tr {k l m : Nat} {t : Tw k} {u : Tw l} {w : Tw m} (h : Beg k t l u) (h' : Beg l u m w) : Beg k t m w := by
  have h1 := h.le
  unfold Beg at *
  rw [← h', List.take_take, toT_length, toT_length, Nat.min_eq_left h1] at h
  rw [toT_length]; exact h
theorem Beg.snoc {k : Nat} {t : Tw k} {a : El k} : Beg k t (k + 1) (tsn t a) := List.take_left' rfl
/-- what an image takes -/
def imB (c z : Nat) : Nat → Nat → Nat
  | 0, p => p + 1
  | j + 1, p => 2 * imB c z j p + z + c + 1
theorem ev_sz {k R z : Nat} {T : Tw k} {σ : Nat → El k} (hT : TS R k T) : ∀ {j p : Nat} {a : El j}, (∀ i, i < j → Sz z (toL k (σ i))) → Sz p (toL j a) → Sz (imB (cB R k) z j p) (toL k (ev T σ j a))
  | 0, p, a, _, ha => Sz.rat k (ha.qs (x := a) (List.mem_singleton.2 rfl))
  | j + 1, p, a, hs, ha => by
    have h1 := ev_sz hT (a := a.1) (fun i hi => hs i (by omega)) (Sz.left ha)
    have h2 := ev_sz hT (a := a.2) (fun i hi => hs i (by omega)) (Sz.right ha)
    have h3 := h2.mul hT (hs j (by omega))
    show Sz _ (toL k (add k (Tow.ev T σ j a.1) (mul k T (Tow.ev T σ j a.2) (σ j))))
    rw [toL_add]
    exact (h1.add h3).mono (by show _ ≤ 2 * imB (cB R k) z j p + z + cB R k + 1; omega)
/-- the value of an image -/
theorem ev_ev {k : Nat} {T : Tw k} {σ : Nat → El k} {ρ' : Nat → El K} (hT : Hom G ρ k T) : ∀ {j : Nat} {a : El j}, (∀ i, i < j → ev G ρ k (σ i) = ρ' i) → ev G ρ k (ev T σ j a) = ev G ρ' j a
  | 0, a, _ => ev_rat
  | j + 1, a, h => by
    show ev G ρ k (add k (ev T σ j a.1) (mul k T (ev T σ j a.2) (σ j))) = add K (ev G ρ' j a.1) (mul K G (ev G ρ' j a.2) (ρ' j))
    rw [ev_add, ev_mul hT, ev_ev hT fun i hi => h i (by omega), ev_ev hT (a := a.2) fun i hi => h i (by omega), h j (by omega)]
end
section
theorem Tw.at {k : Nat} : ∀ {t : Tw k} {i : Nat}, i < k → ∃ x : El i, (toT k t)[i]? = some (toL i x) ∧ (∀ r, TS r k t → Sz r (toL i x)) ∧ ∀ {K : Nat} {G : Tw K} {ρ : Nat → El K}, Hom G ρ k t → mul K G (ρ i) (ρ i) = ev G ρ i x ∧ sgn K G (ρ i) = 1 := by
  induction k with
  | zero => intro t i h; omega
  | succ k ih =>
    intro t i h
    have hl := toT_length k t.1
    by_cases e : i = k
    · subst e
      refine ⟨t.2, ?_, fun r h => h.2, fun h => h.2⟩
      show (toT i t.1 ++ [toL i t.2])[i]? = _
      rw [List.getElem?_append_right (by omega), hl, Nat.sub_self]; rfl
    · obtain ⟨x, h1, h2, h3⟩ := ih (t := t.1) (i := i) (by omega)
      refine ⟨x, ?_, fun r h => h2 r h.1, fun h => h3 h.1⟩
      show (toT k t.1 ++ [toL k t.2])[i]? = _
      rw [List.getElem?_append_left (by omega), h1]
theorem _root_.Go.Proofs.YtfmgfaeheljpcaaGreat.TS.mono {r s : Nat} (h : r ≤ s) : ∀ {k : Nat} {t : Tw k}, TS r k t → TS s k t
  | 0, _, _ => trivial
  | k + 1, t, ht => ⟨ht.1.mono h, ht.2.mono h⟩
theorem cB_le' {r i k : Nat} (h : i ≤ k) : cB r i ≤ cB r k := by
  induction k with
  | zero => rw [show i = 0 by omega]; exact Nat.le_refl _
  | succ k ih =>
    by_cases e : i = k + 1
    · rw [e]; exact Nat.le_refl _
    · exact Nat.le_trans (ih (by omega)) (cB_le r k)
theorem gC_le {r i k : Nat} (h : i ≤ k) : gC r i ≤ gC r k := by
  induction k with
  | zero => rw [show i = 0 by omega]; exact Nat.le_refl _
  | succ k ih =>
    by_cases e : i = k + 1
    · rw [e]; exact Nat.le_refl _
    · exact Nat.le_trans (ih (by omega)) (by show _ ≤ 2 * gC r k + 2 * cB r k + r + iS r k r + 2; omega)
theorem iB_le {r i k p : Nat} (h : i ≤ k) : iB r i p ≤ iB r k p := by
  induction k generalizing p with
  | zero => rw [show i = 0 by omega]; exact Nat.le_refl _
  | succ k ih =>
    by_cases e : i = k + 1
    · rw [e]; exact Nat.le_refl _
    · have h1 := ih (p := p) (by omega)
      have h2 := iB_mono (Nat.le_refl r) (k := k) (nB_ge r k p)
      exact Nat.le_trans (Nat.le_trans h1 h2) (by show _ ≤ 2 * (p + iB r k (nB r k p) + cB r k); omega)
theorem iS_le {r i k p : Nat} (h : i ≤ k) : iS r i p ≤ iS r k p := by
  induction k generalizing p with
  | zero => rw [show i = 0 by omega]; exact Nat.le_refl _
  | succ k ih =>
    by_cases e : i = k + 1
    · rw [e]; exact Nat.le_refl _
    · have h1 := ih (p := p) (by omega)
      have h2 := iS_mono (Nat.le_refl r) (k := k) (show p ≤ nS r k p by unfold nS; omega)
      exact Nat.le_trans (Nat.le_trans h1 h2) (by show _ ≤ p + iS r k (nS r k p) + cB r k; omega)
theorem imB_mono {c c' z z' p p' : Nat} (h1 : c ≤ c') (h2 : z ≤ z') (h3 : p ≤ p') : ∀ {j : Nat}, imB c z j p ≤ imB c' z' j p'
  | 0 => by show p + 1 ≤ p' + 1; omega
  | j + 1 => by have := imB_mono h1 h2 h3 (j := j); show 2 * imB c z j p + z + c + 1 ≤ 2 * imB c' z' j p' + z' + c' + 1; omega
theorem imB_ge {c z p : Nat} : ∀ {j : Nat}, p ≤ imB c z j p
  | 0 => by show p ≤ p + 1; omega
  | j + 1 => by have := imB_ge (c := c) (z := z) (p := p) (j := j); show _ ≤ 2 * imB c z j p + z + c + 1; omega
variable {K : Nat} {G : Tw K} {ρ ρ' ρu : Nat → El K}
/-- the list rs holds roots with the values ρu, in a tower of height m -/
def RtV (G : Tw K) (m z j : Nat) (rs : List (List Rat)) (ρ ρu : Nat → El K) : Prop := ∀ i, i < j → ∃ (n : Nat) (s : El n), n ≤ m ∧ rs[i]? = some (toL n s) ∧ Sz z (toL n s) ∧ ev G ρ n s = ρu i
theorem RtV.mono {m m' z z' j : Nat} {rs : List (List Rat)} (h : RtV G m z j rs ρ ρu) (hm : m ≤ m') (hz : z ≤ z') (hr : ∀ i, i < m → ρ' i = ρ i) : RtV G m' z' j rs ρ' ρu := fun i hi => by
  obtain ⟨n, s, h1, h2, h3, h4⟩ := h i hi
  exact ⟨n, s, by omega, h2, h3.mono hz, by rw [← h4]; exact ev_congr fun i hi => hr i (by omega)⟩
theorem RtV.snoc {m z j n : Nat} {rs : List (List Rat)} (h : RtV G m z j rs ρ ρu) (hl : rs.length = j) {s : El n} (hn : n ≤ m) (hz : Sz z (toL n s)) (he : ev G ρ n s = ρu j) : RtV G m z (j + 1) (rs ++ [toL n s]) ρ ρu := fun i hi => by
  by_cases e : i = j
  · subst e
    exact ⟨n, s, hn, by rw [List.getElem?_append_right (by omega), hl, Nat.sub_self]; rfl, hz, he⟩
  · obtain ⟨n', s', h1, h2, h3, h4⟩ := h i (by omega)
    exact ⟨n', s', h1, by rw [List.getElem?_append_left (by omega), h2], h3, h4⟩
/-- a number -/
structure Nm where
  k : Nat
  t : Tw k
  a : El k
/-- a number with the value v over roots in S -/
structure NOk (G : Tw K) (S : List (El K)) (r p : Nat) (x : Nm) (v : El K) : Prop where
  ex : ∃ ρ, TOk G S x.k x.t ρ ∧ ev G ρ x.k x.a = v
  r : TS r x.k x.t
  p : Sz p (toL x.k x.a)
theorem NOk.mono {S : List (El K)} {r r' p p' : Nat} {x : Nm} {v : El K} (h : NOk G S r p x v) (hr : r ≤ r') (hp : p ≤ p') : NOk G S r' p' x v := ⟨h.ex, h.r.mono hr, h.p.mono hp⟩
theorem NOk.le (hG : real K G) {S : List (El K)} {r p : Nat} {x : Nm} {v : El K} (h : NOk G S r p x v) (hS : S.length ≤ 3) : x.k ≤ 3 := by
  obtain ⟨ρ, h1, _⟩ := h.ex
  exact Nat.le_trans (h1.le hG) hS
theorem NOk.sgn (hG : real K G) {S : List (El K)} {r p : Nat} {x : Nm} {v : El K} (h : NOk G S r p x v) : sgn K G v = sgn x.k x.t x.a := by
  obtain ⟨ρ, h1, h2⟩ := h.ex
  rw [← h2, ev_sgn hG h1.h]
theorem NOk.neg {S : List (El K)} {r p : Nat} {x : Nm} {v : El K} (h : NOk G S r p x v) : NOk G S r p ⟨x.k, x.t, Tow.neg x.k x.a⟩ (Tow.neg K v) := by
  obtain ⟨ρ, h1, h2⟩ := h.ex
  exact ⟨⟨ρ, h1, by rw [← h2]; exact ev_neg⟩, h.r, by rw [toL_neg]; exact h.p.neg⟩
end
end Go.Tow
