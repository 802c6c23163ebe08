/- Towers: sizes of the numbers. -/
import Derived.Test.YtcobdnnfmhfenaaGreatLc
import Derived.Test.YtcobdnnfmhfenaaGreatTa
set_option linter.unusedVariables false
set_option linter.unusedSimpArgs false
namespace Go.Proofs.YtcobdnnfmhfenaaGreat
open Go Go.Rx Go.Num Go.Tow

/-- all numbers have the denominator d, and numerators below n -/
def IsD (d n : Nat) (l : List Rat) : Prop := ∀ x ∈ l, ∃ z : Int, x * (d : Rat) = (z : Rat) ∧ z.natAbs < n
theorem IsD.mono {d n m : Nat} {l : List Rat} (h : IsD d n l) (hm : n ≤ m) : IsD d m l := fun x hx =>
  let ⟨z, h1, h2⟩ := h x hx; ⟨z, h1, Nat.lt_of_lt_of_le h2 hm⟩
theorem IsD.scale {d n e : Nat} {l : List Rat} (h : IsD d n l) (he : 0 < e) : IsD (d * e) (n * e) l := fun x hx => by
  obtain ⟨z, h1, h2⟩ := h x hx
  refine ⟨z * (e : Int), ?_, ?_⟩
  · rw [Rat.natCast_mul, ← Rat.mul_assoc, h1, Rat.intCast_mul]; rfl
  · rw [Int.natAbs_mul, Int.natAbs_natCast]
    exact Nat.mul_lt_mul_of_pos_right h2 he
theorem IsD.append {d n : Nat} {l m : List Rat} (h : IsD d n l) (k : IsD d n m) : IsD d n (l ++ m) := fun x hx => (List.mem_append.1 hx).elim (h x) (k x)
theorem IsD.left {d n : Nat} {l m : List Rat} (h : IsD d n (l ++ m)) : IsD d n l := fun x hx => h x (List.mem_append_left _ hx)
theorem IsD.right {d n : Nat} {l m : List Rat} (h : IsD d n (l ++ m)) : IsD d n m := fun x hx => h x (List.mem_append_right _ hx)
theorem IsD.add {d n m : Nat} : ∀ {l l' : List Rat}, IsD d n l → IsD d m l' → IsD d (n + m) (List.zipWith (· + ·) l l')
  | [], _, _, _ => fun _ h => nomatch h
  | _ :: _, [], _, _ => fun _ h => nomatch h
  | a :: l, b :: l', h, k => fun x hx => by
    rcases List.mem_cons.1 hx with hx | hx
    · obtain ⟨z, h1, h2⟩ := h a (List.mem_cons_self ..)
      obtain ⟨w, k1, k2⟩ := k b (List.mem_cons_self ..)
      refine ⟨z + w, by rw [hx, Rat.add_mul, h1, k1, Rat.intCast_add], ?_⟩
      have := Int.natAbs_add_le z w
      omega
    · exact IsD.add (fun y hy => h y (List.mem_cons_of_mem _ hy)) (fun y hy => k y (List.mem_cons_of_mem _ hy)) x hx
theorem IsD.neg {d n : Nat} {l : List Rat} (h : IsD d n l) : IsD d n (l.map (- ·)) := fun x hx => by
  obtain ⟨y, hy, rfl⟩ := List.mem_map.1 hx
  obtain ⟨z, h1, h2⟩ := h y hy
  exact ⟨-z, by rw [Rat.neg_mul, h1, Rat.intCast_neg], by rw [Int.natAbs_neg]; exact h2⟩
theorem IsD.mul1 {d n e m : Nat} {x y : Rat} (h : IsD d n [x]) (k : IsD e m [y]) : IsD (d * e) (n * m) [x * y] := fun u hu => by
  obtain rfl := List.mem_singleton.1 hu
  obtain ⟨z, h1, h2⟩ := h x (List.mem_cons_self ..)
  obtain ⟨w, k1, k2⟩ := k y (List.mem_cons_self ..)
  refine ⟨z * w, ?_, ?_⟩
  · rw [Rat.natCast_mul, Rat.intCast_mul, ← h1, ← k1]
    grind
  · rw [Int.natAbs_mul]
    exact Nat.mul_lt_mul'' h2 k2

theorem mul_den (y : Rat) : y * (y.den : Rat) = (y.num : Rat) := by
  have hd : ((y.den : Nat) : Rat) ≠ 0 := by
    intro h
    have : ((y.den : Nat) : Rat).num = 0 := by rw [h]; rfl
    rw [Rat.num_natCast] at this
    have := y.den_nz
    omega
  have e : y = (y.num : Rat) / (y.den : Rat) := by
    conv => lhs; rw [← Rat.num_divInt_den y, Rat.divInt_eq_div]
    rfl
  conv => lhs; lhs; rw [e]
  exact Rat.div_mul_cancel hd
/-- a common denominator and numerators of p bits -/
def Sz (p : Nat) (l : List Rat) : Prop := ∃ d : Nat, 0 < d ∧ d < 2 ^ p ∧ IsD d (2 ^ p) l
theorem Sz.mono {p q : Nat} {l : List Rat} (h : Sz p l) (hp : p ≤ q) : Sz q l := by
  obtain ⟨d, h0, h1, h2⟩ := h
  have := Nat.pow_le_pow_right (n := 2) (by decide) hp
  exact ⟨d, h0, by omega, h2.mono this⟩
theorem Sz.sub {p : Nat} {l m : List Rat} (h : Sz p l) (hs : ∀ x ∈ m, x ∈ l) : Sz p m := by
  obtain ⟨d, h0, h1, h2⟩ := h
  exact ⟨d, h0, h1, fun x hx => h2 x (hs x hx)⟩
theorem Sz.qs {p : Nat} {l : List Rat} (h : Sz p l) {x : Rat} (hx : x ∈ l) : Qs p x := by
  obtain ⟨d, h0, h1, h2⟩ := h
  obtain ⟨z, h3, h4⟩ := h2 x hx
  have hd : ((d : Nat) : Rat) ≠ 0 := by
    intro h
    have : (d : Rat).num = 0 := by rw [h]; rfl
    rw [Rat.num_natCast] at this
    omega
  have e : x = Rat.divInt z (d : Int) := by
    rw [Rat.divInt_eq_div, ← h3]
    exact (Rat.mul_div_cancel hd).symm
  rw [e]
  exact Qs.divInt h4 (by unfold Zs; rw [Int.natAbs_natCast]; exact h1) (by omega)
theorem Sz.nil : Sz 1 [] := ⟨1, by decide, by decide, fun _ h => nomatch h⟩
theorem Qs.isD {p : Nat} {x : Rat} (h : Qs p x) : IsD x.den (2 ^ p) [x] := fun y hy => by
  obtain rfl := List.mem_singleton.1 hy
  exact ⟨y.num, mul_den y, h.n⟩
theorem Sz.one {p : Nat} {x : Rat} (h : Qs p x) : Sz p [x] := ⟨x.den, Nat.pos_of_ne_zero x.den_nz, by have := h.d; unfold Zs at this; rwa [Int.natAbs_natCast] at this, h.isD⟩
theorem Sz.append {p q : Nat} {l m : List Rat} (h : Sz p l) (k : Sz q m) : Sz (p + q) (l ++ m) := by
  obtain ⟨d, h0, h1, h2⟩ := h
  obtain ⟨e, k0, k1, k2⟩ := k
  have hp := Nat.two_pow_pos p
  have hq := Nat.two_pow_pos q
  refine ⟨d * e, Nat.mul_pos h0 k0, by rw [Nat.pow_add]; exact Nat.mul_lt_mul'' h1 k1, ?_⟩
  refine IsD.append ((h2.scale k0).mono ?_) ?_
  · rw [Nat.pow_add]; exact Nat.mul_le_mul_left _ (Nat.le_of_lt k1)
  · rw [Nat.mul_comm d e]
    refine (k2.scale h0).mono ?_
    rw [Nat.pow_add, Nat.mul_comm]
    exact Nat.mul_le_mul_right _ (Nat.le_of_lt h1)
theorem Sz.cons {p q : Nat} {x : Rat} {m : List Rat} (h : Qs p x) (k : Sz q m) : Sz (p + q) (x :: m) := (Sz.one h).append k
theorem Sz.all {p : Nat} : ∀ {l : List Rat}, (∀ x ∈ l, Qs p x) → Sz (p * l.length + 1) l
  | [], _ => Sz.nil.mono (by omega)
  | x :: l, h => (Sz.cons (h x (List.mem_cons_self ..)) (Sz.all fun y hy => h y (List.mem_cons_of_mem _ hy))).mono (by rw [List.length_cons, Nat.mul_succ]; omega)
theorem Sz.add {p q : Nat} {l m : List Rat} (h : Sz p l) (k : Sz q m) : Sz (p + q + 1) (List.zipWith (· + ·) l m) := by
  obtain ⟨d, h0, h1, h2⟩ := h
  obtain ⟨e, k0, k1, k2⟩ := k
  have e1 := Nat.mul_lt_mul'' h1 k1
  rw [← Nat.pow_add] at e1
  refine ⟨d * e, Nat.mul_pos h0 k0, by rw [Nat.pow_succ]; omega, ?_⟩
  have a1 : IsD (d * e) (2 ^ (p + q)) l := (h2.scale k0).mono (by rw [Nat.pow_add]; exact Nat.mul_le_mul_left _ (Nat.le_of_lt k1))
  have a2 : IsD (d * e) (2 ^ (p + q)) m := by
    rw [Nat.mul_comm d e]
    exact (k2.scale h0).mono (by rw [Nat.pow_add, Nat.mul_comm]; exact Nat.mul_le_mul_right _ (Nat.le_of_lt h1))
  exact (a1.add a2).mono (by rw [Nat.pow_succ]; omega)
theorem Sz.neg {p : Nat} {l : List Rat} (h : Sz p l) : Sz p (l.map (- ·)) := by
  obtain ⟨d, h0, h1, h2⟩ := h
  exact ⟨d, h0, h1, h2.neg⟩
theorem Sz.left {p : Nat} {l m : List Rat} (h : Sz p (l ++ m)) : Sz p l := h.sub fun _ => List.mem_append_left _
theorem Sz.right {p : Nat} {l m : List Rat} (h : Sz p (l ++ m)) : Sz p m := h.sub fun _ => List.mem_append_right _

/-! towers -/
/-- each radicand has size r -/
def TS (r : Nat) : (k : Nat) → Tw k → Prop
  | 0, _ => True
  | k + 1, t => TS r k t.1 ∧ Sz r (toL k t.2)
/-- what a product adds -/
def cB (r : Nat) : Nat → Nat
  | 0 => 0
  | k + 1 => 2 * cB r k + r + 1
theorem cB_le (r k : Nat) : cB r k ≤ cB r (k + 1) := by show _ ≤ 2 * cB r k + r + 1; omega
theorem mul_isD {r k : Nat} {t : Tw k} (ht : TS r k t) : ∃ E, 0 < E ∧ E ≤ 2 ^ cB r k ∧ ∀ a b d e n m, 0 < d → 0 < e → IsD d n (toL k a) → IsD e m (toL k b) → IsD (d * e * E) (n * m * 2 ^ cB r k) (toL k (mul k t a b)) := by
  induction k with
  | zero =>
    refine ⟨1, by decide, Nat.le_refl 1, fun a b d e n m _ _ h h' => ?_⟩
    rw [Nat.mul_one, show 2 ^ cB r 0 = 1 from rfl, Nat.mul_one]
    exact h.mul1 h'
  | succ k ih =>
    obtain ⟨E, h0, h1, h2⟩ := ih ht.1
    obtain ⟨g, g0, g1, g2⟩ := ht.2
    have hC := Nat.two_pow_pos (cB r k)
    have hR := Nat.two_pow_pos r
    refine ⟨E * (E * g), Nat.mul_pos h0 (Nat.mul_pos h0 g0), ?_, fun a b d e n m hd he h h' => ?_⟩
    · have e1 : E * (E * g) ≤ 2 ^ cB r k * (2 ^ cB r k * 2 ^ r) := Nat.mul_le_mul h1 (Nat.mul_le_mul h1 (Nat.le_of_lt g1))
      rw [← Nat.pow_add, ← Nat.pow_add] at e1
      exact Nat.le_trans e1 (Nat.pow_le_pow_right (by decide) (by show _ ≤ 2 * cB r k + r + 1; omega))
    · have hg : E * g ≤ 2 ^ cB r k * 2 ^ r := Nat.mul_le_mul h1 (Nat.le_of_lt g1)
      have hEg : 0 < E * g := Nat.mul_pos h0 g0
      have hc : n * m * 2 ^ cB r (k + 1) = n * m * 2 ^ cB r k * (2 ^ cB r k * 2 ^ r) + n * m * 2 ^ cB r k * (2 ^ cB r k * 2 ^ r) := by
        rw [show cB r (k + 1) = cB r k + (cB r k + r) + 1 from by show 2 * cB r k + r + 1 = _; omega, Nat.pow_succ, Nat.pow_add, Nat.pow_add]
        rw [← Nat.mul_two, Nat.mul_assoc (n * m), Nat.mul_assoc (n * m)]
      have scale : ∀ u v : El k, IsD d n (toL k u) → IsD e m (toL k v) → IsD (d * e * (E * (E * g))) (n * m * 2 ^ cB r k * (2 ^ cB r k * 2 ^ r)) (toL k (mul k t.1 u v)) := by
        intro u v hu hv
        have := (h2 u v d e n m hd he hu hv).scale hEg
        rw [Nat.mul_assoc (d * e)] at this
        exact this.mono (Nat.mul_le_mul_left _ hg)
      show IsD _ _ (toL k (add k _ _) ++ toL k (add k _ _))
      rw [toL_add, toL_add, hc]
      refine IsD.append (IsD.add (scale _ _ h.left h'.left) ?_) (IsD.add (scale _ _ h.left h'.right) (scale _ _ h.right h'.left))
      have := h2 _ _ (d * e * E) g _ _ (Nat.mul_pos (Nat.mul_pos hd he) h0) g0 (h2 _ _ d e n m hd he h.right h'.right) g2
      rw [show d * e * E * g * E = d * e * (E * (E * g)) from by rw [Nat.mul_assoc (d * e), Nat.mul_assoc (d * e), Nat.mul_assoc E g E, Nat.mul_comm g E]] at this
      rw [show n * m * 2 ^ cB r k * 2 ^ r * 2 ^ cB r k = n * m * 2 ^ cB r k * (2 ^ cB r k * 2 ^ r) from by rw [Nat.mul_assoc (n * m * 2 ^ cB r k), Nat.mul_comm (2 ^ r)]] at this
      exact this
theorem Sz.mul {r k p q : Nat} {t : Tw k} {a b : El k} (ht : TS r k t) (h : Sz p (toL k a)) (h' : Sz q (toL k b)) : Sz (p + q + cB r k) (toL k (mul k t a b)) := by
  obtain ⟨E, e0, e1, e2⟩ := mul_isD ht
  obtain ⟨d, h0, h1, h2⟩ := h
  obtain ⟨e, k0, k1, k2⟩ := h'
  have := e2 a b d e _ _ h0 k0 h2 k2
  rw [← Nat.pow_add, ← Nat.pow_add] at this
  refine ⟨_, Nat.mul_pos (Nat.mul_pos h0 k0) e0, ?_, this⟩
  rw [Nat.pow_add, Nat.pow_add]
  have h3 := Nat.mul_lt_mul'' h1 k1
  exact Nat.lt_of_lt_of_le (Nat.mul_lt_mul_of_pos_right h3 e0) (Nat.mul_le_mul_left _ e1)
def nB (r k p : Nat) : Nat := 4 * p + 3 * cB r k + r + 1
theorem Sz.norm {r k p : Nat} {t : Tw (k + 1)} {a : El (k + 1)} (ht : TS r (k + 1) t) (h : Sz p (toL (k + 1) a)) : Sz (nB r k p) (toL k (Tow.norm k t a)) := by
  have hx : Sz p (toL k a.1) := Sz.left h
  have hy : Sz p (toL k a.2) := Sz.right h
  have h1 := Sz.mul ht.1 hx hx
  have h2 := Sz.mul ht.1 (Sz.mul ht.1 hy hy) ht.2
  rw [Tow.norm, toL_add, toL_neg]
  exact (h1.add h2.neg).mono (by unfold nB; omega)
def iB (r : Nat) : Nat → Nat → Nat
  | 0, p => p + 1
  | k + 1, p => 2 * (p + iB r k (nB r k p) + cB r k)
theorem Qs.inv1 {p : Nat} {x : Rat} (h : Qs p x) : Qs (p + 1) (1 / x) := by
  by_cases h0 : x = 0
  · rw [h0, show (1 / 0 : Rat) = ((0 : Int) : Rat) from by rw [Rat.div_def, Rat.inv_zero, Rat.mul_zero]; rfl]
    exact Qs.int Zs.zero (by omega)
  · rw [div_divInt _ _ h0]
    refine Qs.divInt ?_ ?_ ?_
    · rw [show (1 : Rat).num = 1 from rfl, Int.one_mul]; exact h.d.mono (by omega)
    · rw [show ((1 : Rat).den : Int) = 1 from rfl, Int.one_mul]; exact h.n.mono (by omega)
    · rw [show ((1 : Rat).den : Int) = 1 from rfl, Int.one_mul]
      exact fun e => h0 (Rat.num_eq_zero.1 e)
theorem Sz.inv {r k p : Nat} {t : Tw k} {a b : El k} (ht : TS r k t) (h : Sz p (toL k a)) (hb : Tow.inv k t a = some b) : Sz (iB r k p) (toL k b) := by
  induction k generalizing p with
  | zero =>
    have h2 : ∀ x b : Rat, (if x = 0 then none else some (1 / x)) = some b → Qs p x → Sz (p + 1) [b] := by
      intro x b h hq
      split at h
      · cases h
      · injection h with h
        subst h
        exact Sz.one hq.inv1
    exact h2 a b hb (h.qs (List.mem_singleton.2 rfl))
  | succ k ih =>
    simp only [Tow.inv] at hb
    split at hb
    · cases hb
    · rename_i n hn
      injection hb with hb
      subst hb
      have h1 := ih ht.1 (h.norm ht) hn
      have h2 := Sz.mul ht.1 (Sz.left h : Sz p (toL k a.1)) h1
      have h3 := Sz.mul ht.1 (Sz.right h : Sz p (toL k a.2)) h1
      show Sz _ (toL k _ ++ toL k (Tow.neg k _))
      rw [toL_neg]
      exact (h2.append h3.neg).mono (by show _ ≤ 2 * (p + iB r k (nB r k p) + cB r k); omega)
theorem iB_ge (r k p : Nat) : p ≤ iB r k p := by
  cases k with
  | zero => show p ≤ p + 1; omega
  | succ k => show p ≤ 2 * _; omega
theorem nB_ge (r k p : Nat) : p ≤ nB r k p := by unfold nB; omega
theorem Sz.zero (k : Nat) : Sz 1 (toL k (Tow.zero k)) := by
  rw [toL_zero]
  refine ⟨1, by decide, by decide, fun x hx => ?_⟩
  rw [List.eq_of_mem_replicate hx]
  exact ⟨0, by rw [Rat.zero_mul]; rfl, by decide⟩
theorem Sz.rat {p : Nat} (k : Nat) {x : Rat} (h : Qs p x) : Sz (p + 1) (toL k (Tow.rat k x)) := by
  rw [toL_rat]
  refine Sz.cons h ?_
  refine ⟨1, by decide, by decide, fun x hx => ?_⟩
  rw [List.eq_of_mem_replicate hx]
  exact ⟨0, by rw [Rat.zero_mul]; rfl, by decide⟩
end Go.Proofs.YtcobdnnfmhfenaaGreat
