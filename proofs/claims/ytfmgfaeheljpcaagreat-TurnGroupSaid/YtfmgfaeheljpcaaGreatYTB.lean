/- Towers: sizes of the numbers. -/
import Derived.Test.YtfmgfaeheljpcaaGreatYUQ
import Derived.Test.YtfmgfaeheljpcaaGreatYTA
import Derived.Test.YtfmgfaeheljpcaaGreatYJG
set_option linter.unusedVariables false
set_option linter.unusedSimpArgs false
set_option maxRecDepth 10000
namespace Go.Proofs.YtfmgfaeheljpcaaGreat
open Go Go.Num Go.Tow Go.Vm
section
/-- all numbers have the denominator d, and numerators below n -/
def IsD (d n : Nat) (l : List Rat) : Prop := ∀ x ∈ l, ∃ z : Int, x * (d : Rat) = (z : Rat) ∧ z.natAbs < n
theorem IsD.mono {d n m : Nat} {l : List Rat} (h : IsD d n l) (hm : n ≤ m) : IsD d m l := fun x hx =>
  let ⟨z, h1, h2⟩ := h x hx; ⟨z, h1, Nat.lt_of_lt_of_le h2 hm⟩
theorem IsD.scale {d n e : Nat} {l : List Rat} (h : IsD d n l) (he : 0 < e) : IsD (d * e) (n * e) l := fun x hx => by
  obtain ⟨z, h1, h2⟩ := h x hx
  refine ⟨z * (e : Int), ?_, ?_⟩
  · rw [Rat.natCast_mul, ← Rat.mul_assoc, h1, Rat.intCast_mul]; rfl
  · rw [Int.natAbs_mul, Int.natAbs_natCast]
    exact Nat.mul_lt_mul_of_pos_right h2 he
theorem IsD.append {d n : Nat} {l m : List Rat} (h : IsD d n l) (k : IsD d n m) : IsD d n (l ++ m) := fun x hx => (List.mem_append.1 hx).elim (h x) (k x)
theorem IsD.left {d n : Nat} {l m : List Rat} (h : IsD d n (l ++ m)) : IsD d n l := fun x hx => h x (List.mem_append_left _ hx)
theorem IsD.right {d n : Nat} {l m : List Rat} (h : IsD d n (l ++ m)) : IsD d n m := fun x hx => h x (List.mem_append_right _ hx)
theorem IsD.add {d n m : Nat} : ∀ {l l' : List Rat}, IsD d n l → IsD d m l' → IsD d (n + m) (List.zipWith (· + ·) l l')
  | [], _, _, _ => fun _ h => nomatch h
  | _ :: _, [], _, _ => fun _ h => nomatch h
  | a :: l, b :: l', h, k => fun x hx => by
    rcases List.mem_cons.1 hx with hx | hx
    · obtain ⟨z, h1, h2⟩ := h a (List.mem_cons_self ..)
      obtain ⟨w, k1, k2⟩ := k b (List.mem_cons_self ..)
      refine ⟨z + w, by rw [hx, Rat.add_mul, h1, k1, Rat.intCast_add], ?_⟩
      have := Int.natAbs_add_le z w
      omega
    · exact IsD.add (fun y hy => h y (List.mem_cons_of_mem _ hy)) (fun y hy => k y (List.mem_cons_of_mem _ hy)) x hx
theorem IsD.neg {d n : Nat} {l : List Rat} (h : IsD d n l) : IsD d n (l.map (- ·)) := fun x hx => by
  obtain ⟨y, hy, rfl⟩ := List.mem_map.1 hx
  obtain ⟨z, h1, h2⟩ := h y hy
  exact ⟨-z, by rw [Rat.neg_mul, h1, Rat.intCast_neg], by rw [Int.natAbs_neg]; exact h2⟩
theorem IsD.mul1 {d n e m : Nat} {x y : Rat} (h : IsD d n [x]) (k : IsD e m [y]) : IsD (d * e) (n * m) [x * y] := fun u hu => by
  obtain rfl := List.mem_singleton.1 hu
  obtain ⟨z, h1, h2⟩ := h x (List.mem_cons_self ..)
  obtain ⟨w, k1, k2⟩ := k y (List.mem_cons_self ..)
  refine ⟨z * w, ?_, ?_⟩
  · rw [Rat.natCast_mul, Rat.intCast_mul, ← h1, ← k1]
    grind
  · rw [Int.natAbs_mul]
    exact Nat.mul_lt_mul'' h2 k2
theorem mul_den (y : Rat) : y * (y.den : Rat) = (y.num : Rat) := by
  have hd : ((y.den : Nat) : Rat) ≠ 0 := by
    intro h
    have : ((y.den : Nat) : Rat).num = 0 := by rw [h]; rfl
    rw [Rat.num_natCast] at this
    have := y.den_nz
    omega
  have e : y = (y.num : Rat) / (y.den : Rat) := by
    conv => lhs; rw [← Rat.num_divInt_den y, Rat.divInt_eq_div]
    rfl
  conv => lhs; lhs; rw [e]
  exact Rat.div_mul_cancel hd
/-- a common denominator and numerators of p bits -/
def Sz (p : Nat) (l : List Rat) : Prop := ∃ d : Nat, 0 < d ∧ d < 2 ^ p ∧ IsD d (2 ^ p) l
theorem Sz.mono {p q : Nat} {l : List Rat} (h : Sz p l) (hp : p ≤ q) : Sz q l := by
  obtain ⟨d, h0, h1, h2⟩ := h
  have := Nat.pow_le_pow_right (n := 2) (by decide) hp
  exact ⟨d, h0, by omega, h2.mono this⟩
theorem Sz.sub {p : Nat} {l m : List Rat} (h : Sz p l) (hs : ∀ x ∈ m, x ∈ l) : Sz p m := by
  obtain ⟨d, h0, h1, h2⟩ := h
  exact ⟨d, h0, h1, fun x hx => h2 x (hs x hx)⟩
theorem Sz.qs {p : Nat} {l : List Rat} (h : Sz p l) {x : Rat} (hx : x ∈ l) : Qs p x := by
  obtain ⟨d, h0, h1, h2⟩ := h
  obtain ⟨z, h3, h4⟩ := h2 x hx
  have hd : ((d : Nat) : Rat) ≠ 0 := by
    intro h
    have : (d : Rat).num = 0 := by rw [h]; rfl
    rw [Rat.num_natCast] at this
    omega
  have e : x = Rat.divInt z (d : Int) := by
    rw [Rat.divInt_eq_div, ← h3]
    exact (Rat.mul_div_cancel hd).symm
  rw [e]
  exact Qs.divInt h4 (by unfold Zs; rw [Int.natAbs_natCast]; exact h1) (by omega)
theorem Sz.nil : Sz 1 [] := ⟨1, by decide, by decide, fun _ h => nomatch h⟩
theorem _root_.Go.Num.Qs.isD {p : Nat} {x : Rat} (h : Qs p x) : IsD x.den (2 ^ p) [x] := fun y hy => by
  obtain rfl := List.mem_singleton.1 hy
  exact ⟨y.num, mul_den y, h.n⟩
theorem Sz.one {p : Nat} {x : Rat} (h : Qs p x) : Sz p [x] := ⟨x.den, Nat.pos_of_ne_zero x.den_nz, by have := h.d; unfold Zs at this; rwa [Int.natAbs_natCast] at this, h.isD⟩
theorem Sz.append {p q : Nat} {l m : List Rat} (h : Sz p l) (k : Sz q m) : Sz (p + q) (l ++ m) := by
  obtain ⟨d, h0, h1, h2⟩ := h
  obtain ⟨e, k0, k1, k2⟩ := k
  have hp := Nat.two_pow_pos p
  have hq := Nat.two_pow_pos q
  refine ⟨d * e, Nat.mul_pos h0 k0, by rw [Nat.pow_add]; exact Nat.mul_lt_mul'' h1 k1, ?_⟩
  refine IsD.append ((h2.scale k0).mono ?_) ?_
  · rw [Nat.pow_add]; exact Nat.mul_le_mul_left _ (Nat.le_of_lt k1)
  · rw [Nat.mul_comm d e]
    refine (k2.scale h0).mono ?_
    rw [Nat.pow_add, Nat.mul_comm]
    exact Nat.mul_le_mul_right _ (Nat.le_of_lt h1)
theorem Sz.cons {p q : Nat} {x : Rat} {m : List Rat} (h : Qs p x) (k : Sz q m) : Sz (p + q) (x :: m) := (Sz.one h).append k
theorem Sz.all {p : Nat} : ∀ {l : List Rat}, (∀ x ∈ l, Qs p x) → Sz (p * l.length + 1) l
  | [], _ => Sz.nil.mono (by omega)
  | x :: l, h => (Sz.cons (h x (List.mem_cons_self ..)) (Sz.all fun y hy => h y (List.mem_cons_of_mem _ hy))).mono (by rw [List.length_cons, Nat.mul_succ]; omega)
theorem Sz.add {p q : Nat} {l m : List Rat} (h : Sz p l) (k : Sz q m) : Sz (p + q + 1) (List.zipWith (· + ·) l m) := by
  obtain ⟨d, h0, h1, h2⟩ := h
  obtain ⟨e, k0, k1, k2⟩ := k
  have e1 := Nat.mul_lt_mul'' h1 k1
  rw [← Nat.pow_add] at e1
  refine ⟨d * e, Nat.mul_pos h0 k0, by rw [Nat.pow_succ]; omega, ?_⟩
  have a1 : IsD (d * e) (2 ^ (p + q)) l := (h2.scale k0).mono (by rw [Nat.pow_add]; exact Nat.mul_le_mul_left _ (Nat.le_of_lt k1))
  have a2 : IsD (d * e) (2 ^ (p + q)) m := by
    rw [Nat.mul_comm d e]
    exact (k2.scale h0).mono (by rw [Nat.pow_add, Nat.mul_comm]; exact Nat.mul_le_mul_right _ (Nat.le_of_lt h1))
  exact (a1.add a2).mono (by rw [Nat.pow_succ]; omega)
theorem Sz.neg {p : Nat} {l : List Rat} (h : Sz p l) : Sz p (l.map (- ·)) := by
  obtain ⟨d, h0, h1, h2⟩ := h
  exact ⟨d, h0, h1, h2.neg⟩
theorem Sz.left {p : Nat} {l m : List Rat} (h : Sz p (l ++ m)) : Sz p l := h.sub fun _ => List.mem_append_left _
theorem Sz.right {p : Nat} {l m : List Rat} (h : Sz p (l ++ m)) : Sz p m := h.sub fun _ => List.mem_append_right _
/-! towers -/
/-- each radicand has size r -/
def TS (r : Nat) : (k : Nat) → Tw k → Prop
  | 0, _ => True
  | k + 1, t => TS r k t.1 ∧ Sz r (toL k t.2)
/-- what a product adds -/
def cB (r : Nat) : Nat → Nat
  | 0 => 0
  | k + 1 => 2 * cB r k + r + 1
theorem cB_le (r k : Nat) : cB r k ≤ cB r (k + 1) := by show _ ≤ 2 * cB r k + r + 1; omega
theorem mul_isD {r k : Nat} {t : Tw k} (ht : TS r k t) : ∃ E, 0 < E ∧ E ≤ 2 ^ cB r k ∧ ∀ a b d e n m, 0 < d → 0 < e → IsD d n (toL k a) → IsD e m (toL k b) → IsD (d * e * E) (n * m * 2 ^ cB r k) (toL k (mul k t a b)) := by
  induction k with
  | zero =>
    refine ⟨1, by decide, Nat.le_refl 1, fun a b d e n m _ _ h h' => ?_⟩
    rw [Nat.mul_one, show 2 ^ cB r 0 = 1 from rfl, Nat.mul_one]
    exact h.mul1 h'
  | succ k ih =>
    obtain ⟨E, h0, h1, h2⟩ := ih ht.1
    obtain ⟨g, g0, g1, g2⟩ := ht.2
    have hC := Nat.two_pow_pos (cB r k)
    have hR := Nat.two_pow_pos r
    refine ⟨E * (E * g), Nat.mul_pos h0 (Nat.mul_pos h0 g0), ?_, fun a b d e n m hd he h h' => ?_⟩
    · have e1 : E * (E * g) ≤ 2 ^ cB r k * (2 ^ cB r k * 2 ^ r) := Nat.mul_le_mul h1 (Nat.mul_le_mul h1 (Nat.le_of_lt g1))
      rw [← Nat.pow_add, ← Nat.pow_add] at e1
      exact Nat.le_trans e1 (Nat.pow_le_pow_right (by decide) (by show _ ≤ 2 * cB r k + r + 1; omega))
    · have hg : E * g ≤ 2 ^ cB r k * 2 ^ r := Nat.mul_le_mul h1 (Nat.le_of_lt g1)
      have hEg : 0 < E * g := Nat.mul_pos h0 g0
      have hc : n * m * 2 ^ cB r (k + 1) = n * m * 2 ^ cB r k * (2 ^ cB r k * 2 ^ r) + n * m * 2 ^ cB r k * (2 ^ cB r k * 2 ^ r) := by
        rw [show cB r (k + 1) = cB r k + (cB r k + r) + 1 from by show 2 * cB r k + r + 1 = _; omega, Nat.pow_succ, Nat.pow_add, Nat.pow_add]
        rw [← Nat.mul_two, Nat.mul_assoc (n * m), Nat.mul_assoc (n * m)]
      have scale : ∀ u v : El k, IsD d n (toL k u) → IsD e m (toL k v) → IsD (d * e * (E * (E * g))) (n * m * 2 ^ cB r k * (2 ^ cB r k * 2 ^ r)) (toL k (mul k t.1 u v)) := by
        intro u v hu hv
        have := (h2 u v d e n m hd he hu hv).scale hEg
        rw [Nat.mul_assoc (d * e)] at this
        exact this.mono (Nat.mul_le_mul_left _ hg)
      show IsD _ _ (toL k (add k _ _) ++ toL k (add k _ _))
      rw [toL_add, toL_add, hc]
      refine IsD.append (IsD.add (scale _ _ h.left h'.left) ?_) (IsD.add (scale _ _ h.left h'.right) (scale _ _ h.right h'.left))
      have := h2 _ _ (d * e * E) g _ _ (Nat.mul_pos (Nat.mul_pos hd he) h0) g0 (h2 _ _ d e n m hd he h.right h'.right) g2
      rw [show d * e * E * g * E = d * e * (E * (E * g)) from by rw [Nat.mul_assoc (d * e), Nat.mul_assoc (d * e), Nat.mul_assoc E g E, Nat.mul_comm g E]] at this
      rw [show n * m * 2 ^ cB r k * 2 ^ r * 2 ^ cB r k = n * m * 2 ^ cB r k * (2 ^ cB r k * 2 ^ r) from by rw [Nat.mul_assoc (n * m * 2 ^ cB r k), Nat.mul_comm (2 ^ r)]] at this
      exact this
theorem Sz.mul {r k p q : Nat} {t : Tw k} {a b : El k} (ht : TS r k t) (h : Sz p (toL k a)) (h' : Sz q (toL k b)) : Sz (p + q + cB r k) (toL k (mul k t a b)) := by
  obtain ⟨E, e0, e1, e2⟩ := mul_isD ht
  obtain ⟨d, h0, h1, h2⟩ := h
  obtain ⟨e, k0, k1, k2⟩ := h'
  have := e2 a b d e _ _ h0 k0 h2 k2
  rw [← Nat.pow_add, ← Nat.pow_add] at this
  refine ⟨_, Nat.mul_pos (Nat.mul_pos h0 k0) e0, ?_, this⟩
  rw [Nat.pow_add, Nat.pow_add]
  have h3 := Nat.mul_lt_mul'' h1 k1
  exact Nat.lt_of_lt_of_le (Nat.mul_lt_mul_of_pos_right h3 e0) (Nat.mul_le_mul_left _ e1)
def nB (r k p : Nat) : Nat := 4 * p + 3 * cB r k + r + 1
theorem Sz.norm {r k p : Nat} {t : Tw (k + 1)} {a : El (k + 1)} (ht : TS r (k + 1) t) (h : Sz p (toL (k + 1) a)) : Sz (nB r k p) (toL k (Tow.norm k t a)) := by
  have hx : Sz p (toL k a.1) := Sz.left h
  have hy : Sz p (toL k a.2) := Sz.right h
  have h1 := Sz.mul ht.1 hx hx
  have h2 := Sz.mul ht.1 (Sz.mul ht.1 hy hy) ht.2
  rw [Tow.norm, toL_add, toL_neg]
  exact (h1.add h2.neg).mono (by unfold nB; omega)
def iB (r : Nat) : Nat → Nat → Nat
  | 0, p => p + 1
  | k + 1, p => 2 * (p + iB r k (nB r k p) + cB r k)
theorem _root_.Go.Num.Qs.inv1 {p : Nat} {x : Rat} (h : Qs p x) : Qs (p + 1) (1 / x) := by
  by_cases h0 : x = 0
  · rw [h0, show (1 / 0 : Rat) = ((0 : Int) : Rat) from by rw [Rat.div_def, Rat.inv_zero, Rat.mul_zero]; rfl]
    exact Qs.int Zs.zero (by omega)
  · rw [div_divInt _ _ h0]
    refine Qs.divInt ?_ ?_ ?_
    · rw [show (1 : Rat).num = 1 from rfl, Int.one_mul]; exact h.d.mono (by omega)
    · rw [show ((1 : Rat).den : Int) = 1 from rfl, Int.one_mul]; exact h.n.mono (by omega)
    · rw [show ((1 : Rat).den : Int) = 1 from rfl, Int.one_mul]
      exact fun e => h0 (Rat.num_eq_zero.1 e)
theorem Sz.inv {r k p : Nat} {t : Tw k} {a b : El k} (ht : TS r k t) (h : Sz p (toL k a)) (hb : Tow.inv k t a = some b) : Sz (iB r k p) (toL k b) := by
  induction k generalizing p with
  | zero =>
    have h2 : ∀ x b : Rat, (if x = 0 then none else some (1 / x)) = some b → Qs p x → Sz (p + 1) [b] := by
      intro x b h hq
      split at h
      · cases h
      · injection h with h
        subst h
        exact Sz.one hq.inv1
    exact h2 a b hb (h.qs (List.mem_singleton.2 rfl))
  | succ k ih =>
    simp only [Tow.inv] at hb
    split at hb
    · cases hb
    · rename_i n hn
      injection hb with hb
      subst hb
      have h1 := ih ht.1 (h.norm ht) hn
      have h2 := Sz.mul ht.1 (Sz.left h : Sz p (toL k a.1)) h1
      have h3 := Sz.mul ht.1 (Sz.right h : Sz p (toL k a.2)) h1
      show Sz _ (toL k _ ++ toL k (Tow.neg k _))
      rw [toL_neg]
      exact (h2.append h3.neg).mono (by show _ ≤ 2 * (p + iB r k (nB r k p) + cB r k); omega)
theorem iB_ge (r k p : Nat) : p ≤ iB r k p := by
  cases k with
  | zero => show p ≤ p + 1; omega
  | succ k => show p ≤ 2 * _; omega
theorem nB_ge (r k p : Nat) : p ≤ nB r k p := by unfold nB; omega
theorem Sz.zero (k : Nat) : Sz 1 (toL k (Tow.zero k)) := by
  rw [toL_zero]
  refine ⟨1, by decide, by decide, fun x hx => ?_⟩
  rw [List.eq_of_mem_replicate hx]
  exact ⟨0, by rw [Rat.zero_mul]; rfl, by decide⟩
theorem Sz.rat {p : Nat} (k : Nat) {x : Rat} (h : Qs p x) : Sz (p + 1) (toL k (Tow.rat k x)) := by
  rw [toL_rat]
  refine Sz.cons h ?_
  refine ⟨1, by decide, by decide, fun x hx => ?_⟩
  rw [List.eq_of_mem_replicate hx]
  exact ⟨0, by rw [Rat.zero_mul]; rfl, by decide⟩
end
section
def dqs (l : List Rat) : D := .sl 4 (l.map dq)
def dts (t : List (List Rat)) : D := .sl 1 (t.map dqs)
/-- the first k are set -/
def fl (xs : List D) (z : D) (k : Nat) : List D := xs.take k ++ List.replicate (xs.length - k) z
theorem fl_zero {xs : List D} {z : D} {n : Nat} (h : xs.length = n) : List.replicate n z = fl xs z 0 := by simp [fl, h]
theorem fl_end {xs : List D} {z : D} {k : Nat} (h : xs.length ≤ k) : fl xs z k = xs := by rw [fl, List.take_of_length_le h, show xs.length - k = 0 by omega]; simp
theorem fl_len {xs : List D} {z : D} {k : Nat} (h : k ≤ xs.length) : (fl xs z k).length = xs.length := by simp [fl]; omega
theorem fl_set {xs : List D} {z u : D} {k : Nat} (h : xs[k]? = some u) : (fl xs z k).set k u = fl xs z (k + 1) := by
  have hk := (List.getElem?_eq_some_iff.1 h).1
  rw [fl, fl, List.set_append_right _ _ (by simp; omega), show k - (xs.take k).length = 0 by simp; omega, show xs.length - k = (xs.length - (k + 1)) + 1 by omega, List.replicate_succ, List.set_cons_zero, List.take_add_one, h]
  simp
theorem lq (l : List Rat) : (l.map dq).length = l.length := List.length_map ..
theorem lt' (l : List (List Rat)) : (l.map dqs).length = l.length := List.length_map ..
theorem qat {l : List Rat} {k : Nat} (h : k < l.length) : ∃ x, l[k]? = some x := ⟨_, List.getElem?_eq_getElem h⟩
/-- a function on numbers that says b -/
def PredOk (f : FuncId) (l : List Rat) (φ : Rat → Prop) : Prop := ∀ x ∈ l, C0 f [.d (dq x)] (· = .b (dc (φ x)))
abbrev fnD (f : FuncId) : D := .raw (.func (.func f) #[] #[])
theorem IndexFunc_ok {f : FuncId} {l : List Rat} {φ : Rat → Prop} (hf : PredOk f l φ) (hl : l.length ≤ 1099511627776) : C0 306 [.d (dqs l), .d (fnD f)] fun v => ∃ i : Int, v = .d (.int .i64 i) ∧ (i ≥ 0 ↔ ∃ x ∈ l, φ x) := by
  refine En Tryz.func306 fun _ _ => ?_
  refine Lo (fun k : Nat => [(0, .d (dqs l)), (1, .d (fnD f)), (7, .d (.int .i64 l.length)), (8, .d (.int .i64 k))]) (fun _ => []) (fun k => k ≤ l.length ∧ ∀ x ∈ l.take k, ¬ φ x) (fun k => l.length - k) 0 [] rfl ⟨by omega, by simp⟩ (fun k ⟨hk, hn⟩ => ?_) (by exact ⟨by simp only [lq]; rfl, rfl, rfl, rfl, rfl⟩)
  refine By rfl (fun h => ?_) fun h => ?_
  · obtain ⟨x, hx⟩ := qat (l := l) (k := k) (by omega)
    have hm := List.mem_of_getElem? hx
    refine Ix k rfl (mp hx) ?_
    refine Ce rfl (hf x hm) ?_
    refine By rfl (fun h1 => ?_) fun h1 => ?_
    · exact Rt rfl (.one (.rf rfl) rfl rfl) ⟨k, rfl, ⟨fun _ => ⟨x, hm, h1⟩, fun _ => by omega⟩⟩
    · refine Ar (k + 1 : Nat) rfl ?_
      refine Bk (k + 1) [] rfl ⟨by omega, fun y hy => ?_⟩ (by show l.length - (k + 1) < l.length - k; omega)
      rw [List.take_add_one, hx] at hy
      rcases List.mem_append.1 hy with hy | hy
      · exact hn y hy
      · simp at hy; rw [hy]; exact h1
  · refine Rt rfl (.one (.rf rfl) rfl rfl) ⟨-1, rfl, ⟨fun h => absurd h (by decide), fun ⟨x, hx, h1⟩ => ?_⟩⟩
    rw [List.take_of_length_le (by omega)] at hn
    exact absurd h1 (hn x hx)
theorem ContainsFunc_ok {f : FuncId} {l : List Rat} {φ : Rat → Prop} (hf : PredOk f l φ) (hl : l.length ≤ 1099511627776) : C0 279 [.d (dqs l), .d (fnD f)] (· = .b (dc (∃ x ∈ l, φ x))) := by
  refine En Tryz.func279 fun _ _ => ?_
  refine Ca rfl (IndexFunc_ok hf hl) fun v hv => ?_
  obtain ⟨i, rfl, hi⟩ := hv
  exact R1 rfl (.bp (dc_iff.trans hi))
theorem tZero1_ok {x : Rat} {p : Nat} (hx : Qs p x) (hp : p ≤ 8796093022208) : C0 296 [.d (dq x)] (· = .b (dc (x ≠ 0))) := by
  refine En Tryz.func296 fun _ _ => ?_
  refine Ce rfl (qSign_ok hx hp) ?_
  refine R1 rfl (.bp ?_)
  have h0 := @Rat.num_eq_zero x
  rw [dc_iff]
  rcases cmpI_tri x.num 0 with ⟨g1, g2⟩ | ⟨g1, g2⟩ | ⟨g1, g2⟩ <;> rw [g2, ne_eq, ne_eq, ← h0] <;> omega
/-- all numbers have at most p bits -/
def Ps (p : Nat) (l : List Rat) : Prop := ∀ x ∈ l, Qs p x
theorem dc_not {p : Prop} : (!dc p) = dc (¬ p) := by rw [Bool.eq_iff_iff, Bool.not_eq_true', Bool.eq_false_iff, ne_eq, dc_iff, dc_iff]
theorem tZero_ok {l : List Rat} {p : Nat} (hx : Ps p l) (hp : p ≤ 8796093022208) (hl : l.length ≤ 1099511627776) : C0 249 [.d (dqs l)] (· = .b (dc (∀ x ∈ l, x = 0))) := by
  refine En Tryz.func249 fun _ _ => ?_
  refine Ce rfl (ContainsFunc_ok (φ := (· ≠ 0)) (fun x hx' => tZero1_ok (hx x hx') hp) hl) ?_
  exact R1 rfl (.bp (by rw [dc_not, dc_iff]; simp))
theorem numbers1_ok {x : Rat} {p : Nat} (hx : Qs p x) (hp : p ≤ 8796093022208) : C0 280 [.d (dq x)] (· = .b (dc False)) := by
  refine En Tryz.func280 fun _ _ => ?_
  refine Ce rfl (qValid_ok hx hp) ?_
  exact R1 rfl (.bp (by simp [dc_iff]))
theorem numbers_ok {l : List Rat} {p n : Nat} (hx : Ps p l) (hp : p ≤ 8796093022208) (hl : l.length ≤ 1099511627776) (hn : l.length = n) : C0 229 [.d (dqs l), .d (.int .i64 n)] (· = .b true) := by
  refine En Tryz.func229 fun _ _ => ?_
  refine Yes rfl (by simp only [lq, hn]) ?_
  refine Ce rfl (ContainsFunc_ok (φ := fun _ => False) (fun x hx' => numbers1_ok (hx x hx') hp) hl) ?_
  exact R1 rfl (by exact (show (!dc (∃ x ∈ l, False)) = true by rw [dc_not, dc_iff]; simp) ▸ .rf rfl)
theorem shl_one {k : Nat} (hk : k ≤ 40) : arB .shl .i64 1 k (2 ^ k : Nat) := by
  have h1 : 2 ^ k ≤ 2 ^ 40 := Nat.pow_le_pow_right (by decide) hk
  obtain ⟨m, hm⟩ : ∃ m, m = 2 ^ k := ⟨_, rfl⟩
  rw [← hm] at h1 ⊢
  refine ⟨by omega, ?_⟩
  rw [Int.toNat_natCast, Nat.min_eq_left (by show k ≤ 64; omega), show (1 : Int) * 2 ^ k = (m : Int) by rw [hm, Int.natCast_pow]; simp]
  exact wI (by omega)
/-- radicands of p bits, of the lengths of a tower -/
def Pt (p : Nat) (t : List (List Rat)) : Prop := ∀ i r, t[i]? = some r → r.length = 2 ^ i ∧ Ps p r
theorem p2le {k m : Nat} (h : k ≤ m) : 2 ^ k ≤ 2 ^ m := Nat.pow_le_pow_right (by decide) h
theorem radicands_ok {t : List (List Rat)} {p : Nat} (ht : Pt p t) (hp : p ≤ 8796093022208) (hl : t.length ≤ 40) : C0 228 [.d (dts t)] (· = .b true) := by
  refine En Tryz.func228 fun _ _ => ?_
  refine Lo (fun k : Nat => [(0, .d (dts t)), (5, .d (dts t)), (6, .d (.int .i64 t.length)), (7, .d (.int .i64 k))]) (fun _ => []) (fun k => k ≤ t.length) (fun k => t.length - k) 0 [] rfl (by omega) (fun k hk => ?_) (by exact ⟨by simp only [lt']; rfl, rfl, rfl, rfl, rfl⟩)
  refine By rfl (fun h => ?_) fun h => ?_
  · obtain ⟨r, hr⟩ : ∃ r, t[k]? = some r := ⟨_, List.getElem?_eq_getElem (by omega)⟩
    obtain ⟨h1, h2⟩ := ht k r hr
    have := p2le (show k ≤ 40 by omega)
    refine Ix k rfl (mp hr) ?_
    refine Ar (2 ^ k : Nat) rfl ?_ (shl_one (by omega))
    refine Ce rfl (numbers_ok h2 hp (by omega) h1) ?_
    refine No rfl (by simp) ?_
    refine Ar (k + 1 : Nat) rfl ?_
    exact Bk (k + 1) [] rfl (show k + 1 ≤ t.length by omega) (by show t.length - (k + 1) < t.length - k; omega)
  · exact R0
theorem tFormed_ok {t : List (List Rat)} {l : List Rat} {p q : Nat} (ht : Pt p t) (hp : p ≤ 8796093022208) (hx : Ps q l) (hq : q ≤ 8796093022208) (hl : t.length ≤ 39) (hn : l.length = 2 ^ t.length) : C0 169 [.d (dts t), .d (dqs l)] (· = .b true) := by
  have := p2le (show t.length ≤ 39 by omega)
  refine En Tryz.func169 fun _ _ => ?_
  refine Ce rfl (radicands_ok ht hp (by omega)) ?_
  refine Yes rfl rfl ?_
  refine Ar (2 ^ t.length : Nat) rfl ?_ (by simp only [lt']; exact shl_one (by omega))
  refine Ce rfl (numbers_ok hx hq (by omega) hn) ?_
  exact R0
theorem tformed_ok {t : List (List Rat)} {l m : List Rat} {p q r : Nat} (ht : Pt p t) (hp : p ≤ 8796093022208) (hx : Ps q l) (hq : q ≤ 8796093022208) (hy : Ps r m) (hr : r ≤ 8796093022208) (hl : t.length ≤ 39) (hn : l.length = 2 ^ t.length) (hm : m.length = 2 ^ t.length) : C0 236 [.d (dts t), .d (dqs l), .d (dqs m)] (· = .b true) := by
  have := p2le (show t.length ≤ 39 by omega)
  refine En Tryz.func236 fun _ _ => ?_
  refine Ce rfl (tFormed_ok ht hp hx hq hl hn) ?_
  refine Yes rfl rfl ?_
  refine Ar (2 ^ t.length : Nat) rfl ?_ (by simp only [lt']; exact shl_one (by omega))
  refine Ce rfl (numbers_ok hy hr (by omega) hm) ?_
  exact R0
theorem zeros_ok {n : Nat} (hn : n ≤ 1073741824) : CA0 282 [.d (.int .i64 n)] 4 ((List.replicate n (0 : Rat)).map dq) := by
  obtain ⟨xs, hxs⟩ : ∃ xs, xs = (List.replicate n (0 : Rat)).map dq := ⟨_, rfl⟩
  have hlen : xs.length = n := by rw [hxs]; simp
  rw [← hxs]
  refine EnW Tryz.func282 fun _ _ _ => ?_
  refine Mk n rfl (by omega) ?_
  refine Lo (fun k : Nat => [(3, .own 6 4 0 n), (8, .d (.int .i64 n)), (9, .d (.int .i64 k))]) (fun k => [(6, .arr 4 (fl xs rz k))]) (fun k => k ≤ n) (fun k => n - k) 0 [] rfl (by omega) (fun k hk => ?_) (by exact ⟨rfl, by rw [← fl_zero hlen]; rfl, rfl, rfl, rfl⟩)
  refine By rfl (fun h => ?_) fun h => ?_
  · refine Ce rfl (qFromInt_ok (z := 0) (by decide)) ?_
    refine Eo k rfl (by omega) ?_
    refine Sto rfl (by rw [fl_len (by omega)]; omega) (fl_set (u := dq 0) (by rw [hxs, List.getElem?_map, List.getElem?_replicate, if_pos (by omega)]; rfl)) ?_
    refine Ar (k + 1 : Nat) rfl ?_
    exact Bk (k + 1) [] rfl (show k + 1 ≤ n by omega) (by show n - (k + 1) < n - k; omega)
  · exact Rw [(6, 1000000)] [(1000000, .arr 4 xs)] rfl (.one (.rf rfl) rfl rfl) ⟨_, rfl, by rw [hlen]; rfl, rfl⟩ (by rw [fl_end (by omega)]; rfl)
end
section
theorem tadd_ok {xs ys : List Rat} {p q : Nat} (hl : xs.length = ys.length) (hn : xs.length ≤ 1073741824) (hx : Ps p xs) (hy : Ps q ys) (hp : p + q + 1 ≤ 8796093022208) : CA0 278 [.d (dqs xs), .d (dqs ys)] 4 ((List.zipWith (· + ·) xs ys).map dq) := by
  obtain ⟨zs, hzs⟩ : ∃ zs, zs = (List.zipWith (· + ·) xs ys).map dq := ⟨_, rfl⟩
  have hlen : zs.length = xs.length := by rw [hzs]; simp; omega
  rw [← hzs]
  refine EnW Tryz.func278 fun _ _ _ => ?_
  refine Mk xs.length rfl (by simp only [lq]; omega) ?_ (by simp only [lq])
  refine Lo (fun k : Nat => [(0, .d (dqs xs)), (1, .d (dqs ys)), (5, .own 9 4 0 xs.length), (11, .d (.int .i64 xs.length)), (12, .d (.int .i64 k))]) (fun k => [(9, .arr 4 (fl zs rz k))]) (fun k => k ≤ xs.length) (fun k => xs.length - k) 0 [] rfl (by omega) (fun k hk => ?_) (by exact ⟨rfl, by rw [← fl_zero hlen]; rfl, rfl, rfl, rfl⟩)
  refine By rfl (fun h => ?_) fun h => ?_
  · obtain ⟨x, hx'⟩ := qat (l := xs) (k := k) (by omega)
    obtain ⟨y, hy'⟩ := qat (l := ys) (k := k) (by omega)
    refine Dw rfl ?_
    refine Ix k rfl (mp hx') ?_
    refine Ix k rfl (mp hy') ?_
    refine Ce rfl (qAdd_ok (hx x (List.mem_of_getElem? hx')) (hy y (List.mem_of_getElem? hy')) hp) ?_
    refine Eo k rfl (by omega) ?_
    refine Sto rfl (by rw [fl_len (by omega)]; omega) (fl_set (u := dq (x + y)) (by rw [hzs, List.getElem?_map, List.getElem?_zipWith, hx', hy']; rfl)) ?_
    refine Ar (k + 1 : Nat) rfl ?_
    exact Bk (k + 1) [] rfl (show k + 1 ≤ xs.length by omega) (by show xs.length - (k + 1) < xs.length - k; omega)
  · exact Rw [(9, 1000000)] [(1000000, .arr 4 zs)] rfl (.one (.rf rfl) rfl rfl) ⟨_, rfl, by rw [hlen]; rfl, rfl⟩ (by rw [fl_end (by omega)]; rfl)
theorem tneg_ok {xs : List Rat} {p : Nat} (hn : xs.length ≤ 1073741824) (hx : Ps p xs) (hp : p ≤ 8796093022208) : CA0 234 [.d (dqs xs)] 4 ((xs.map (- ·)).map dq) := by
  obtain ⟨zs, hzs⟩ : ∃ zs, zs = (xs.map (- ·)).map dq := ⟨_, rfl⟩
  have hlen : zs.length = xs.length := by rw [hzs]; simp
  rw [← hzs]
  refine EnW Tryz.func234 fun _ _ _ => ?_
  refine Mk xs.length rfl (by simp only [lq]; omega) ?_ (by simp only [lq])
  refine Lo (fun k : Nat => [(3, .own 8 4 0 xs.length), (9, .d (dqs xs)), (10, .d (.int .i64 xs.length)), (11, .d (.int .i64 k))]) (fun k => [(8, .arr 4 (fl zs rz k))]) (fun k => k ≤ xs.length) (fun k => xs.length - k) 0 [] rfl (by omega) (fun k hk => ?_) (by exact ⟨by simp only [lq]; rfl, by rw [← fl_zero hlen]; rfl, rfl, rfl, rfl⟩)
  refine By rfl (fun h => ?_) fun h => ?_
  · obtain ⟨x, hx'⟩ := qat (l := xs) (k := k) (by omega)
    refine Ix k rfl (mp hx') ?_
    refine Ce rfl (qNeg_ok (hx x (List.mem_of_getElem? hx')) hp) ?_
    refine Eo k rfl (by omega) ?_
    refine Sto rfl (by rw [fl_len (by omega)]; omega) (fl_set (u := dq (-x)) (by rw [hzs, List.getElem?_map, List.getElem?_map, hx']; rfl)) ?_
    refine Ar (k + 1 : Nat) rfl ?_
    exact Bk (k + 1) [] rfl (show k + 1 ≤ xs.length by omega) (by show xs.length - (k + 1) < xs.length - k; omega)
  · exact Rw [(8, 1000000)] [(1000000, .arr 4 zs)] rfl (.one (.rf rfl) rfl rfl) ⟨_, rfl, by rw [hlen]; rfl, rfl⟩ (by rw [fl_end (by omega)]; rfl)
theorem quo2 {m h : Nat} (e : m = 2 * h) (hh : h ≤ 1073741824) : arB .quo .i64 m 2 h := show _ ∧ _ from ⟨by decide, by rw [show Int.tdiv (m : Int) 2 = ((m / 2 : Nat) : Int) from rfl, show m / 2 = h by omega]; exact wI (by omega)⟩
theorem halves_ok {l m : List Rat} (h : l.length = m.length) (hl : l.length ≤ 1073741824) : C0 232 [.d (dqs (l ++ m))] (· = .tup (.pr (.d (dqs l)) (.d (dqs m)))) := by
  have e : ((l ++ m).map dq).length = 2 * l.length := by rw [lq, List.length_append]; omega
  refine En Tryz.func232 fun _ _ => ?_
  refine Dw rfl ?_
  refine Ar l.length rfl ?_ (quo2 e hl)
  refine Tk l.length (l.map dq) rfl rfl (by omega) (by rw [← List.map_take, List.take_left]) ?_
  refine Ar l.length rfl ?_ (quo2 e hl)
  refine Dp l.length (m.map dq) rfl rfl (by omega) (by rw [← List.map_drop, List.drop_left]) ?_
  exact R0t
theorem split_ok {t : List (List Rat)} {r : List Rat} (hl : t.length ≤ 1073741824) : C0 230 [.d (dts (t ++ [r]))] (· = .tup (.pr (.d (dts t)) (.d (dqs r)))) := by
  have e : ((t ++ [r]).map dqs).length = t.length + 1 := by rw [lt', List.length_append]; rfl
  refine En Tryz.func230 fun _ _ => ?_
  refine Dw rfl ?_
  refine Ar t.length rfl ?_ (wr (by omega) (by simp only [inK]; omega))
  refine Tk t.length (t.map dqs) rfl rfl (by omega) (by rw [← List.map_take, List.take_left]) ?_
  refine Ar t.length rfl ?_ (wr (by omega) (by simp only [inK]; omega))
  refine Ix t.length rfl (u := dqs r) (mp (by simp)) ?_
  exact R0t
end
section
/-- an element -/
abbrev de {k : Nat} (a : El k) : D := dqs (toL k a)
abbrev dt {k : Nat} (t : Tw k) : D := dts (toT k t)
theorem _root_.Go.Proofs.YtfmgfaeheljpcaaGreat.Sz.ps {p : Nat} {l : List Rat} (h : Sz p l) : Ps p l := fun _ hx => h.qs hx
theorem zero_mul' {k : Nat} {t : Tw k} {a b : El k} (h : (∀ x ∈ toL k a, x = 0) ∨ (∀ x ∈ toL k b, x = 0)) : toL k (mul k t a b) = List.replicate (2 ^ k) 0 := by
  have L := ring k t
  rcases h with h | h
  · rw [(eq_zero_iff k a).2 h, L.zm, toL_zero]
  · rw [(eq_zero_iff k b).2 h, L.mz, toL_zero]
theorem p16 {k : Nat} (h : k ≤ 16) : 2 ^ k ≤ 65536 := p2le h
/-- what a product is -/
def MulR (k : Nat) (xs : List D) (v : AV) (H' : Hpl) : Prop := (k = 0 ∧ v = .lit 4 xs ∧ H' = []) ∨ (v = .own 1000000 4 0 xs.length ∧ H' = [(1000000, .arr 4 xs)])
theorem tmul_own : ∀ {k : Nat} {r s s' : Nat} {t : Tw k} {a b : El k}, TS r k t → Sz s (toL k a) → Sz s' (toL k b) → k ≤ 16 → s + s' + cB r k ≤ 4398046511104 → CW0 233 [.d (dt t), .d (de a), .d (de b)] [] (MulR k ((toL k (mul k t a b)).map dq)) := by
  intro k
  induction k with
  | zero =>
    intro r s s' t a b hT ha hb hk hs
    refine EnW Tryz.func233 fun _ _ _ => ?_
    refine Yes rfl rfl ?_
    refine Dw rfl ?_
    refine Ix 0 rfl (u := dq a) rfl ?_
    refine Ix 0 rfl (u := dq b) rfl ?_
    refine Ce rfl (qMul_ok (ha.qs (List.mem_singleton.2 rfl)) (hb.qs (List.mem_singleton.2 rfl)) (by omega)) ?_
    exact Rw [] [] rfl (.one (.rf rfl) rfl rfl) (.inl ⟨rfl, rfl, rfl⟩)
  | succ k ih =>
    intro r s s' t a b hT ha hb hk hs
    have hp := p16 hk
    have hp1 : 2 ^ (k + 1) = 2 * 2 ^ k := by rw [Nat.pow_succ]; omega
    have hcB : cB r (k + 1) = 2 * cB r k + r + 1 := rfl
    have hax : Sz s (toL k a.1) := Sz.left ha
    have hay : Sz s (toL k a.2) := Sz.right ha
    have hbx : Sz s' (toL k b.1) := Sz.left hb
    have hby : Sz s' (toL k b.2) := Sz.right hb
    have hlen := toL_length k
    have ihd : ∀ {p q : Nat} {x y : El k}, Sz p (toL k x) → Sz q (toL k y) → p + q + cB r k ≤ 4398046511104 → C0 233 [.d (dt t.1), .d (de x), .d (de y)] (· = .d (de (mul k t.1 x y))) := fun hx hy h =>
      CW.data (ih hT.1 hx hy (by omega) h) rfl fun v H' hv => by
        rcases hv with ⟨_, rfl, rfl⟩ | ⟨rfl, rfl⟩
        · exact ⟨_, .one (.lit rfl) rfl rfl, rfl⟩
        · exact ⟨_, .one (.own rfl (by simp) (by rw [List.drop_zero, List.take_length])) rfl rfl, rfl⟩
    refine EnW Tryz.func233 fun _ _ _ => ?_
    refine No rfl (by simp only [lt', toT_length]; omega) ?_
    refine Cu (some 3) (fun (b' : Bool) => [(0, .d (dt t)), (1, .d (de a)), (2, .d (de b)), (26, .b b')]) (fun _ => []) (fun b' => b' = true → (∀ x ∈ toL (k + 1) a, x = 0) ∨ (∀ x ∈ toL (k + 1) b, x = 0)) rfl ?_ fun b' hb' => ?_
    · refine Ce rfl (tZero_ok ha.ps (by omega) (by rw [toL_length]; omega)) ?_
      refine By rfl (fun h => ?_) fun h => ?_
      · exact Jn true [] rfl fun _ => .inl h
      · refine Ce rfl (tZero_ok hb.ps (by omega) (by rw [toL_length]; omega)) ?_
        exact Jn (dc _) [] rfl fun e => .inr (dc_iff.1 e)
    refine By rfl (fun h => ?_) fun h => ?_
    · have hz := zero_mul' (t := t) (hb' h)
      refine Cr (sz := 4) (xs := (List.replicate (2 ^ (k + 1)) (0 : Rat)).map dq) rfl (by
        simp only [lq, toL_length]
        exact zeros_ok (by omega)) ?_
      exact Rw [(35, 1000000)] [(1000000, .arr 4 _)] rfl (.one (.rf rfl) rfl rfl) (.inr ⟨by rw [hz]; rfl, by rw [hz]⟩)
    refine Ce rfl (split_ok (t := toT k t.1) (r := toL k t.2) (by rw [toT_length]; omega)) ?_
    refine Ce rfl (halves_ok (l := toL k a.1) (m := toL k a.2) (by rw [hlen, hlen]) (by rw [hlen]; omega)) ?_
    refine Ce rfl (halves_ok (l := toL k b.1) (m := toL k b.2) (by rw [hlen, hlen]) (by rw [hlen]; omega)) ?_
    refine Ce rfl (ihd hax hbx (by omega)) ?_
    refine Ce rfl (ihd hay hby (by omega)) ?_
    refine Ce rfl (ihd (hay.mul hT.1 hby) hT.2 (by omega)) ?_
    refine Cr rfl (tadd_ok (by rw [hlen, hlen]) (by rw [hlen]; omega) (hax.mul hT.1 hbx).ps ((hay.mul hT.1 hby).mul hT.1 hT.2).ps (by omega)) ?_
    refine Ce rfl (ihd hax hby (by omega)) ?_
    refine Ce rfl (ihd hay hbx (by omega)) ?_
    refine Ce rfl (CA.data (tadd_ok (by rw [hlen, hlen]) (by rw [hlen]; omega) (hax.mul hT.1 hby).ps (hay.mul hT.1 hbx).ps (by omega))) ?_
    refine ApO ((toL (k + 1) (mul (k + 1) t a b)).map dq) rfl rfl rfl (by
      rw [← List.map_append, ← toL_add, ← toL_add]; rfl) (by rw [lq, toL_length]; omega) ?_
    exact Rw [(73, 1000000)] [(1000000, .arr 4 _)] rfl (.one (.rf rfl) rfl rfl) (.inr ⟨rfl, rfl⟩)
end
section
theorem tmul_ok {k : Nat} {r s s' : Nat} {t : Tw k} {a b : Tow.El k} (hT : TS r k t) (ha : Sz s (toL k a)) (hb : Sz s' (toL k b)) (hk : k ≤ 16) (hs : s + s' + cB r k ≤ 4398046511104) : C0 233 [.d (dt t), .d (de a), .d (de b)] (· = .d (de (mul k t a b))) :=
  CW.data (tmul_own hT ha hb hk hs) rfl fun v H' hv => by
    rcases hv with ⟨_, rfl, rfl⟩ | ⟨rfl, rfl⟩
    · exact ⟨_, .one (.lit rfl) rfl rfl, rfl⟩
    · exact ⟨_, .one (.own rfl (by simp) (by rw [List.drop_zero, List.take_length])) rfl rfl, rfl⟩
theorem tadd_el {k p q : Nat} {a b : Tow.El k} (hk : k ≤ 16) (ha : Ps p (toL k a)) (hb : Ps q (toL k b)) (hp : p + q + 1 ≤ 8796093022208) : C0 278 [.d (de a), .d (de b)] (· = .d (de (Tow.add k a b))) := by
  have := CA.data (tadd_ok (by rw [toL_length, toL_length]) (by rw [toL_length]; have := p16 hk; omega) ha hb hp)
  rwa [← toL_add] at this
theorem tneg_el {k p : Nat} {a : Tow.El k} (hk : k ≤ 16) (ha : Ps p (toL k a)) (hp : p ≤ 8796093022208) : C0 234 [.d (de a)] (· = .d (de (Tow.neg k a))) := by
  have := CA.data (tneg_ok (by rw [toL_length]; have := p16 hk; omega) ha hp)
  rwa [← toL_neg] at this
theorem split_el {k : Nat} {t : Tw (k + 1)} (hk : k ≤ 16) : C0 230 [.d (dt t)] (· = .tup (.pr (.d (dt t.1)) (.d (de t.2)))) := split_ok (by rw [toT_length]; omega)
theorem halves_el {k : Nat} {a : Tow.El (k + 1)} (hk : k ≤ 16) : C0 232 [.d (de a)] (· = .tup (.pr (.d (de a.1)) (.d (de a.2)))) := halves_ok (by rw [toL_length, toL_length]) (by rw [toL_length]; have := p16 hk; omega)
theorem neg_sz {k p : Nat} {a : Tow.El k} (h : Sz p (toL k a)) : Sz p (toL k (Tow.neg k a)) := by rw [toL_neg]; exact h.neg
theorem tnorm_ok {k r s : Nat} {t : Tw (k + 1)} {a : Tow.El (k + 1)} (hT : TS r (k + 1) t) (ha : Sz s (toL (k + 1) a)) (hk : k + 1 ≤ 16) (hs : nB r k s ≤ 4398046511104) : C0 231 [.d (dt t), .d (de a)] (· = .d (de (Tow.norm k t a))) := by
  have hn : nB r k s = 4 * s + 3 * cB r k + r + 1 := rfl
  have hx : Sz s (toL k a.1) := Sz.left ha
  have hy : Sz s (toL k a.2) := Sz.right ha
  refine En Tryz.func231 fun _ _ => ?_
  refine Ce rfl (split_el (by omega)) ?_
  refine Ce rfl (halves_el (by omega)) ?_
  refine Ce rfl (tmul_ok hT.1 hx hx (by omega) (by omega)) ?_
  refine Ce rfl (tmul_ok hT.1 hy hy (by omega) (by omega)) ?_
  refine Ce rfl (tmul_ok hT.1 (hy.mul hT.1 hy) hT.2 (by omega) (by omega)) ?_
  refine Ce rfl (tneg_el (by omega) ((hy.mul hT.1 hy).mul hT.1 hT.2).ps (by omega)) ?_
  refine Ce rfl (tadd_el (by omega) (hx.mul hT.1 hx).ps (neg_sz ((hy.mul hT.1 hy).mul hT.1 hT.2)).ps (by omega)) ?_
  exact R0
theorem iB_norm {r k p q : Nat} (h : iB r (k + 1) p ≤ q) : nB r k p ≤ q ∧ p + iB r k (nB r k p) + cB r k ≤ q := by
  have h1 := iB_ge r k (nB r k p)
  have h2 : iB r (k + 1) p = 2 * (p + iB r k (nB r k p) + cB r k) := rfl
  omega
theorem inv0 (x : Rat) : Tow.inv 0 () x = if x = 0 then none else some (1 / x : Rat) := rfl
theorem inv0_iff (y : Rat) : (∃ x, Tow.inv 0 () y = some x) ↔ y ≠ 0 := by
  rw [inv0]
  by_cases h : y = 0
  · rw [if_pos h]; exact ⟨(fun ⟨x, h⟩ => nomatch h), fun h2 => absurd h h2⟩
  · rw [if_neg h]; exact ⟨fun _ => h, fun _ => ⟨_, rfl⟩⟩
theorem tinv0 {y : Rat} {s : Nat} (hq : Qs s y) (hs : s + 1 ≤ 8796093022208) : C0 170 [.d (dts []), .d (dqs [y])] fun v => ∃ w : D, v = .tup (.pr (.d w) (.b (dc (y ≠ 0)))) ∧ (y ≠ 0 → w = dqs [1 / y]) := by
  have h1 : Qs 1 (1 : Rat) := Qs.int (z := 1) (Zs.one (Nat.le_refl 1)) (Nat.le_refl 1)
  refine En Tryz.func170 fun _ _ => ?_
  refine Yes rfl rfl ?_
  refine Dw rfl ?_
  refine Ce rfl (qFromInt_ok (z := 1) (by decide)) ?_
  refine Ix 0 rfl (u := dq y) rfl ?_
  by_cases h0 : y = 0
  · refine Ce rfl (qDiv0_ok h0) ?_
    exact Rt rfl (.tup (.cons (.lit rfl) (.one (by exact .bp ⟨fun h => absurd (dc_iff.1 h) (by decide), fun h => absurd h0 h⟩) (fun _ _ e => by cases e) (fun _ _ e => by cases e)))) ⟨_, rfl, fun h => absurd h0 h⟩
  · refine Ce rfl (qDiv_ok h1 hq (by omega) h0) ?_
    exact Rt rfl (.tup (.cons (.lit rfl) (.one (by exact .bp ⟨fun _ => h0, fun _ => dc_iff.2 rfl⟩) (fun _ _ e => by cases e) (fun _ _ e => by cases e)))) ⟨_, rfl, fun _ => rfl⟩
theorem tinverse_ok : ∀ {k : Nat} {r s : Nat} {t : Tw k} {a : Tow.El k}, TS r k t → Sz s (toL k a) → k ≤ 16 → iB r k s ≤ 4398046511104 → C0 170 [.d (dt t), .d (de a)] fun v => ∃ w : D, v = .tup (.pr (.d w) (.b (dc (∃ x, Tow.inv k t a = some x)))) ∧ ∀ x, Tow.inv k t a = some x → w = de x := by
  intro k
  induction k with
  | zero =>
    intro r s t a hT ha hk hs
    have hb : iB r 0 s = s + 1 := rfl
    have key : ∀ y : Rat, Qs s y → C0 170 [.d (dts []), .d (dqs [y])] fun v => ∃ w : D, v = .tup (.pr (.d w) (.b (dc (∃ x, Tow.inv 0 () y = some x)))) ∧ ∀ x : Rat, Tow.inv 0 () y = some x → w = dqs [x] := fun y hq => by
      refine C.mono (tinv0 hq (by omega)) fun v ⟨w, e, h⟩ => ⟨w, by rw [e]; congr 4; exact propext (inv0_iff y).symm, fun x hx => ?_⟩
      have h0 := (inv0_iff y).1 ⟨x, hx⟩
      rw [h h0]
      rw [inv0, if_neg h0] at hx
      injection hx with hx
      rw [← hx]
    exact key a (ha.qs (List.mem_singleton.2 rfl))
  | succ k ih =>
    intro r s t a hT ha hk hs
    have hx : Sz s (toL k a.1) := Sz.left ha
    have hy : Sz s (toL k a.2) := Sz.right ha
    obtain ⟨hi1, hi2⟩ := iB_norm hs
    have hN := ha.norm hT
    have hge := iB_ge r k (nB r k s)
    have hinv : Tow.inv (k + 1) t a = match Tow.inv k t.1 (Tow.norm k t a) with | none => none | some x => some (mul k t.1 a.1 x, Tow.neg k (mul k t.1 a.2 x)) := rfl
    refine En Tryz.func170 fun _ _ => ?_
    refine No rfl (by simp only [lt', toT_length]; omega) ?_
    refine Ce rfl (split_el (by omega)) ?_
    refine Ce rfl (tnorm_ok hT ha hk (by omega)) ?_
    refine Ca rfl (ih hT.1 hN (by omega) (by omega)) fun v hv => ?_
    obtain ⟨w, rfl, hw⟩ := hv
    refine By rfl (fun h => ?_) fun h => ?_
    · have h : ¬ ∃ x, Tow.inv k t.1 (Tow.norm k t a) = some x := by simpa [dc_not, dc_iff] using h
      have e0 : Tow.inv (k + 1) t a = none := by
        rw [hinv]
        cases hh : Tow.inv k t.1 (Tow.norm k t a) with
        | none => rfl
        | some x => exact absurd ⟨x, hh⟩ h
      exact Rt rfl (.tup (.cons (.nil (sz := 4) rfl) (.one (by exact .bp (c := false) (p := ∃ x, Tow.inv (k + 1) t a = some x) ⟨nofun, fun ⟨x, h⟩ => by rw [e0] at h; cases h⟩) (fun _ _ e => by cases e) (fun _ _ e => by cases e)))) ⟨_, rfl, fun x h => by rw [e0] at h; cases h⟩
    · obtain ⟨x, hx'⟩ : ∃ x, Tow.inv k t.1 (Tow.norm k t a) = some x := by simpa [dc_not, dc_iff] using h
      obtain rfl := hw x hx'
      rw [hx'] at hinv
      have hzx := hN.inv hT.1 hx'
      have hpk := p16 (show k ≤ 16 by omega)
      refine Ce rfl (halves_el (by omega)) ?_
      refine Cw [] rfl (tmul_own hT.1 hx hzx (by omega) (by omega)) fun v H' _ hv => ?_
      have fin : ∀ {zs : List D}, zs = (toL k (mul k t.1 a.1 x)).map dq ++ (toL k (Tow.neg k (mul k t.1 a.2 x))).map dq → zs = (toL (k + 1) (mul k t.1 a.1 x, Tow.neg k (mul k t.1 a.2 x))).map dq := fun h => by rw [h, ← List.map_append]; rfl
      have hb : (true = true ↔ ∃ x, Tow.inv (k + 1) t a = some x) := ⟨fun _ => ⟨_, hinv⟩, fun _ => rfl⟩
      rcases hv with ⟨hk0, rfl, rfl⟩ | ⟨rfl, rfl⟩
      · refine Ce rfl (tmul_ok hT.1 hy hzx (by omega) (by omega)) ?_
        refine Ce rfl (tneg_el (by omega) (hy.mul hT.1 hzx).ps (by omega)) ?_
        refine ApL _ rfl rfl (by rw [lq, toL_length]; exact Nat.two_pow_pos k) (by rw [List.length_append, lq, lq, toL_length, toL_length]; omega) ?_
        exact Rt rfl (.tup (.cons (.own rfl (by rw [Nat.zero_add]; exact Nat.le_refl _) rfl) (.one (by exact .bp (c := true) hb) (fun _ _ e => by cases e) (fun _ _ e => by cases e)))) ⟨_, rfl, fun y h => by rw [hinv] at h; injection h with h; rw [← h, List.drop_zero, List.take_length, fin rfl]; rfl⟩
      · refine Ce rfl (tmul_ok hT.1 hy hzx (by omega) (by omega)) ?_
        refine Ce rfl (tneg_el (by omega) (hy.mul hT.1 hzx).ps (by omega)) ?_
        refine ApO _ rfl rfl rfl rfl (by rw [List.length_append, lq, lq, toL_length, toL_length]; omega) ?_
        exact Rt rfl (.tup (.cons (.own rfl (by rw [Nat.zero_add]; exact Nat.le_refl _) rfl) (.one (by exact .bp (c := true) hb) (fun _ _ e => by cases e) (fun _ _ e => by cases e)))) ⟨_, rfl, fun y h => by rw [hinv] at h; injection h with h; rw [← h, List.drop_zero, List.take_length, fin rfl]; rfl⟩
end
section
theorem toT_get : ∀ {k : Nat} {t : Tw k} {r : Nat}, TS r k t → ∀ {i : Nat} {l : List Rat}, (toT k t)[i]? = some l → l.length = 2 ^ i ∧ Sz r l
  | 0, _, _, _, _, _, h => by simp [toT] at h
  | k + 1, t, r, hT, i, l, h => by
    by_cases hi : i < k
    · rw [toT, List.getElem?_append_left (by rw [toT_length]; exact hi)] at h
      exact toT_get hT.1 h
    · have := (List.getElem?_eq_some_iff.1 h).1
      rw [toT_length] at this
      have hik : i = k := by omega
      subst hik
      rw [toT, List.getElem?_append_right (by rw [toT_length]; exact Nat.le_refl _), toT_length, Nat.sub_self] at h
      simp at h
      rw [← h]
      exact ⟨toL_length _ _, hT.2⟩
theorem TS.pt {k r : Nat} {t : Tw k} (h : TS r k t) : Pt r (toT k t) := fun i l hl => ⟨(toT_get h hl).1, (toT_get h hl).2.ps⟩
theorem nlen {k : Nat} (t : Tw k) (a : Tow.El k) : (toL k a).length = 2 ^ (toT k t).length := by rw [toL_length, toT_length]
section
variable {k r s s' : Nat} {t : Tw k} {a b : Tow.El k}
theorem tFormed_el (hT : TS r k t) (ha : Sz s (toL k a)) (hk : k ≤ 16) (hs : s ≤ 4398046511104) (hr : r ≤ 4398046511104) : C0 169 [.d (dt t), .d (de a)] (· = .b true) := tFormed_ok (TS.pt hT) (by omega) ha.ps (by omega) (by rw [toT_length]; omega) (nlen t a)
theorem tformed_el (hT : TS r k t) (ha : Sz s (toL k a)) (hb : Sz s' (toL k b)) (hk : k ≤ 16) (hs : s + s' ≤ 4398046511104) (hr : r ≤ 4398046511104) : C0 236 [.d (dt t), .d (de a), .d (de b)] (· = .b true) := tformed_ok (TS.pt hT) (by omega) ha.ps (by omega) hb.ps (by omega) (by rw [toT_length]; omega) (nlen t a) (nlen t b)
theorem tAdd_ok (hT : TS r k t) (ha : Sz s (toL k a)) (hb : Sz s' (toL k b)) (hk : k ≤ 16) (hs : s + s' ≤ 4398046511104) (hr : r ≤ 4398046511104) : C0 237 [.d (dt t), .d (de a), .d (de b)] (· = .d (de (Tow.add k a b))) := by
  refine En Tryz.func237 fun _ _ => ?_
  refine Ce rfl (tformed_el hT ha hb hk hs hr) ?_
  refine No rfl (by simp) ?_
  refine Ce rfl (tadd_el hk ha.ps hb.ps (by omega)) ?_
  exact R0
theorem tNeg_ok (hT : TS r k t) (ha : Sz s (toL k a)) (hk : k ≤ 16) (hs : s ≤ 4398046511104) (hr : r ≤ 4398046511104) : C0 176 [.d (dt t), .d (de a)] (· = .d (de (Tow.neg k a))) := by
  refine En Tryz.func176 fun _ _ => ?_
  refine Ce rfl (tFormed_el hT ha hk hs hr) ?_
  refine No rfl (by simp) ?_
  refine Ce rfl (tneg_el hk ha.ps (by omega)) ?_
  exact R0
theorem tSub_ok (hT : TS r k t) (ha : Sz s (toL k a)) (hb : Sz s' (toL k b)) (hk : k ≤ 16) (hs : s + s' ≤ 4398046511104) (hr : r ≤ 4398046511104) : C0 227 [.d (dt t), .d (de a), .d (de b)] (· = .d (de (Tow.add k a (Tow.neg k b)))) := by
  refine En Tryz.func227 fun _ _ => ?_
  refine Ce rfl (tformed_el hT ha hb hk hs hr) ?_
  refine No rfl (by simp) ?_
  refine Ce rfl (tneg_el hk hb.ps (by omega)) ?_
  refine Ce rfl (tadd_el hk ha.ps (neg_sz hb).ps (by omega)) ?_
  exact R0
theorem tMul_ok (hT : TS r k t) (ha : Sz s (toL k a)) (hb : Sz s' (toL k b)) (hk : k ≤ 16) (hs : s + s' + cB r k ≤ 4398046511104) (hr : r ≤ 4398046511104) : C0 172 [.d (dt t), .d (de a), .d (de b)] (· = .d (de (mul k t a b))) := by
  refine En Tryz.func172 fun _ _ => ?_
  refine Ce rfl (tformed_el hT ha hb hk (by omega) hr) ?_
  refine No rfl (by simp) ?_
  refine Ce rfl (tmul_ok hT ha hb hk hs) ?_
  exact R0
theorem tInv_ok (hT : TS r k t) (ha : Sz s (toL k a)) (hk : k ≤ 16) (hs : iB r k s ≤ 4398046511104) (hr : r ≤ 4398046511104) {x : Tow.El k} (hx : Tow.inv k t a = some x) : C0 100 [.d (dt t), .d (de a)] (· = .tup (.pr (.d (de x)) (.d (.int .i64 0)))) := by
  have hge := iB_ge r k s
  refine En Tryz.func100 fun _ _ => ?_
  refine Ce rfl (tFormed_el hT ha hk (by omega) hr) ?_
  refine No rfl (by simp) ?_
  refine Ca rfl (tinverse_ok hT ha hk hs) fun v hv => ?_
  obtain ⟨w, rfl, hw⟩ := hv
  obtain rfl := hw x hx
  refine No rfl (by simp [dc_not, dc_iff, hx]) ?_
  exact R0t
theorem tInv0_ok (hT : TS r k t) (ha : Sz s (toL k a)) (hk : k ≤ 16) (hs : iB r k s ≤ 4398046511104) (hr : r ≤ 4398046511104) (hx : Tow.inv k t a = none) : C0 100 [.d (dt t), .d (de a)] (· = .tup (.pr (.d (dqs [])) (.d (.int .i64 6)))) := by
  have hge := iB_ge r k s
  refine En Tryz.func100 fun _ _ => ?_
  refine Ce rfl (tFormed_el hT ha hk (by omega) hr) ?_
  refine No rfl (by simp) ?_
  refine Ca rfl (tinverse_ok hT ha hk hs) fun v hv => ?_
  obtain ⟨w, rfl, hw⟩ := hv
  refine Yes rfl (by simp [dc_not, dc_iff, hx]) ?_
  exact RTt rfl (.cons (.nil rfl) (.one (.rf rfl) (fun _ _ e => by cases e) (fun _ _ e => by cases e)))
theorem tRoot_ok {i : Nat} (hT : TS r k t) (hk : k ≤ 16) (hr : r ≤ 4398046511104) (hi : i < k) : C0 323 [.d (dt t), .d (.int .i64 i)] (· = .d (de (root k i))) := by
  have hp := p16 hk
  have hpi : 2 ^ i < 2 ^ k := Nat.pow_lt_pow_right (by decide) hi
  refine En Tryz.func323 fun _ _ => ?_
  refine Ce rfl (radicands_ok (TS.pt hT) (by omega) (by rw [toT_length]; omega)) ?_
  refine No rfl (by simp) ?_
  refine No rfl (by omega) ?_
  refine No rfl (by simp only [lt', toT_length]; omega) ?_
  refine Ar (2 ^ k : Nat) rfl ?_ (by simp only [lt', toT_length]; exact shl_one (by omega))
  refine Cr rfl (zeros_ok (n := 2 ^ k) (by omega)) ?_
  refine Dw rfl ?_
  refine Ar (2 ^ i : Nat) rfl ?_ (shl_one (by omega))
  refine Ce rfl (qFromInt_ok (z := 1) (by decide)) ?_
  refine Eo (2 ^ i) rfl (by simp only [lq, List.length_replicate]; omega) ?_
  refine Sto rfl (by simp only [lq, List.length_replicate]; omega) (ms (f := dq) (u := 1)) ?_
  refine R1 rfl (.own rfl (by simp) ?_)
  rw [List.drop_zero, ← toL_root hi]
  exact List.take_of_length_le (by simp [toL_length])
theorem tFromRat_ok {x : Rat} {p : Nat} (hT : TS r k t) (hk : k ≤ 16) (hr : r ≤ 4398046511104) (hx : Qs p x) (hp : p ≤ 4398046511104) : C0 277 [.d (dt t), .d (dq x)] (· = .d (de (rat k x))) := by
  have hpk := p16 hk
  have h0 := Nat.two_pow_pos k
  refine En Tryz.func277 fun _ _ => ?_
  refine Ce rfl (radicands_ok (TS.pt hT) (by omega) (by rw [toT_length]; omega)) ?_
  refine No rfl (by simp) ?_
  refine Ce rfl (qValid_ok hx (by omega)) ?_
  refine No rfl (by simp) ?_
  refine Ar (2 ^ k : Nat) rfl ?_ (by simp only [lt', toT_length]; exact shl_one (by omega))
  refine Cr rfl (zeros_ok (n := 2 ^ k) (by omega)) ?_
  refine Eo 0 rfl (by simp only [lq, List.length_replicate]; omega) ?_
  refine Sto rfl (by simp only [lq, List.length_replicate]; omega) (ms (f := dq) (u := x)) ?_
  refine R1 rfl (.own rfl (by simp) ?_)
  rw [List.drop_zero, toL_rat]
  rw [List.take_of_length_le (by simp), show 2 ^ k = 2 ^ k - 1 + 1 by omega, List.replicate_succ, List.set_cons_zero]
  rfl
theorem tNorm_ok {k r s : Nat} {t : Tw (k + 1)} {a : Tow.El (k + 1)} (hT : TS r (k + 1) t) (ha : Sz s (toL (k + 1) a)) (hk : k + 1 ≤ 16) (hs : nB r k s ≤ 4398046511104) (hr : r ≤ 4398046511104) : C0 330 [.d (dt t), .d (de a)] (· = .d (de (Tow.norm k t a))) := by
  have hn : nB r k s = 4 * s + 3 * cB r k + r + 1 := rfl
  refine En Tryz.func330 fun _ _ => ?_
  refine Ce rfl (tFormed_el hT ha hk (by omega) hr) ?_
  refine No rfl (by simp) ?_
  refine No rfl (by simp only [lt', toT_length]; omega) ?_
  refine Ce rfl (tnorm_ok hT ha hk hs) ?_
  exact R0
end
end
end Go.Proofs.YtfmgfaeheljpcaaGreat
