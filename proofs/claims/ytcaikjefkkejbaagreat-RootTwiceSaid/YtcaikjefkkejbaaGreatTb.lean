/- Towers: sizes of the numbers. -/
import Derived.Test.YtcaikjefkkejbaaGreatLa
import Derived.Test.YtcaikjefkkejbaaGreatTa
import Derived.Test.YtcaikjefkkejbaaGreatRl
set_option linter.unusedVariables false
set_option linter.unusedSimpArgs false
set_option maxRecDepth 10000
set_option maxHeartbeats 4000000
namespace Go.Proofs.YtcaikjefkkejbaaGreat
open Go Go.Rx Go.Num Go.Tow
section
/-- all numbers have the denominator d, and numerators below n -/
def IsD (d n : Nat) (l : List Rat) : Prop := ∀ x ∈ l, ∃ z : Int, x * (d : Rat) = (z : Rat) ∧ z.natAbs < n
theorem IsD.mono {d n m : Nat} {l : List Rat} (h : IsD d n l) (hm : n ≤ m) : IsD d m l := fun x hx =>
  let ⟨z, h1, h2⟩ := h x hx; ⟨z, h1, Nat.lt_of_lt_of_le h2 hm⟩
theorem IsD.scale {d n e : Nat} {l : List Rat} (h : IsD d n l) (he : 0 < e) : IsD (d * e) (n * e) l := fun x hx => by
  obtain ⟨z, h1, h2⟩ := h x hx
  refine ⟨z * (e : Int), ?_, ?_⟩
  · rw [Rat.natCast_mul, ← Rat.mul_assoc, h1, Rat.intCast_mul]; rfl
  · rw [Int.natAbs_mul, Int.natAbs_natCast]
    exact Nat.mul_lt_mul_of_pos_right h2 he
theorem IsD.append {d n : Nat} {l m : List Rat} (h : IsD d n l) (k : IsD d n m) : IsD d n (l ++ m) := fun x hx => (List.mem_append.1 hx).elim (h x) (k x)
theorem IsD.left {d n : Nat} {l m : List Rat} (h : IsD d n (l ++ m)) : IsD d n l := fun x hx => h x (List.mem_append_left _ hx)
theorem IsD.right {d n : Nat} {l m : List Rat} (h : IsD d n (l ++ m)) : IsD d n m := fun x hx => h x (List.mem_append_right _ hx)
theorem IsD.add {d n m : Nat} : ∀ {l l' : List Rat}, IsD d n l → IsD d m l' → IsD d (n + m) (List.zipWith (· + ·) l l')
  | [], _, _, _ => fun _ h => nomatch h
  | _ :: _, [], _, _ => fun _ h => nomatch h
  | a :: l, b :: l', h, k => fun x hx => by
    rcases List.mem_cons.1 hx with hx | hx
    · obtain ⟨z, h1, h2⟩ := h a (List.mem_cons_self ..)
      obtain ⟨w, k1, k2⟩ := k b (List.mem_cons_self ..)
      refine ⟨z + w, by rw [hx, Rat.add_mul, h1, k1, Rat.intCast_add], ?_⟩
      have := Int.natAbs_add_le z w
      omega
    · exact IsD.add (fun y hy => h y (List.mem_cons_of_mem _ hy)) (fun y hy => k y (List.mem_cons_of_mem _ hy)) x hx
theorem IsD.neg {d n : Nat} {l : List Rat} (h : IsD d n l) : IsD d n (l.map (- ·)) := fun x hx => by
  obtain ⟨y, hy, rfl⟩ := List.mem_map.1 hx
  obtain ⟨z, h1, h2⟩ := h y hy
  exact ⟨-z, by rw [Rat.neg_mul, h1, Rat.intCast_neg], by rw [Int.natAbs_neg]; exact h2⟩
theorem IsD.mul1 {d n e m : Nat} {x y : Rat} (h : IsD d n [x]) (k : IsD e m [y]) : IsD (d * e) (n * m) [x * y] := fun u hu => by
  obtain rfl := List.mem_singleton.1 hu
  obtain ⟨z, h1, h2⟩ := h x (List.mem_cons_self ..)
  obtain ⟨w, k1, k2⟩ := k y (List.mem_cons_self ..)
  refine ⟨z * w, ?_, ?_⟩
  · rw [Rat.natCast_mul, Rat.intCast_mul, ← h1, ← k1]
    grind
  · rw [Int.natAbs_mul]
    exact Nat.mul_lt_mul'' h2 k2
theorem mul_den (y : Rat) : y * (y.den : Rat) = (y.num : Rat) := by
  have hd : ((y.den : Nat) : Rat) ≠ 0 := by
    intro h
    have : ((y.den : Nat) : Rat).num = 0 := by rw [h]; rfl
    rw [Rat.num_natCast] at this
    have := y.den_nz
    omega
  have e : y = (y.num : Rat) / (y.den : Rat) := by
    conv => lhs; rw [← Rat.num_divInt_den y, Rat.divInt_eq_div]
    rfl
  conv => lhs; lhs; rw [e]
  exact Rat.div_mul_cancel hd
/-- a common denominator and numerators of p bits -/
def Sz (p : Nat) (l : List Rat) : Prop := ∃ d : Nat, 0 < d ∧ d < 2 ^ p ∧ IsD d (2 ^ p) l
theorem Sz.mono {p q : Nat} {l : List Rat} (h : Sz p l) (hp : p ≤ q) : Sz q l := by
  obtain ⟨d, h0, h1, h2⟩ := h
  have := Nat.pow_le_pow_right (n := 2) (by decide) hp
  exact ⟨d, h0, by omega, h2.mono this⟩
theorem Sz.sub {p : Nat} {l m : List Rat} (h : Sz p l) (hs : ∀ x ∈ m, x ∈ l) : Sz p m := by
  obtain ⟨d, h0, h1, h2⟩ := h
  exact ⟨d, h0, h1, fun x hx => h2 x (hs x hx)⟩
theorem Sz.qs {p : Nat} {l : List Rat} (h : Sz p l) {x : Rat} (hx : x ∈ l) : Qs p x := by
  obtain ⟨d, h0, h1, h2⟩ := h
  obtain ⟨z, h3, h4⟩ := h2 x hx
  have hd : ((d : Nat) : Rat) ≠ 0 := by
    intro h
    have : (d : Rat).num = 0 := by rw [h]; rfl
    rw [Rat.num_natCast] at this
    omega
  have e : x = Rat.divInt z (d : Int) := by
    rw [Rat.divInt_eq_div, ← h3]
    exact (Rat.mul_div_cancel hd).symm
  rw [e]
  exact Qs.divInt h4 (by unfold Zs; rw [Int.natAbs_natCast]; exact h1) (by omega)
theorem Sz.nil : Sz 1 [] := ⟨1, by decide, by decide, fun _ h => nomatch h⟩
theorem Qs.isD {p : Nat} {x : Rat} (h : Qs p x) : IsD x.den (2 ^ p) [x] := fun y hy => by
  obtain rfl := List.mem_singleton.1 hy
  exact ⟨y.num, mul_den y, h.n⟩
theorem Sz.one {p : Nat} {x : Rat} (h : Qs p x) : Sz p [x] := ⟨x.den, Nat.pos_of_ne_zero x.den_nz, by have := h.d; unfold Zs at this; rwa [Int.natAbs_natCast] at this, h.isD⟩
theorem Sz.append {p q : Nat} {l m : List Rat} (h : Sz p l) (k : Sz q m) : Sz (p + q) (l ++ m) := by
  obtain ⟨d, h0, h1, h2⟩ := h
  obtain ⟨e, k0, k1, k2⟩ := k
  have hp := Nat.two_pow_pos p
  have hq := Nat.two_pow_pos q
  refine ⟨d * e, Nat.mul_pos h0 k0, by rw [Nat.pow_add]; exact Nat.mul_lt_mul'' h1 k1, ?_⟩
  refine IsD.append ((h2.scale k0).mono ?_) ?_
  · rw [Nat.pow_add]; exact Nat.mul_le_mul_left _ (Nat.le_of_lt k1)
  · rw [Nat.mul_comm d e]
    refine (k2.scale h0).mono ?_
    rw [Nat.pow_add, Nat.mul_comm]
    exact Nat.mul_le_mul_right _ (Nat.le_of_lt h1)
theorem Sz.cons {p q : Nat} {x : Rat} {m : List Rat} (h : Qs p x) (k : Sz q m) : Sz (p + q) (x :: m) := (Sz.one h).append k
theorem Sz.all {p : Nat} : ∀ {l : List Rat}, (∀ x ∈ l, Qs p x) → Sz (p * l.length + 1) l
  | [], _ => Sz.nil.mono (by omega)
  | x :: l, h => (Sz.cons (h x (List.mem_cons_self ..)) (Sz.all fun y hy => h y (List.mem_cons_of_mem _ hy))).mono (by rw [List.length_cons, Nat.mul_succ]; omega)
theorem Sz.add {p q : Nat} {l m : List Rat} (h : Sz p l) (k : Sz q m) : Sz (p + q + 1) (List.zipWith (· + ·) l m) := by
  obtain ⟨d, h0, h1, h2⟩ := h
  obtain ⟨e, k0, k1, k2⟩ := k
  have e1 := Nat.mul_lt_mul'' h1 k1
  rw [← Nat.pow_add] at e1
  refine ⟨d * e, Nat.mul_pos h0 k0, by rw [Nat.pow_succ]; omega, ?_⟩
  have a1 : IsD (d * e) (2 ^ (p + q)) l := (h2.scale k0).mono (by rw [Nat.pow_add]; exact Nat.mul_le_mul_left _ (Nat.le_of_lt k1))
  have a2 : IsD (d * e) (2 ^ (p + q)) m := by
    rw [Nat.mul_comm d e]
    exact (k2.scale h0).mono (by rw [Nat.pow_add, Nat.mul_comm]; exact Nat.mul_le_mul_right _ (Nat.le_of_lt h1))
  exact (a1.add a2).mono (by rw [Nat.pow_succ]; omega)
theorem Sz.neg {p : Nat} {l : List Rat} (h : Sz p l) : Sz p (l.map (- ·)) := by
  obtain ⟨d, h0, h1, h2⟩ := h
  exact ⟨d, h0, h1, h2.neg⟩
theorem Sz.left {p : Nat} {l m : List Rat} (h : Sz p (l ++ m)) : Sz p l := h.sub fun _ => List.mem_append_left _
theorem Sz.right {p : Nat} {l m : List Rat} (h : Sz p (l ++ m)) : Sz p m := h.sub fun _ => List.mem_append_right _
/-! towers -/
/-- each radicand has size r -/
def TS (r : Nat) : (k : Nat) → Tw k → Prop
  | 0, _ => True
  | k + 1, t => TS r k t.1 ∧ Sz r (toL k t.2)
/-- what a product adds -/
def cB (r : Nat) : Nat → Nat
  | 0 => 0
  | k + 1 => 2 * cB r k + r + 1
theorem mul_isD {r k : Nat} {t : Tw k} (ht : TS r k t) : ∃ E, 0 < E ∧ E ≤ 2 ^ cB r k ∧ ∀ a b d e n m, 0 < d → 0 < e → IsD d n (toL k a) → IsD e m (toL k b) → IsD (d * e * E) (n * m * 2 ^ cB r k) (toL k (mul k t a b)) := by
  induction k with
  | zero =>
    refine ⟨1, by decide, Nat.le_refl 1, fun a b d e n m _ _ h h' => ?_⟩
    rw [Nat.mul_one, show 2 ^ cB r 0 = 1 from rfl, Nat.mul_one]
    exact h.mul1 h'
  | succ k ih =>
    obtain ⟨E, h0, h1, h2⟩ := ih ht.1
    obtain ⟨g, g0, g1, g2⟩ := ht.2
    have hC := Nat.two_pow_pos (cB r k)
    have hR := Nat.two_pow_pos r
    refine ⟨E * (E * g), Nat.mul_pos h0 (Nat.mul_pos h0 g0), ?_, fun a b d e n m hd he h h' => ?_⟩
    · have e1 : E * (E * g) ≤ 2 ^ cB r k * (2 ^ cB r k * 2 ^ r) := Nat.mul_le_mul h1 (Nat.mul_le_mul h1 (Nat.le_of_lt g1))
      rw [← Nat.pow_add, ← Nat.pow_add] at e1
      exact Nat.le_trans e1 (Nat.pow_le_pow_right (by decide) (by show _ ≤ 2 * cB r k + r + 1; omega))
    · have hg : E * g ≤ 2 ^ cB r k * 2 ^ r := Nat.mul_le_mul h1 (Nat.le_of_lt g1)
      have hEg : 0 < E * g := Nat.mul_pos h0 g0
      have hc : n * m * 2 ^ cB r (k + 1) = n * m * 2 ^ cB r k * (2 ^ cB r k * 2 ^ r) + n * m * 2 ^ cB r k * (2 ^ cB r k * 2 ^ r) := by
        rw [show cB r (k + 1) = cB r k + (cB r k + r) + 1 from by show 2 * cB r k + r + 1 = _; omega, Nat.pow_succ, Nat.pow_add, Nat.pow_add]
        rw [← Nat.mul_two, Nat.mul_assoc (n * m), Nat.mul_assoc (n * m)]
      have scale : ∀ u v : El k, IsD d n (toL k u) → IsD e m (toL k v) → IsD (d * e * (E * (E * g))) (n * m * 2 ^ cB r k * (2 ^ cB r k * 2 ^ r)) (toL k (mul k t.1 u v)) := by
        intro u v hu hv
        have := (h2 u v d e n m hd he hu hv).scale hEg
        rw [Nat.mul_assoc (d * e)] at this
        exact this.mono (Nat.mul_le_mul_left _ hg)
      show IsD _ _ (toL k (add k _ _) ++ toL k (add k _ _))
      rw [toL_add, toL_add, hc]
      refine IsD.append (IsD.add (scale _ _ h.left h'.left) ?_) (IsD.add (scale _ _ h.left h'.right) (scale _ _ h.right h'.left))
      have := h2 _ _ (d * e * E) g _ _ (Nat.mul_pos (Nat.mul_pos hd he) h0) g0 (h2 _ _ d e n m hd he h.right h'.right) g2
      rw [show d * e * E * g * E = d * e * (E * (E * g)) from by rw [Nat.mul_assoc (d * e), Nat.mul_assoc (d * e), Nat.mul_assoc E g E, Nat.mul_comm g E]] at this
      rw [show n * m * 2 ^ cB r k * 2 ^ r * 2 ^ cB r k = n * m * 2 ^ cB r k * (2 ^ cB r k * 2 ^ r) from by rw [Nat.mul_assoc (n * m * 2 ^ cB r k), Nat.mul_comm (2 ^ r)]] at this
      exact this
theorem Sz.mul {r k p q : Nat} {t : Tw k} {a b : El k} (ht : TS r k t) (h : Sz p (toL k a)) (h' : Sz q (toL k b)) : Sz (p + q + cB r k) (toL k (mul k t a b)) := by
  obtain ⟨E, e0, e1, e2⟩ := mul_isD ht
  obtain ⟨d, h0, h1, h2⟩ := h
  obtain ⟨e, k0, k1, k2⟩ := h'
  have := e2 a b d e _ _ h0 k0 h2 k2
  rw [← Nat.pow_add, ← Nat.pow_add] at this
  refine ⟨_, Nat.mul_pos (Nat.mul_pos h0 k0) e0, ?_, this⟩
  rw [Nat.pow_add, Nat.pow_add]
  have h3 := Nat.mul_lt_mul'' h1 k1
  exact Nat.lt_of_lt_of_le (Nat.mul_lt_mul_of_pos_right h3 e0) (Nat.mul_le_mul_left _ e1)
def nB (r k p : Nat) : Nat := 4 * p + 3 * cB r k + r + 1
theorem Sz.norm {r k p : Nat} {t : Tw (k + 1)} {a : El (k + 1)} (ht : TS r (k + 1) t) (h : Sz p (toL (k + 1) a)) : Sz (nB r k p) (toL k (Tow.norm k t a)) := by
  have hx : Sz p (toL k a.1) := Sz.left h
  have hy : Sz p (toL k a.2) := Sz.right h
  have h1 := Sz.mul ht.1 hx hx
  have h2 := Sz.mul ht.1 (Sz.mul ht.1 hy hy) ht.2
  rw [Tow.norm, toL_add, toL_neg]
  exact (h1.add h2.neg).mono (by unfold nB; omega)
def iB (r : Nat) : Nat → Nat → Nat
  | 0, p => p + 1
  | k + 1, p => 2 * (p + iB r k (nB r k p) + cB r k)
theorem Qs.inv1 {p : Nat} {x : Rat} (h : Qs p x) : Qs (p + 1) (1 / x) := by
  by_cases h0 : x = 0
  · rw [h0, show (1 / 0 : Rat) = ((0 : Int) : Rat) from by rw [Rat.div_def, Rat.inv_zero, Rat.mul_zero]; rfl]
    exact Qs.int Zs.zero (by omega)
  · rw [div_divInt _ _ h0]
    refine Qs.divInt ?_ ?_ ?_
    · rw [show (1 : Rat).num = 1 from rfl, Int.one_mul]; exact h.d.mono (by omega)
    · rw [show ((1 : Rat).den : Int) = 1 from rfl, Int.one_mul]; exact h.n.mono (by omega)
    · rw [show ((1 : Rat).den : Int) = 1 from rfl, Int.one_mul]
      exact fun e => h0 (Rat.num_eq_zero.1 e)
theorem Sz.inv {r k p : Nat} {t : Tw k} {a b : El k} (ht : TS r k t) (h : Sz p (toL k a)) (hb : Tow.inv k t a = some b) : Sz (iB r k p) (toL k b) := by
  induction k generalizing p with
  | zero =>
    have h2 : ∀ x b : Rat, (if x = 0 then none else some (1 / x)) = some b → Qs p x → Sz (p + 1) [b] := by
      intro x b h hq
      split at h
      · cases h
      · injection h with h
        subst h
        exact Sz.one hq.inv1
    exact h2 a b hb (h.qs (List.mem_singleton.2 rfl))
  | succ k ih =>
    simp only [Tow.inv] at hb
    split at hb
    · cases hb
    · rename_i n hn
      injection hb with hb
      subst hb
      have h1 := ih ht.1 (h.norm ht) hn
      have h2 := Sz.mul ht.1 (Sz.left h : Sz p (toL k a.1)) h1
      have h3 := Sz.mul ht.1 (Sz.right h : Sz p (toL k a.2)) h1
      show Sz _ (toL k _ ++ toL k (Tow.neg k _))
      rw [toL_neg]
      exact (h2.append h3.neg).mono (by show _ ≤ 2 * (p + iB r k (nB r k p) + cB r k); omega)
theorem iB_ge (r k p : Nat) : p ≤ iB r k p := by
  cases k with
  | zero => show p ≤ p + 1; omega
  | succ k => show p ≤ 2 * _; omega
theorem nB_ge (r k p : Nat) : p ≤ nB r k p := by unfold nB; omega
theorem Sz.zero (k : Nat) : Sz 1 (toL k (Tow.zero k)) := by
  rw [toL_zero]
  refine ⟨1, by decide, by decide, fun x hx => ?_⟩
  rw [List.eq_of_mem_replicate hx]
  exact ⟨0, by rw [Rat.zero_mul]; rfl, by decide⟩
theorem Sz.rat {p : Nat} (k : Nat) {x : Rat} (h : Qs p x) : Sz (p + 1) (toL k (Tow.rat k x)) := by
  rw [toL_rat]
  refine Sz.cons h ?_
  refine ⟨1, by decide, by decide, fun x hx => ?_⟩
  rw [List.eq_of_mem_replicate hx]
  exact ⟨0, by rw [Rat.zero_mul]; rfl, by decide⟩
end
section
abbrev RE : Rep (List Raw) := RSl RQ
abbrev RT : Rep (List (List Raw)) := RSl RE
def cl (xs : List Rat) : List Raw := xs.map cq
def ct (t : List (List Rat)) : List (List Raw) := t.map cl
theorem cl_length (xs : List Rat) : (cl xs).length = xs.length := List.length_map ..
theorem cl_get {xs : List Rat} {i : Nat} {x : Rat} (h : xs[i]? = some x) : (cl xs)[i]? = some (cq x) := by rw [cl, List.getElem?_map, h]; rfl
theorem cl_append (xs ys : List Rat) : cl (xs ++ ys) = cl xs ++ cl ys := List.map_append ..
theorem cl_inj {xs ys : List Rat} (h : cl xs = cl ys) : xs = ys := by
  induction xs generalizing ys with
  | nil => cases ys with
    | nil => rfl
    | cons y ys => cases h
  | cons x xs ih => cases ys with
    | nil => cases h
    | cons y ys =>
      obtain ⟨h1, h2⟩ := List.cons.inj h
      rw [cq_inj h1, ih h2]
/-- a number of few words -/
def smallR (i : Raw) : Prop := i.1.2.length ≤ 1099511627776 ∧ i.2.2.length ≤ 1099511627776
open Classical in
noncomputable def validB (i : Raw) : Bool := decide (∃ x, i = cq x)
open Classical in
theorem validB_iff {i : Raw} : validB i = true ↔ ∃ x, i = cq x := by
  unfold validB
  constructor
  · intro h; exact of_decide_eq_true h
  · intro h; exact decide_eq_true h
/-- What a function on numbers answers. -/
def PredOk (f : FuncId) (C : Raw → Prop) (φ : Raw → Bool) : Prop := ∀ (W : GW) (v : Value) (i : Raw), V RQ W v i → C i → Ok Tryz.prog f [v] W fun _ r => r = .bool (φ i)
theorem slices_IndexFunc_Rat_ok {W : GW} {f : FuncId} {C : Raw → Prop} {φ : Raw → Bool} {p : Option Addr} {n c : Nat} {l : List Raw} (hf : PredOk f C φ) (h : Sl RQ W p n c l) (hC : ∀ i ∈ l, C i) :
    Ok Tryz.prog 132 [.slice p n c, .func (.func f) #[] #[]] W fun _ r => ∃ j : Int, r = .int .i64 j ∧ (j ≥ 0 ↔ l.any φ = true) := by
  have hn := h.hn
  have hc := h.hc
  have hCC := h.hC
  refine Ok.enter Tryz.func132 rfl rfl rfl rfl fun W0 iEn => ?_
  refine J.seq <| J.reg rfl <| O.as rfl <| JO.nil <| J.seq <| J.seq <| J.reg rfl <| O.mv rfl <| O.len rfl <| O.mv rfl <| JO.nil <| J.block <| ?_
  refine J.loop (α := Nat) (fun k => [(0, .slice p n c), (1, .func (.func f) #[] #[]), (7, .int .i64 (n : Int)), (8, .int .i64 (k : Int))]) (fun k W' => Le W0 W' ∧ k ≤ n ∧ (l.take k).any φ = false) (fun k => n - k) 0 ⟨rfl, rfl, rfl, rfl, trivial⟩ ⟨inferInstance, Nat.zero_le _, rfl⟩ ?_
  rintro k W3 ⟨_, hk, hd⟩
  refine J.seq <| J.reg rfl <| O.lt rfl rfl <| JO.nil <| J.seq <| J.condD rfl (fun h9 => ?_) (fun h9 => ?_)
  · skip
    obtain ⟨u, hu⟩ : ∃ u, l[k]? = some u := ⟨_, List.getElem?_eq_getElem (by omega)⟩
    refine J.skip <| J.seq <| J.block <| J.seq <| J.reg rfl <| O.mv rfl <| O.as rfl <| JO.nil <| J.seq <| J.reg rfl <| O.mv rfl <| O.mv rfl <| O.mv rfl <| O.ix (r := RQ) (j := k) rfl rfl rfl h.to hu rfl rfl (fun h => nomatch h) fun a v hv => O.callv (fs := #[]) (cap := #[]) rfl rfl (hf _ _ _ hv (hC u (List.mem_of_getElem? hu))) fun W4 v4 i4 e4 h4 => ?_
    subst h4
    refine JO.nil <| J.cond rfl (fun h16 => ?_) (fun h16 => ?_)
    · skip
      refine J.seq <| J.reg rfl <| O.mv rfl <| O.as rfl <| JO.nil <| J.ret1 rfl (.tmp rfl) fun W' iE iP => ?_
      exact ⟨k, rfl, fun _ => List.any_eq_true.2 ⟨u, List.mem_of_getElem? hu, h16⟩, fun _ => by omega⟩
    · skip
      refine J.skip <| J.bend <| J.reg rfl <| O.add rfl rfl (wI (by omega)) <| O.mv rfl <| JO.nil <| ?_
      exact J.at' (k + 1) ⟨rfl, rfl, rfl, rfl, trivial⟩ ⟨⟨inferInstance, by omega, by rw [List.take_add_one, hu, List.any_append, hd, Bool.false_or]; simpa using h16⟩, by omega⟩
  · skip
    refine J.exit rfl <| J.seq <| J.reg rfl <| O.as rfl <| JO.nil <| J.ret1 rfl (.tmp rfl) fun W' iE iP => ?_
    have hkn : k = n := by omega
    rw [hkn, List.take_of_length_le (by omega)] at hd
    exact ⟨-1, rfl, fun h => absurd h (by decide), fun h => by rw [hd] at h; cases h⟩
theorem slices_ContainsFunc_Rat_ok {W : GW} {f : FuncId} {C : Raw → Prop} {φ : Raw → Bool} {p : Option Addr} {n c : Nat} {l : List Raw} (hf : PredOk f C φ) (h : Sl RQ W p n c l) (hC : ∀ i ∈ l, C i) :
    Ok Tryz.prog 103 [.slice p n c, .func (.func f) #[] #[]] W fun _ r => r = .bool (l.any φ) := by
  refine Ok.enter Tryz.func103 rfl rfl rfl rfl fun W0 iEn => ?_
  refine J.seq <| J.reg rfl <| O.as rfl <| JO.nil <| J.seq <| J.reg rfl <| O.mv rfl <| O.mv rfl <| O.call rfl (slices_IndexFunc_Rat_ok hf h.to hC) fun W2 v2 i2 e2 h2 => ?_
  obtain ⟨j, rfl, hj⟩ := h2
  refine O.ge rfl rfl <| O.as rfl <| JO.nil <| J.ret1 rfl (.tmp rfl) fun W' iE iP => ?_
  congr 1
  by_cases h : j ≥ 0
  · rw [hj.1 h]; simpa using h
  · rw [Bool.eq_false_iff.2 fun h2 => h (hj.2 h2)]; simpa using h
theorem numbersS1_ok : PredOk 104 smallR (fun i => !validB i) := by
  intro W v i h hC
  obtain ⟨p1, n1, c1, p2, n2, c2, rfl, h1, h2⟩ := unQ h
  refine Ok.enter Tryz.func104 rfl rfl rfl rfl fun W0 iEn => ?_
  refine J.seq <| J.reg rfl <| O.box rfl fun W1 b1 i1 hb1 => O.as rfl <| JO.nil <| J.seq <| J.reg rfl <| O.ldBw rfl hb1.to rfl <| O.call rfl (rational_Valid_ok (i := i) (mkQ h1.to h2.to) hC.1 hC.2) fun W2 v2 i2 e2 h2 => ?_
  obtain ⟨b, rfl, hb⟩ := h2
  refine O.not rfl <| O.as rfl <| JO.nil <| J.ret1 rfl (.tmp rfl) fun W' iE iP => ?_
  congr 2
  rw [Bool.eq_iff_iff, hb, validB_iff]
theorem ZeroS1_ok : PredOk 116 (fun i => ∃ x, i = cq x) (fun i => decide (i ≠ cq 0)) := by
  intro W v i h hC
  obtain ⟨x, rfl⟩ := hC
  obtain ⟨p1, n1, c1, p2, n2, c2, rfl, h1, h2⟩ := unQ h
  refine Ok.enter Tryz.func116 rfl rfl rfl rfl fun W0 iEn => ?_
  refine J.seq <| J.reg rfl <| O.box rfl fun W1 b1 i1 hb1 => O.as rfl <| JO.nil <| J.seq <| J.reg rfl <| O.ldBw rfl hb1.to rfl <| O.call rfl (rational_Sign_ok (x := x) (mkQ h1.to h2.to)) fun W2 v2 i2 e2 h2 => ?_
  subst h2
  refine O.ne rfl rfl <| O.as rfl <| JO.nil <| J.ret1 rfl (.tmp rfl) fun W' iE iP => ?_
  congr 1
  apply decide_eq_decide.2
  have h0 : cq x = cq 0 ↔ x.num = 0 := ⟨fun h => by rw [cq_inj h]; rfl, fun h => by rw [Rat.num_eq_zero.1 h]⟩
  rw [ne_eq, ne_eq, h0]
  unfold cmpI
  constructor
  · intro h h2; rw [h2] at h; exact h rfl
  · intro h
    split
    · decide
    · rw [if_pos (by omega)]; decide
/-- Zero -/
theorem tower_Zero_ok {W : GW} {p : Option Addr} {n c : Nat} {xs : List Rat} (h : Sl RQ W p n c (cl xs)) :
    Ok Tryz.prog 81 [.slice p n c] W fun _ r => r = .bool (decide (∀ x ∈ xs, x = 0)) := by
  refine Ok.enter Tryz.func81 rfl rfl rfl rfl fun W0 iEn => ?_
  refine J.seq <| J.reg rfl <| O.as rfl <| JO.nil <| J.seq <| J.reg rfl <| O.mv rfl <| O.call rfl (slices_ContainsFunc_Rat_ok ZeroS1_ok h.to (fun i hi => by obtain ⟨x, _, rfl⟩ := List.mem_map.1 hi; exact ⟨x, rfl⟩)) fun W2 v2 i2 e2 h2 => ?_
  subst h2
  refine O.not rfl <| O.as rfl <| JO.nil <| J.ret1 rfl (.tmp rfl) fun W' iE iP => ?_
  congr 1
  rw [Bool.eq_iff_iff, Bool.not_eq_true', decide_eq_true_eq, List.any_eq_false]
  constructor
  · intro h x hx
    have := h (cq x) (List.mem_map.2 ⟨x, hx, rfl⟩)
    exact cq_inj (by simpa using this)
  · intro h i hi
    obtain ⟨x, hx, rfl⟩ := List.mem_map.1 hi
    rw [h x hx]; simp
theorem shl1 {i : Nat} (h : i ≤ 60) : IntKind.i64.wrap ((1 : Int) * 2 ^ (min (Int.toNat (i : Int)) (IntKind.bits .i64))) = ((2 ^ i : Nat) : Int) := by
  rw [show min (Int.toNat (i : Int)) (IntKind.bits .i64) = i from by show min i 64 = i; omega, Int.one_mul]
  have h1 : 2 ^ i ≤ 2 ^ 60 := Nat.pow_le_pow_right (by decide) h
  have e : (2 : Int) ^ i = ((2 ^ i : Nat) : Int) := by norm_cast
  rw [e]
  generalize 2 ^ i = m at *
  exact wI (by omega)
/-- a list of n numbers in normal form -/
def okE (n : Nat) (l : List Raw) : Prop := l.length = n ∧ ∀ i ∈ l, ∃ x, i = cq x
def okT (t : List (List Raw)) : Prop := ∀ i r, t[i]? = some r → okE (2 ^ i) r
theorem tower_numbers_ok {W : GW} {p : Option Addr} {n c m : Nat} {l : List Raw} (h : Sl RQ W p n c l) (hl : ∀ i ∈ l, smallR i) :
    Ok Tryz.prog 66 [.slice p n c, .int .i64 (m : Int)] W fun _ r => ∃ b, r = .bool b ∧ (b = true ↔ okE m l) := by
  have hn := h.hn
  refine Ok.enter Tryz.func66 rfl rfl rfl rfl fun W0 iEn => ?_
  refine J.seq <| J.reg rfl <| O.as rfl <| JO.nil <| J.seq <| J.reg rfl <| O.mv rfl <| O.len rfl <| O.mv rfl <| O.eq rfl rfl <| O.mv rfl <| ?_
  by_cases hg9 : n = m
  · skip
    refine O.set (t := 9) (.bool true) rfl (by simp only [Value.bool.injEq, decide_eq_true_eq, decide_eq_false_iff_not]; omega) <| O.gt rfl rfl <| O.mv rfl <| O.gt rfl rfl <| O.call rfl (slices_ContainsFunc_Rat_ok numbersS1_ok h.to hl) fun W2 v2 i2 e2 h2 => ?_
    subst h2
    refine O.gt rfl rfl <| O.not rfl <| O.pickT rfl rfl <| O.as rfl <| JO.nil <| J.ret1 rfl (.tmp rfl) fun W' iE iP => ?_
    refine ⟨_, rfl, ?_⟩
    rw [Bool.not_eq_true', List.any_eq_false]
    constructor
    · intro h3
      exact ⟨by omega, fun i hi => validB_iff.1 (by simpa using h3 i hi)⟩
    · intro h3 i hi
      simpa using validB_iff.2 (h3.2 i hi)
  · skip
    refine O.set (t := 9) (.bool false) rfl (by simp only [Value.bool.injEq, decide_eq_true_eq, decide_eq_false_iff_not]; omega) <| O.gs rfl rfl rfl <| O.gs rfl rfl rfl <| O.gs rfl rfl rfl <| O.pickF rfl rfl <| O.as rfl <| JO.nil <| J.ret1 rfl (.tmp rfl) fun W' iE iP => ?_
    exact ⟨false, rfl, fun h => (nomatch h), fun h => absurd (hn.trans h.1) hg9⟩
theorem tower_radicands_ok {W : GW} {p : Option Addr} {n c : Nat} {t : List (List Raw)} (h : Sl RE W p n c t) (hl : ∀ r ∈ t, ∀ i ∈ r, smallR i) (ht : t.length ≤ 40) :
    Ok Tryz.prog 65 [.slice p n c] W fun _ r => ∃ b, r = .bool b ∧ (b = true ↔ okT t) := by
  have hn := h.hn
  refine Ok.enter Tryz.func65 rfl rfl rfl rfl fun W0 iEn => ?_
  refine J.seq <| J.reg rfl <| O.as rfl <| JO.nil <| J.seq <| J.seq <| J.reg rfl <| O.mv rfl <| O.len rfl <| O.mv rfl <| JO.nil <| J.block <| ?_
  refine J.loop (α := Nat) (fun k => [(5, .slice p n c), (6, .int .i64 (n : Int)), (7, .int .i64 (k : Int))]) (fun k W' => Le W0 W' ∧ k ≤ n ∧ ∀ i r, i < k → t[i]? = some r → okE (2 ^ i) r) (fun k => n - k) 0 ⟨rfl, rfl, rfl, trivial⟩ ⟨inferInstance, Nat.zero_le _, fun _ _ h => nomatch h⟩ ?_
  rintro k W3 ⟨_, hk, hd⟩
  refine J.seq <| J.reg rfl <| O.lt rfl rfl <| JO.nil <| J.seq <| J.condD rfl (fun h8 => ?_) (fun h8 => ?_)
  · skip
    obtain ⟨u, hu⟩ : ∃ u, t[k]? = some u := ⟨_, List.getElem?_eq_getElem (by omega)⟩
    refine J.skip <| J.seq <| J.block <| J.seq <| J.reg rfl <| O.mv rfl <| O.ix (r := RE) (j := k) rfl rfl rfl h.to hu rfl rfl (fun _ => rfl) fun a v hv => ?_
    obtain ⟨pu, nu, cu, rfl, hsu⟩ := hv.sl
    refine O.as rfl <| O.as rfl <| JO.nil <| J.seq <| J.reg rfl <| O.mv rfl <| O.mv rfl <| O.shl rfl rfl (by omega) (shl1 (i := k) (by omega)) <| O.call rfl (tower_numbers_ok hsu.to (hl u (List.mem_of_getElem? hu))) fun W4 v4 i4 e4 h4 => ?_
    obtain ⟨b, rfl, hb⟩ := h4
    refine O.not rfl <| JO.nil <| J.cond rfl (fun h16 => ?_) (fun h16 => ?_)
    · skip
      refine J.seq <| J.reg rfl <| O.as rfl <| JO.nil <| J.ret1 rfl (.tmp rfl) fun W' iE iP => ?_
      exact ⟨false, rfl, fun h => (nomatch h), fun h => by rw [hb.2 (h k u hu)] at h16; cases h16⟩
    · skip
      refine J.skip <| J.bend <| J.reg rfl <| O.add rfl rfl (wI (by omega)) <| O.mv rfl <| JO.nil <| ?_
      have hbt : b = true := by simpa using h16
      exact J.at' (k + 1) ⟨rfl, rfl, rfl, trivial⟩ ⟨⟨inferInstance, by omega, fun i r hi hr => by
        by_cases hik : i = k
        · subst hik; rw [hu] at hr; injection hr with hr; subst hr; exact hb.1 hbt
        · exact hd i r (by omega) hr⟩, by omega⟩
  · skip
    refine J.exit rfl <| J.seq <| J.reg rfl <| O.as rfl <| JO.nil <| J.ret1 rfl (.tmp rfl) fun W' iE iP => ?_
    refine ⟨true, rfl, fun _ i r hr => hd i r ?_ hr, fun _ => rfl⟩
    have : i < t.length := by
      by_cases h : i < t.length
      · exact h
      · rw [List.getElem?_eq_none (by omega)] at hr; cases hr
    omega
theorem tower_Formed_ok {W : GW} {p q : Option Addr} {n c m d : Nat} {t : List (List Raw)} {l : List Raw} (h : Sl RE W p n c t) (h' : Sl RQ W q m d l) (ht : ∀ r ∈ t, ∀ i ∈ r, smallR i) (hl : ∀ i ∈ l, smallR i) (ht4 : t.length ≤ 40) :
    Ok Tryz.prog 38 [.slice p n c, .slice q m d] W fun _ r => ∃ b, r = .bool b ∧ (b = true ↔ okT t ∧ okE (2 ^ t.length) l) := by
  have hn := h.hn
  refine Ok.enter Tryz.func38 rfl rfl rfl rfl fun W0 iEn => ?_
  refine J.seq <| J.reg rfl <| O.as rfl <| JO.nil <| J.seq <| J.reg rfl <| O.mv rfl <| O.call rfl (tower_radicands_ok h.to ht ht4) fun W4 v4 i4 e4 h4 => ?_
  obtain ⟨b, rfl, hb⟩ := h4
  refine O.mv rfl <| ?_
  by_cases hg7 : b = true
  · skip
    refine O.set (t := 7) (.bool true) rfl (by rw [hg7]) <| O.gt rfl rfl <| O.mv rfl <| O.gt rfl rfl <| O.mv rfl <| O.gt rfl rfl <| O.len rfl <| O.gt rfl rfl <| O.shl rfl rfl (by omega) (shl1 (i := n) (by omega)) <| O.gt rfl rfl <| O.call rfl (tower_numbers_ok h'.to hl) fun W5 v5 i5 e5 h5 => ?_
    obtain ⟨b2, rfl, hb2⟩ := h5
    refine O.pickT rfl rfl <| O.as rfl <| JO.nil <| J.ret1 rfl (.tmp rfl) fun W' iE iP => ?_
    exact ⟨_, rfl, by rw [hb2, ← hn]; exact ⟨fun h => ⟨hb.1 hg7, h⟩, fun h => h.2⟩⟩
  · skip
    refine O.set (t := 7) (.bool false) rfl (by rw [Bool.eq_false_iff.2 hg7]) <| O.gs rfl rfl rfl <| O.gs rfl rfl rfl <| O.gs rfl rfl rfl <| O.gs rfl rfl rfl <| O.gs rfl rfl rfl <| O.pickF rfl rfl <| O.as rfl <| JO.nil <| J.ret1 rfl (.tmp rfl) fun W' iE iP => ?_
    exact ⟨false, rfl, fun h => (nomatch h), fun h => absurd (hb.2 h.1) hg7⟩
theorem tower_formed_ok {W : GW} {p q q2 : Option Addr} {n c m d m2 d2 : Nat} {t : List (List Raw)} {l l2 : List Raw} (h : Sl RE W p n c t) (h' : Sl RQ W q m d l) (h2 : Sl RQ W q2 m2 d2 l2) (ht : ∀ r ∈ t, ∀ i ∈ r, smallR i) (hl : ∀ i ∈ l, smallR i) (hl2 : ∀ i ∈ l2, smallR i) (ht4 : t.length ≤ 40) :
    Ok Tryz.prog 57 [.slice p n c, .slice q m d, .slice q2 m2 d2] W fun _ r => ∃ b, r = .bool b ∧ (b = true ↔ okT t ∧ okE (2 ^ t.length) l ∧ okE (2 ^ t.length) l2) := by
  have hn := h.hn
  refine Ok.enter Tryz.func57 rfl rfl rfl rfl fun W0 iEn => ?_
  refine J.seq <| J.reg rfl <| O.as rfl <| JO.nil <| J.seq <| J.reg rfl <| O.mv rfl <| O.mv rfl <| O.call rfl (tower_Formed_ok h.to h'.to ht hl ht4) fun W4 v4 i4 e4 h4 => ?_
  obtain ⟨b, rfl, hb⟩ := h4
  refine O.mv rfl <| ?_
  by_cases hg10 : b = true
  · skip
    refine O.set (t := 10) (.bool true) rfl (by rw [hg10]) <| O.gt rfl rfl <| O.mv rfl <| O.gt rfl rfl <| O.mv rfl <| O.gt rfl rfl <| O.len rfl <| O.gt rfl rfl <| O.shl rfl rfl (by omega) (shl1 (i := n) (by omega)) <| O.gt rfl rfl <| O.call rfl (tower_numbers_ok h2.to hl2) fun W5 v5 i5 e5 h5 => ?_
    obtain ⟨b2, rfl, hb2⟩ := h5
    refine O.pickT rfl rfl <| O.as rfl <| JO.nil <| J.ret1 rfl (.tmp rfl) fun W' iE iP => ?_
    exact ⟨_, rfl, by rw [hb2, ← hn]; exact ⟨fun h => ⟨(hb.1 hg10).1, hn ▸ (hb.1 hg10).2, h⟩, fun h => h.2.2⟩⟩
  · skip
    refine O.set (t := 10) (.bool false) rfl (by rw [Bool.eq_false_iff.2 hg10]) <| O.gs rfl rfl rfl <| O.gs rfl rfl rfl <| O.gs rfl rfl rfl <| O.gs rfl rfl rfl <| O.gs rfl rfl rfl <| O.pickF rfl rfl <| O.as rfl <| JO.nil <| J.ret1 rfl (.tmp rfl) fun W' iE iP => ?_
    exact ⟨false, rfl, fun h => (nomatch h), fun h => absurd (hb.2 ⟨h.1, h.2.1⟩) hg10⟩
end
section
/-- the zero of the type, no number in normal form -/
def rawz : Raw := ((false, []), (false, []))
theorem rawz_at (W : GW) : RQ.At W [.bool false, .slice none 0 0, .bool false, .slice none 0 0] rawz :=
  ⟨[.bool false, .slice none 0 0], [.bool false, .slice none 0 0], rfl, ⟨[.bool false], [.slice none 0 0], rfl, rfl, ⟨none, 0, 0, rfl, nil_sl _ _ _⟩⟩, ⟨[.bool false], [.slice none 0 0], rfl, rfl, ⟨none, 0, 0, rfl, nil_sl _ _ _⟩⟩⟩
theorem fill_end {l : List Raw} {ys : List Raw} (h1 : l.length = ys.length) (h2 : ∀ j, j < ys.length → l[j]? = ys[j]?) : l = ys := by
  apply List.ext_getElem?
  intro i
  by_cases hi : i < ys.length
  · exact h2 i hi
  · rw [List.getElem?_eq_none (by omega), List.getElem?_eq_none (by omega)]
theorem set_ok {l ys : List Raw} {k : Nat} {u : Raw} (hk : k < l.length) (h : ∀ j, j < k → l[j]? = ys[j]?) (hu : ys[k]? = some u) : ∀ j, j < k + 1 → (l.set k u)[j]? = ys[j]? := by
  intro j hj
  by_cases hjk : j = k
  · subst hjk; rw [List.getElem?_set_self hk, hu]
  · rw [List.getElem?_set_ne (fun h => hjk h.symm)]; exact h j (by omega)
theorem tower_zeros_own {W : GW} {n : Nat} (hn : n ≤ 1073741824) :
    Ok Tryz.prog 99 [.int .i64 (n : Int)] W fun W' r => OwnR RQ W W' r (cl (List.replicate n 0)) := by
  have hget : ∀ j, j < n → (cl (List.replicate n 0))[j]? = some (cq 0) := fun j hj => by simp [cl, hj]
  refine Ok.enter Tryz.func99 rfl rfl rfl rfl fun W0 iEn => ?_
  refine J.seq <| J.reg rfl <| O.as rfl <| JO.nil <| J.seq <| J.reg rfl <| O.mv rfl <| O.mk (r := RQ) (m := n) (c := n) rawz rfl rfl rfl rfl (by omega) (by omega) (by omega) rfl rfl (by decide) rawz_at fun W2 b2 i2 e2 hb2 ho0 => O.as rfl <| JO.nil <| J.seq <| J.seq <| J.reg rfl <| O.mv rfl <| O.len rfl <| O.mv rfl <| JO.nil <| J.block <| ?_
  refine J.loop (α := Nat × List Raw) (fun q => [(3, .slice (some ⟨b2, 0, none⟩) n n), (8, .int .i64 (n : Int)), (9, .int .i64 (q.1 : Int))]) (fun q W' => Le W0 W' ∧ Ows RQ W' (some ⟨b2, 0, none⟩) n n q.2 ∧ q.1 ≤ n ∧ ∀ j, j < q.1 → q.2[j]? = (cl (List.replicate n 0))[j]?) (fun q => n - q.1) (0, List.replicate n rawz) ⟨rfl, rfl, rfl, trivial⟩ ⟨inferInstance, ho0, Nat.zero_le _, fun _ h => nomatch h⟩ ?_
  rintro ⟨k, lo⟩ W3 ⟨_, ho, hk, hd⟩
  dsimp only at *
  have hlo := ho.hn
  refine J.seq <| J.reg rfl <| O.lt rfl rfl <| JO.nil <| J.seq <| J.condD rfl (fun h10 => ?_) (fun h10 => ?_)
  · skip
    refine J.skip <| J.seq <| J.block <| J.seq <| J.reg rfl <| O.mv rfl <| O.as rfl <| JO.nil <| J.reg rfl <| O.mv rfl <| O.mv rfl <| O.call rfl (rational_FromInt_ok (z := 0) (by decide)) fun W4 v4 i4 e4 h4 => ?_
    have ho4 := ho.ext e4
    refine O.iaB (r := RQ) (j := k) rfl rfl rfl ho4 (by omega) rfl <| O.sto (r := RQ) (j := k) (u := cq 0) rfl rfl ho4 (by omega) h4 rfl (.inl rfl) fun W5 i5 o5 => JO.nil <| J.bend <| J.reg rfl <| O.add rfl rfl (wI (by omega)) <| O.mv rfl <| JO.nil <| ?_
    exact J.at' (k + 1, lo.set k (cq 0)) ⟨rfl, rfl, rfl, trivial⟩ ⟨⟨inferInstance, o5, by show k + 1 ≤ n; omega, set_ok (by omega) hd (hget k (by omega))⟩, by show n - (k + 1) < n - k; omega⟩
  · skip
    refine J.exit rfl <| J.seq <| J.reg rfl <| O.mv rfl <| O.as rfl <| JO.nil <| ?_
    have hkn : k = n := by omega
    have hfin : lo = cl (List.replicate n 0) := fill_end (by rw [cl_length, List.length_replicate]; omega) (fun j hj => hd j (by rw [cl_length, List.length_replicate] at hj; omega))
    rw [hfin] at ho
    refine J.ret1o rfl (.tmp rfl) fun W' iE iO => ?_
    exact ho.ret iE iO
theorem zip_get {xs ys : List Rat} {i : Nat} {x y : Rat} (h : xs[i]? = some x) (k : ys[i]? = some y) : (List.zipWith (· + ·) xs ys)[i]? = some (x + y) := by
  rw [List.getElem?_zipWith, h, k]
theorem rat_get {xs : List Rat} {i : Nat} (h : i < xs.length) : ∃ x, xs[i]? = some x := ⟨_, List.getElem?_eq_getElem h⟩
theorem tower_add_own {W : GW} {p q : Option Addr} {n c m d s s' : Nat} {xs ys : List Rat} (h : Sl RQ W p n c (cl xs)) (h' : Sl RQ W q m d (cl ys)) (hl : xs.length = ys.length) (hn : n ≤ 1073741824) (hx : ∀ x ∈ xs, Qs s x) (hy : ∀ y ∈ ys, Qs s' y) (hs : s + s' + 1 ≤ 17592186044416) :
    Ok Tryz.prog 58 [.slice p n c, .slice q m d] W fun W' r => OwnR RQ W W' r (cl (List.zipWith (· + ·) xs ys)) := by
  have hnn := h.hn
  have hmm := h'.hn
  rw [cl_length] at hnn hmm
  refine Ok.enter Tryz.func58 rfl rfl rfl rfl fun W0 iEn => ?_
  refine J.seq <| J.reg rfl <| O.as rfl <| JO.nil <| J.seq <| J.reg rfl <| O.mv rfl <| O.len rfl <| O.mk (r := RQ) (m := n) (c := n) rawz rfl rfl rfl rfl (by omega) (by omega) (by omega) rfl rfl (by decide) rawz_at fun W2 b2 i2 e2 hb2 ho0 => O.as rfl <| JO.nil <| J.seq <| J.seq <| J.reg rfl <| O.mv rfl <| O.len rfl <| O.mv rfl <| JO.nil <| J.block <| ?_
  refine J.loop (α := Nat × List Raw) (fun g => [(0, .slice p n c), (1, .slice q m d), (5, .slice (some ⟨b2, 0, none⟩) n n), (11, .int .i64 (n : Int)), (12, .int .i64 (g.1 : Int))]) (fun g W' => Le W0 W' ∧ Ows RQ W' (some ⟨b2, 0, none⟩) n n g.2 ∧ g.1 ≤ n ∧ ∀ j, j < g.1 → g.2[j]? = (cl (List.zipWith (· + ·) xs ys))[j]?) (fun g => n - g.1) (0, List.replicate n rawz) ⟨rfl, rfl, rfl, rfl, rfl, trivial⟩ ⟨inferInstance, ho0, Nat.zero_le _, fun _ h => nomatch h⟩ ?_
  rintro ⟨k, lo⟩ W3 ⟨_, ho, hk, hd⟩
  dsimp only at *
  have hlo := ho.hn
  refine J.seq <| J.reg rfl <| O.lt rfl rfl <| JO.nil <| J.seq <| J.condD rfl (fun h13 => ?_) (fun h13 => ?_)
  · skip
    obtain ⟨x, hxk⟩ := rat_get (xs := xs) (i := k) (by omega)
    obtain ⟨y, hyk⟩ := rat_get (xs := ys) (i := k) (by omega)
    obtain ⟨b3, o3, rfl, hj3, hp3⟩ := h.place (cl_get hxk)
    obtain ⟨b4, o4, rfl, hj4, hp4⟩ := h'.place (cl_get hyk)
    refine J.skip <| J.seq <| J.block <| J.seq <| J.reg rfl <| O.mv rfl <| O.as rfl <| JO.nil <| ?_
    refine J.draw [.ex _, .ex _, .ex _, .ex _, .ex _, .rel _, .ex _, .ex _, .ex _, .rel _, .rel _] rfl rfl ⟨fun W1 i1 e1 _ => O.mv rfl <| D.ex, fun W1 i1 e1 _ => O.mv rfl <| D.ex, fun W1 i1 e1 _ => O.mv rfl <| D.ex, fun W1 i1 e1 _ => O.mv rfl <| D.ex, fun W1 i1 e1 _ => O.ia (j := k) rfl rfl rfl hj3 <| D.ex, fun W1 i1 e1 _ => O.ldP (r := RQ) rfl (hp3 _ Lf.s) rfl rfl (fun h => nomatch h) fun v hv => D.rel (R := fun W v => V RQ W v (cq x)) (Ext.refl _) hv V.me, fun W1 i1 e1 _ => O.mv rfl <| D.ex, fun W1 i1 e1 _ => O.mv rfl <| D.ex, fun W1 i1 e1 _ => O.ia (j := k) rfl rfl rfl hj4 <| D.ex, fun W1 i1 e1 _ => O.ldP (r := RQ) rfl (hp4 _ Lf.s) rfl rfl (fun h => nomatch h) fun v hv => D.rel (R := fun W v => V RQ W v (cq y)) (Ext.refl _) hv V.me, fun W1 i1 e1 _ => fun v20 h20 => fun v24 h24 => O.call rfl (rational_Add_ok h20 h24 (hx x (List.mem_of_getElem? hxk)) (hy y (List.mem_of_getElem? hyk)) hs) fun W5 v5 i5 e5 h5 => D.rel (R := fun W v => V RQ W v (cq (x + y))) e5 h5 V.me, trivial⟩ ?_
    intro W1 i1 e1 v20 h20 v24 h24 v25 h25
    have ho4 := ho.ext e1
    refine O.iaB (r := RQ) (j := k) rfl rfl rfl ho4 (by omega) rfl <| O.sto (r := RQ) (j := k) (u := cq (x + y)) rfl rfl ho4 (by omega) h25.to rfl (.inl rfl) fun W5 i5 o5 => JO.nil <| J.bend <| J.reg rfl <| O.add rfl rfl (wI (by omega)) <| O.mv rfl <| JO.nil <| ?_
    exact J.at' (k + 1, lo.set k (cq (x + y))) ⟨rfl, rfl, rfl, rfl, rfl, trivial⟩ ⟨⟨inferInstance, o5, by show k + 1 ≤ n; omega, set_ok (by omega) hd (cl_get (zip_get hxk hyk))⟩, by show n - (k + 1) < n - k; omega⟩
  · skip
    refine J.exit rfl <| J.seq <| J.reg rfl <| O.mv rfl <| O.as rfl <| JO.nil <| ?_
    have hkn : k = n := by omega
    have hzl : (List.zipWith (· + ·) xs ys).length = n := by rw [List.length_zipWith]; omega
    have hfin : lo = cl (List.zipWith (· + ·) xs ys) := fill_end (by rw [cl_length]; omega) (fun j hj => hd j (by rw [cl_length] at hj; omega))
    rw [hfin] at ho
    refine J.ret1o rfl (.tmp rfl) fun W' iE iO => ?_
    exact ho.ret iE iO
theorem map_get {xs : List Rat} {i : Nat} {x : Rat} (h : xs[i]? = some x) : (xs.map (- ·))[i]? = some (-x) := by
  rw [List.getElem?_map, h]; rfl
theorem tower_neg_own {W : GW} {p : Option Addr} {n c s : Nat} {xs : List Rat} (h : Sl RQ W p n c (cl xs)) (hn : n ≤ 1073741824) (hx : ∀ x ∈ xs, Qs s x) (hs : s ≤ 17592186044416) :
    Ok Tryz.prog 94 [.slice p n c] W fun W' r => OwnR RQ W W' r (cl (xs.map (- ·))) := by
  have hnn := h.hn
  rw [cl_length] at hnn
  refine Ok.enter Tryz.func94 rfl rfl rfl rfl fun W0 iEn => ?_
  refine J.seq <| J.reg rfl <| O.as rfl <| JO.nil <| J.seq <| J.reg rfl <| O.mv rfl <| O.len rfl <| O.mk (r := RQ) (m := n) (c := n) rawz rfl rfl rfl rfl (by omega) (by omega) (by omega) rfl rfl (by decide) rawz_at fun W2 b2 i2 e2 hb2 ho0 => O.as rfl <| JO.nil <| J.seq <| J.seq <| J.reg rfl <| O.mv rfl <| O.len rfl <| O.mv rfl <| JO.nil <| J.block <| ?_
  refine J.loop (α := Nat × List Raw) (fun g => [(3, .slice (some ⟨b2, 0, none⟩) n n), (9, .slice p n c), (10, .int .i64 (n : Int)), (11, .int .i64 (g.1 : Int))]) (fun g W' => Le W0 W' ∧ Ows RQ W' (some ⟨b2, 0, none⟩) n n g.2 ∧ g.1 ≤ n ∧ ∀ j, j < g.1 → g.2[j]? = (cl (xs.map (- ·)))[j]?) (fun g => n - g.1) (0, List.replicate n rawz) ⟨rfl, rfl, rfl, rfl, trivial⟩ ⟨inferInstance, ho0, Nat.zero_le _, fun _ h => nomatch h⟩ ?_
  rintro ⟨k, lo⟩ W3 ⟨_, ho, hk, hd⟩
  dsimp only at *
  have hlo := ho.hn
  refine J.seq <| J.reg rfl <| O.lt rfl rfl <| JO.nil <| J.seq <| J.condD rfl (fun h12 => ?_) (fun h12 => ?_)
  · skip
    obtain ⟨x, hxk⟩ := rat_get (xs := xs) (i := k) (by omega)
    refine J.skip <| J.seq <| J.block <| J.seq <| J.reg rfl <| O.mv rfl <| O.ix (r := RQ) (j := k) rfl rfl rfl h.to (cl_get hxk) rfl rfl (fun h => nomatch h) fun a v hv => ?_
    obtain ⟨p1, n1, c1, p2, n2, c2, rfl, h1, h2⟩ := unQ hv
    refine O.allocE fun W5 b5 i5 e5 hl5 hc5 hb5 => ?_
    have ho5 := ho.ext e5
    have hbne : b2 ≠ b5 := by
      rcases ho.h with h0 | ⟨b, cs, T, hp, hA, hm, hb, _⟩
      · have := ho.hc; omega
      · injection hp with hp
        injection hp with hp _ _
        have h9 : b < W3.size := lt_of_heap hb
        have h8 : W3.size ≤ b5 := hb5
        omega
    refine O.as rfl <| ?_
    skip
    refine O.stX rfl rfl hl5 rfl (by simp [oneC, Value.cells]) fun W6 i6 hc6 hf6 hz6 => JO.nil <| J.reg rfl <| O.mv rfl <| O.mv rfl <| ?_
    have ho6 := ho5.only i6.s hf6 hbne
    refine O.ldVw rfl hc6 rfl <| O.call rfl (rational_Neg_ok (x := x) (mkQ h1.to h2.to) ((hx x (List.mem_of_getElem? hxk)).n.len hs)) fun W7 v7 i7 e7 h7 => ?_
    have ho7 := ho6.ext e7
    refine O.iaB (r := RQ) (j := k) rfl rfl rfl ho7 (by omega) rfl <| O.sto (r := RQ) (j := k) (u := cq (-x)) rfl rfl ho7 (by omega) h7 rfl (.inl rfl) fun W8 i8 o8 => JO.nil <| J.bend <| J.reg rfl <| O.add rfl rfl (wI (by omega)) <| O.mv rfl <| JO.nil <| ?_
    exact J.at' (k + 1, lo.set k (cq (-x))) ⟨rfl, rfl, rfl, rfl, trivial⟩ ⟨⟨inferInstance, o8, by show k + 1 ≤ n; omega, set_ok (by omega) hd (cl_get (map_get hxk))⟩, by show n - (k + 1) < n - k; omega⟩
  · skip
    refine J.exit rfl <| J.seq <| J.reg rfl <| O.mv rfl <| O.as rfl <| JO.nil <| ?_
    have hkn : k = n := by omega
    have hfin : lo = cl (xs.map (- ·)) := fill_end (by rw [cl_length, List.length_map]; omega) (fun j hj => hd j (by rw [cl_length, List.length_map] at hj; omega))
    rw [hfin] at ho
    refine J.ret1o rfl (.tmp rfl) fun W' iE iO => ?_
    exact ho.ret iE iO
theorem tower_halves_ok {W : GW} {p : Option Addr} {n c h2 : Nat} {l : List Raw} (h : Sl RQ W p n c l) (hn2 : n = 2 * h2) :
    Ok Tryz.prog 93 [.slice p n c] W fun W' r => ∃ v1 v2, r = .tuple #[v1, v2] ∧ V RE W' v1 (l.take h2) ∧ V RE W' v2 (l.drop h2) := by
  have hc := h.hc
  have hC := h.hC
  have hq : Int.tdiv (n : Int) 2 = (h2 : Int) := by rw [show Int.tdiv (n : Int) 2 = ((n / 2 : Nat) : Int) from rfl]; omega
  have f1 := h.take h2 (by omega)
  have f2 := h.drop h2 (by omega)
  refine Ok.enter Tryz.func93 rfl rfl rfl rfl fun W0 iEn => ?_
  refine J.seq <| J.reg rfl <| O.as rfl <| O.as rfl <| JO.nil <| J.seq <| ?_
  refine J.sub [(0, _)] ⟨rfl, trivial⟩ ?_
  refine J.draw [.ex _, .ex _, .ex _, .ex _, .ex _, .ex _, .ex _, .ex _, .ex _, .ex _, .ex _] rfl rfl ⟨fun W1 i1 e1 _ => O.mv rfl <| D.ex, fun W1 i1 e1 _ => O.mv rfl <| D.ex, fun W1 i1 e1 _ => O.len rfl <| D.ex, fun W1 i1 e1 _ => O.quo (r := (h2 : Int)) rfl rfl (by decide) (by rw [hq]; exact wI (by omega)) <| D.ex, fun W1 i1 e1 _ => O.slh (hi := h2) rfl rfl rfl (by omega) <| D.ex, fun W1 i1 e1 _ => O.mv rfl <| D.ex, fun W1 i1 e1 _ => O.mv rfl <| D.ex, fun W1 i1 e1 _ => O.len rfl <| D.ex, fun W1 i1 e1 _ => O.quo (r := (h2 : Int)) rfl rfl (by decide) (by rw [hq]; exact wI (by omega)) <| D.ex, fun W1 i1 e1 _ => O.sll (lo := h2) rfl rfl rfl (by omega) <| D.ex, fun W1 i1 e1 _ => O.as rfl <| D.ex, trivial⟩ ?_
  intro W1 i1 e1
  refine O.as rfl <| JO.nil <| J.ret2 rfl (.tmp rfl) (.tmp rfl) fun W' iE iP => ?_
  exact ⟨_, _, rfl, f1.to.v, f2.to.v⟩
theorem tower_split_ok {W : GW} {p : Option Addr} {n c : Nat} {t : List (List Raw)} {r : List Raw} (h : Sl RE W p n c (t ++ [r])) :
    Ok Tryz.prog 92 [.slice p n c] W fun W' v => ∃ v1 v2, v = .tuple #[v1, v2] ∧ V RT W' v1 t ∧ V RE W' v2 r := by
  have hn := h.hn
  have hc := h.hc
  have hC := h.hC
  rw [List.length_append, List.length_singleton] at hn
  have f1 := h.take (n - 1) (by omega)
  rw [show n - 1 = t.length from by omega, List.take_left' rfl] at f1
  obtain ⟨b, o, rfl, hj, hp⟩ := h.place (j := t.length) (u := r) (by rw [List.getElem?_append_right (Nat.le_refl _), Nat.sub_self]; rfl)
  refine Ok.enter Tryz.func92 rfl rfl rfl rfl fun W0 iEn => ?_
  refine J.seq <| J.reg rfl <| O.as rfl <| O.as rfl <| JO.nil <| J.seq <| ?_
  refine J.sub [(0, _)] ⟨rfl, trivial⟩ ?_
  refine J.draw [.ex _, .ex _, .ex _, .ex _, .ex _, .ex _, .ex _, .ex _, .ex _, .ex _, .rel _, .ex _] rfl rfl ⟨fun W1 i1 e1 _ => O.mv rfl <| D.ex, fun W1 i1 e1 _ => O.mv rfl <| D.ex, fun W1 i1 e1 _ => O.len rfl <| D.ex, fun W1 i1 e1 _ => O.sb (r := (t.length : Int)) rfl rfl ((wI (by omega)).trans (by omega)) <| D.ex, fun W1 i1 e1 _ => O.slh (hi := t.length) rfl rfl rfl (by omega) <| D.ex, fun W1 i1 e1 _ => O.mv rfl <| D.ex, fun W1 i1 e1 _ => O.mv rfl <| D.ex, fun W1 i1 e1 _ => O.len rfl <| D.ex, fun W1 i1 e1 _ => O.sb (r := (t.length : Int)) rfl rfl ((wI (by omega)).trans (by omega)) <| D.ex, fun W1 i1 e1 _ => O.ia (j := t.length) rfl rfl rfl hj <| D.ex, fun W1 i1 e1 _ => O.ldP (r := RE) rfl (hp _ Lf.s) rfl rfl (fun _ => rfl) fun v hv => D.rel (R := fun W v => V RE W v r) (Ext.refl _) hv V.me, fun W1 i1 e1 _ => O.as rfl <| D.ex, trivial⟩ ?_
  intro W1 i1 e1 v14 h14
  refine O.as rfl <| JO.nil <| J.ret2 rfl (.tmp rfl) (.tmp rfl) fun W' iE iP => ?_
  exact ⟨_, _, rfl, f1.to.v, h14.to⟩
end
section
theorem pow_le {k : Nat} (h : k ≤ 16) : 2 ^ k ≤ 65536 := Nat.pow_le_pow_right (by decide) h
theorem ct_succ {k : Nat} (t : Tw (k + 1)) : ct (toT (k + 1) t) = ct (toT k t.1) ++ [cl (toL k t.2)] := by
  show ct (toT k t.1 ++ [toL k t.2]) = _
  rw [ct, List.map_append]; rfl
theorem cl_halves {k : Nat} (a : El (k + 1)) : (cl (toL (k + 1) a)).take (2 ^ k) = cl (toL k a.1) ∧ (cl (toL (k + 1) a)).drop (2 ^ k) = cl (toL k a.2) := by
  show (cl (toL k a.1 ++ toL k a.2)).take _ = _ ∧ (cl (toL k a.1 ++ toL k a.2)).drop _ = _
  rw [cl_append]
  have h : 2 ^ k = (cl (toL k a.1)).length := by rw [cl_length, toL_length]
  exact ⟨by rw [h, List.take_left' rfl], by rw [h, List.drop_left' rfl]⟩
theorem zero_mul' {k : Nat} {t : Tw k} {a b : El k} (h : (∀ x ∈ toL k a, x = 0) ∨ (∀ x ∈ toL k b, x = 0)) : toL k (mul k t a b) = List.replicate (2 ^ k) 0 := by
  have L := ring k t
  rcases h with h | h
  · rw [(eq_zero_iff k a).2 h, L.zm, toL_zero]
  · rw [(eq_zero_iff k b).2 h, L.mz, toL_zero]
theorem Sz.qs' {p : Nat} {l : List Rat} (h : Sz p l) : ∀ x ∈ l, Qs p x := fun _ hx => h.qs hx
theorem tower_mul0 {W : GW} {p q q2 : Option Addr} {n c m d m2 d2 s s' : Nat} {t : List (List Raw)} {a b : Rat} (h : Sl RE W p n c t) (h' : Sl RQ W q m d (cl [a])) (h2 : Sl RQ W q2 m2 d2 (cl [b])) (ht : t = []) (hqa : Qs s a) (hqb : Qs s' b) (hs : s + s' + 1 ≤ 17592186044416) :
    Ok Tryz.prog 59 [.slice p n c, .slice q m d, .slice q2 m2 d2] W fun W' v => OwnR RQ W W' v (cl [a * b]) := by
  subst ht
  have hn : n = 0 := h.hn
  obtain ⟨b3, o3, rfl, hj3, hp3⟩ := h'.place (j := 0) (u := cq a) rfl
  obtain ⟨b4, o4, rfl, hj4, hp4⟩ := h2.place (j := 0) (u := cq b) rfl
  refine Ok.enter Tryz.func59 rfl rfl rfl rfl fun W0 iEn => ?_
  refine J.seq <| J.reg rfl <| O.as rfl <| JO.nil <| J.seq <| J.block <| J.seq <| J.reg rfl <| O.mv rfl <| O.len rfl <| O.eq rfl rfl <| O.as rfl <| JO.nil <| J.condD rfl (fun h14 => ?_) (fun h14 => ?_)
  · skip
    refine J.seq <| ?_
    refine J.sub [(1, _), (2, _)] ⟨rfl, rfl, trivial⟩ ?_
    refine J.draw [.ex _, .ex _, .rel _, .ex _, .ex _, .rel _, .rel _, .rel _] rfl rfl ⟨fun W1 i1 e1 _ => O.mv rfl <| D.ex, fun W1 i1 e1 _ => O.ia (j := 0) rfl rfl rfl hj3 <| D.ex, fun W1 i1 e1 _ => O.ldP (r := RQ) rfl (hp3 _ Lf.s) rfl rfl (fun h => nomatch h) fun v hv => D.rel (R := fun W v => V RQ W v (cq a)) (Ext.refl _) hv V.me, fun W1 i1 e1 _ => O.mv rfl <| D.ex, fun W1 i1 e1 _ => O.ia (j := 0) rfl rfl rfl hj4 <| D.ex, fun W1 i1 e1 _ => O.ldP (r := RQ) rfl (hp4 _ Lf.s) rfl rfl (fun h => nomatch h) fun v hv => D.rel (R := fun W v => V RQ W v (cq b)) (Ext.refl _) hv V.me, fun W1 i1 e1 _ => fun v20 h20 => fun v23 h23 => O.call rfl (rational_Mul_ok h20 h23 hqa hqb (by omega)) fun W5 v5 i5 e5 h5 => D.rel e5 h5 V.me, fun W1 i1 e1 _ => fun v24 h24 => O.bso (r := RQ) [cq (a * b)] rfl ⟨h24, trivial⟩ rfl rfl rfl (by decide) (.inl rfl) (by decide) fun W6 b6 i6 e6 hb6 o6 => D.rel (R := fun W v => OwnR RQ W0 W v [cq (a * b)]) e6 (by exact ⟨_, _, _, rfl, o6, fun a ha _ => by injection ha with ha; subst ha; exact Nat.le_trans (inferInstance : Le W0 W1).s.size hb6⟩) OwnR.me, trivial⟩ ?_
    intro W1 i1 e1 v20 h20 v23 h23 v24 h24 v25 h25
    obtain ⟨p5, n5, c5, rfl, o5, f5⟩ := h25
    refine O.as rfl <| JO.nil <| J.ret1o rfl (.tmp rfl) fun W' iE iO => ?_
    exact o5.ret iE iO
  · skip
    omega -- done
theorem tower_mul_own {k : Nat} : ∀ {W : GW} {p q q2 : Option Addr} {n c m d m2 d2 r s s' : Nat} {t : Tw k} {a b : El k}, Sl RE W p n c (ct (toT k t)) → Sl RQ W q m d (cl (toL k a)) → Sl RQ W q2 m2 d2 (cl (toL k b)) →
    TS r k t → Sz s (toL k a) → Sz s' (toL k b) → k ≤ 16 → s + s' + cB r k ≤ 8796093022208 →
    Ok Tryz.prog 59 [.slice p n c, .slice q m d, .slice q2 m2 d2] W fun W' v => OwnR RQ W W' v (cl (toL k (mul k t a b))) := by
  induction k with
  | zero =>
    intro W p q q2 n c m d m2 d2 r s s' t a b h h' h2 hT ha hb hk hs
    exact tower_mul0 (a := a) (b := b) h h' h2 rfl (ha.qs (List.mem_singleton.2 rfl)) (hb.qs (List.mem_singleton.2 rfl)) (by omega)
  | succ k ih =>
    intro W p q q2 n c m d m2 d2 r s s' t a b h h' h2 hT ha hb hk hs
    have hn : n = k + 1 := by rw [h.hn, ct, List.length_map, toT_length]
    have hm : m = 2 ^ (k + 1) := by rw [h'.hn, cl_length, toL_length]
    have hm2 : m2 = 2 ^ (k + 1) := by rw [h2.hn, cl_length, toL_length]
    have hp := pow_le hk
    have hp1 : 2 ^ (k + 1) = 2 * 2 ^ k := by rw [Nat.pow_succ]; omega
    have hcB : cB r (k + 1) = 2 * cB r k + r + 1 := rfl
    have hax : Sz s (toL k a.1) := Sz.left ha
    have hay : Sz s (toL k a.2) := Sz.right ha
    have hbx : Sz s' (toL k b.1) := Sz.left hb
    have hby : Sz s' (toL k b.2) := Sz.right hb
    have hlen := toL_length k
    refine Ok.enter Tryz.func59 rfl rfl rfl rfl fun W0 iEn => ?_
    refine J.seq <| J.reg rfl <| O.as rfl <| JO.nil <| J.seq <| J.block <| J.seq <| J.reg rfl <| O.mv rfl <| O.len rfl <| O.eq rfl rfl <| O.as rfl <| JO.nil <| J.condD rfl (fun h14 => ?_) (fun h14 => ?_)
    · skip
      omega -- done
    · skip
      refine J.seq <| J.reg rfl <| O.mv rfl <| O.call rfl (tower_Zero_ok h'.to) fun W4 v4 i4 e4 h4 => ?_
      subst h4
      refine O.mv rfl <| ?_
      by_cases hg29 : ∀ x ∈ toL (k + 1) a, x = 0
      · skip
        refine O.set (t := 29) (.bool true) rfl (by rw [decide_eq_true hg29]) <| O.gs rfl rfl rfl <| O.gs rfl rfl rfl <| O.pickT rfl rfl <| O.as rfl <| JO.nil <| J.condT rfl <| J.seq <| J.reg rfl <| O.mv rfl <| O.len rfl <| O.call rfl (tower_zeros_own (n := m) (by omega)) fun W6 v6 i6 e6 h6 => ?_
        obtain ⟨p6, n6, c6, rfl, o6, f6⟩ := h6
        refine O.as rfl <| JO.nil <| J.ret1o rfl (.tmp rfl) fun W' iE iO => ?_
        have := Ows.ret (W0 := W) o6 iE iO
        rw [hm, ← zero_mul' (t := t) (b := b) (.inl hg29)] at this
        exact this
      · skip
        refine O.set (t := 29) (.bool false) rfl (by rw [decide_eq_false hg29]) <| O.gt rfl rfl <| O.mv rfl <| O.gt rfl rfl <| O.call rfl (tower_Zero_ok h2.to) fun W5 v5 i5 e5 h5 => ?_
        subst h5
        refine O.pickF rfl rfl <| O.as rfl <| JO.nil <| J.condD rfl (fun h26 => ?_) (fun h26 => ?_)
        · skip
          refine J.seq <| J.reg rfl <| O.mv rfl <| O.len rfl <| O.call rfl (tower_zeros_own (n := m) (by omega)) fun W6 v6 i6 e6 h6 => ?_
          obtain ⟨p6, n6, c6, rfl, o6, f6⟩ := h6
          refine O.as rfl <| JO.nil <| J.ret1o rfl (.tmp rfl) fun W' iE iO => ?_
          have := Ows.ret (W0 := W) o6 iE iO
          rw [hm, ← zero_mul' (t := t) (a := a) (.inr h26)] at this
          exact this
        · skip
          refine J.skip <| J.bend <| J.seq <| J.reg rfl <| O.mv rfl <| O.call rfl (tower_split_ok (by rw [← ct_succ]; exact h.to)) fun W6 v6 i6 e6 h6 => ?_
          obtain ⟨v7, v8, rfl, h7, h8⟩ := h6
          obtain ⟨p7, n7, c7, rfl, s7⟩ := h7.sl
          obtain ⟨p8, n8, c8, rfl, s8⟩ := h8.sl
          refine O.mv rfl <| O.ext rfl rfl <| O.ext rfl rfl <| O.as rfl <| O.as rfl <| JO.nil <| J.seq <| J.reg rfl <| O.mv rfl <| O.call rfl (tower_halves_ok h'.to (hm.trans hp1)) fun W9 v9 i9 e9 h9 => ?_
          obtain ⟨v10, v11, rfl, h10, h11⟩ := h9
          rw [(cl_halves _).1] at h10
          rw [(cl_halves _).2] at h11
          obtain ⟨p10, n10, c10, rfl, s10⟩ := h10.sl
          obtain ⟨p11, n11, c11, rfl, s11⟩ := h11.sl
          refine O.mv rfl <| O.ext rfl rfl <| O.ext rfl rfl <| O.as rfl <| O.as rfl <| JO.nil <| J.seq <| J.reg rfl <| O.mv rfl <| O.call rfl (tower_halves_ok h2.to (hm2.trans hp1)) fun W12 v12 i12 e12 h12 => ?_
          obtain ⟨v13, v14, rfl, h13, h14⟩ := h12
          rw [(cl_halves _).1] at h13
          rw [(cl_halves _).2] at h14
          obtain ⟨p13, n13, c13, rfl, s13⟩ := h13.sl
          obtain ⟨p14, n14, c14, rfl, s14⟩ := h14.sl
          refine O.mv rfl <| O.ext rfl rfl <| O.ext rfl rfl <| O.as rfl <| O.as rfl <| JO.nil <| J.seq <| J.reg rfl <| O.mv rfl <| O.mv rfl <| O.mv rfl <| O.call rfl (ih s7.to s10.to s13.to hT.1 hax hbx (by omega) (by omega)).own fun W15 v15 i15 e15 h15 => ?_
          obtain ⟨p15, n15, c15, rfl, s15⟩ := h15.sl
          refine O.mv rfl <| O.mv rfl <| O.mv rfl <| O.mv rfl <| O.call rfl (ih s7.to s11.to s14.to hT.1 hay hby (by omega) (by omega)).own fun W16 v16 i16 e16 h16 => ?_
          obtain ⟨p16, n16, c16, rfl, s16⟩ := h16.sl
          refine O.mv rfl <| O.call rfl (ih s7.to s16.to s8.to hT.1 (hay.mul hT.1 hby) hT.2 (by omega) (by omega)).own fun W17 v17 i17 e17 h17 => ?_
          obtain ⟨p17, n17, c17, rfl, s17⟩ := h17.sl
          have hn15 : n15 = 2 ^ k := by rw [s15.hn, cl_length, hlen]
          refine O.call rfl (tower_add_own s15.to s17.to (by rw [hlen, hlen]) (by omega) (hax.mul hT.1 hbx).qs' ((hay.mul hT.1 hby).mul hT.1 hT.2).qs' (by omega)) fun W18 v18 i18 e18 h18 => ?_
          obtain ⟨p18, n18, c18, rfl, o18, f18⟩ := h18
          have hn18 : n18 = 2 ^ k := by rw [o18.hn, cl_length, ← toL_add, hlen]
          refine O.as rfl <| JO.nil <| J.seq <| J.reg rfl <| O.mv rfl <| O.mv rfl <| O.mv rfl <| O.mv rfl <| O.call rfl (ih s7.to s10.to s14.to hT.1 hax hby (by omega) (by omega)).own fun W19 v19 i19 e19 h19 => ?_
          obtain ⟨p19, n19, c19, rfl, s19⟩ := h19.sl
          refine O.mv rfl <| O.mv rfl <| O.mv rfl <| O.call rfl (ih s7.to s11.to s13.to hT.1 hay hbx (by omega) (by omega)).own fun W20 v20 i20 e20 h20 => ?_
          obtain ⟨p20, n20, c20, rfl, s20⟩ := h20.sl
          have hn19 : n19 = 2 ^ k := by rw [s19.hn, cl_length, hlen]
          refine O.call rfl (tower_add_own s19.to s20.to (by rw [hlen, hlen]) (by omega) (hax.mul hT.1 hby).qs' (hay.mul hT.1 hbx).qs' (by omega)).own fun W21 v21 i21 e21 h21 => ?_
          obtain ⟨p21, n21, c21, rfl, s21⟩ := h21.sl
          have hn21 : n21 = 2 ^ k := by rw [s21.hn, cl_length, ← toL_add, hlen]
          have o21 := ((o18.ext e19).ext e20).ext e21
          refine O.app (r := RQ) rfl rfl o21 s21 rfl rfl (by omega) (by omega) fun W22 p22 c22 i22 o22 => ?_
          rw [← cl_append, ← toL_add, ← toL_add] at o22
          refine O.as rfl <| JO.nil <| J.ret1o rfl (.tmp rfl) fun W' iE iO => ?_
          exact o22.ret iE iO
/-- norm -/
theorem tower_norm_own {k : Nat} {W : GW} {p q : Option Addr} {n c m d r s : Nat} {t : Tw (k + 1)} {a : El (k + 1)} (h : Sl RE W p n c (ct (toT (k + 1) t))) (h' : Sl RQ W q m d (cl (toL (k + 1) a)))
    (hT : TS r (k + 1) t) (ha : Sz s (toL (k + 1) a)) (hk : k + 1 ≤ 16) (hs : nB r k s ≤ 8796093022208) :
    Ok Tryz.prog 52 [.slice p n c, .slice q m d] W fun W' v => OwnR RQ W W' v (cl (toL k (Tow.norm k t a))) := by
  have hm : m = 2 ^ (k + 1) := by rw [h'.hn, cl_length, toL_length]
  have hp := pow_le hk
  have hp1 : 2 ^ (k + 1) = 2 * 2 ^ k := by rw [Nat.pow_succ]; omega
  have hx : Sz s (toL k a.1) := Sz.left ha
  have hy : Sz s (toL k a.2) := Sz.right ha
  have hlen := toL_length k
  have hnb : nB r k s = 4 * s + 3 * cB r k + r + 1 := rfl
  refine Ok.enter Tryz.func52 rfl rfl rfl rfl fun W0 iEn => ?_
  refine J.seq <| J.reg rfl <| O.as rfl <| JO.nil <| J.seq <| J.reg rfl <| O.mv rfl <| O.call rfl (tower_split_ok (by rw [← ct_succ]; exact h.to)) fun W6 v6 i6 e6 h6 => ?_
  obtain ⟨v7, v8, rfl, h7, h8⟩ := h6
  obtain ⟨p7, n7, c7, rfl, s7⟩ := h7.sl
  obtain ⟨p8, n8, c8, rfl, s8⟩ := h8.sl
  refine O.mv rfl <| O.ext rfl rfl <| O.ext rfl rfl <| O.as rfl <| O.as rfl <| JO.nil <| J.seq <| J.reg rfl <| O.mv rfl <| O.call rfl (tower_halves_ok h'.to (hm.trans hp1)) fun W9 v9 i9 e9 h9 => ?_
  obtain ⟨v10, v11, rfl, h10, h11⟩ := h9
  rw [(cl_halves _).1] at h10
  rw [(cl_halves _).2] at h11
  obtain ⟨p10, n10, c10, rfl, s10⟩ := h10.sl
  obtain ⟨p11, n11, c11, rfl, s11⟩ := h11.sl
  refine O.mv rfl <| O.ext rfl rfl <| O.ext rfl rfl <| O.as rfl <| O.as rfl <| JO.nil <| J.seq <| J.reg rfl <| O.mv rfl <| O.mv rfl <| O.mv rfl <| O.call rfl (tower_mul_own s7.to s10.to s10.to hT.1 hx hx (by omega) (by omega)).own fun W15 v15 i15 e15 h15 => ?_
  obtain ⟨p15, n15, c15, rfl, s15⟩ := h15.sl
  refine O.mv rfl <| O.mv rfl <| O.mv rfl <| O.mv rfl <| O.call rfl (tower_mul_own s7.to s11.to s11.to hT.1 hy hy (by omega) (by omega)).own fun W16 v16 i16 e16 h16 => ?_
  obtain ⟨p16, n16, c16, rfl, s16⟩ := h16.sl
  refine O.mv rfl <| O.call rfl (tower_mul_own s7.to s16.to s8.to hT.1 (hy.mul hT.1 hy) hT.2 (by omega) (by omega)).own fun W17 v17 i17 e17 h17 => ?_
  obtain ⟨p17, n17, c17, rfl, s17⟩ := h17.sl
  have hn17 : n17 = 2 ^ k := by rw [s17.hn, cl_length, hlen]
  refine O.call rfl (tower_neg_own s17.to (by omega) ((hy.mul hT.1 hy).mul hT.1 hT.2).qs' (by omega)).own fun W18 v18 i18 e18 h18 => ?_
  obtain ⟨p18, n18, c18, rfl, s18⟩ := h18.sl
  have hn15 : n15 = 2 ^ k := by rw [s15.hn, cl_length, hlen]
  refine O.call rfl (tower_add_own s15.to s18.to (by rw [List.length_map, hlen, hlen]) (by omega) (hx.mul hT.1 hx).qs' ((hy.mul hT.1 hy).mul hT.1 hT.2).neg.qs' (by omega)) fun W19 v19 i19 e19 h19 => ?_
  obtain ⟨p19, n19, c19, rfl, o19, f19⟩ := h19
  rw [← toL_neg, ← toL_add] at o19
  refine O.as rfl <| JO.nil <| J.ret1o rfl (.tmp rfl) fun W' iE iO => ?_
  exact o19.ret iE iO
theorem iB_norm {r k p q : Nat} (h : iB r (k + 1) p ≤ q) : nB r k p ≤ q ∧ p + iB r k (nB r k p) + cB r k ≤ q := by
  have h1 := iB_ge r k (nB r k p)
  have h2 : iB r (k + 1) p = 2 * (p + iB r k (nB r k p) + cB r k) := rfl
  omega
def DivR (x y : Rat) (W' : GW) (r : Value) : Prop := ∃ v1 e, r = .tuple #[v1, .int .i64 e] ∧ ((y = 0 ∧ e = 6 ∧ V RQ W' v1 ((false, []), (false, []))) ∨ (y ≠ 0 ∧ e = 0 ∧ V RQ W' v1 (cq (x / y))))
theorem DivR.me {x y : Rat} : MonoR (DivR x y) := fun _ _ _ e ⟨v1, c, h1, h2⟩ => ⟨v1, c, h1, h2.imp (fun h => ⟨h.1, h.2.1, h.2.2.mono e.toLeS.f⟩) (fun h => ⟨h.1, h.2.1, h.2.2.mono e.toLeS.f⟩)⟩
theorem DivR.fst {W : GW} {x y : Rat} {v : Value} {e : Int} (h : (y = 0 ∧ e = 6 ∧ V RQ W v ((false, []), (false, []))) ∨ (y ≠ 0 ∧ e = 0 ∧ V RQ W v (cq (x / y)))) : ∃ i, V RQ W v i ∧ (y ≠ 0 → i = cq (x / y)) := by
  rcases h with h | h
  · exact ⟨_, h.2.2, fun h0 => absurd h.1 h0⟩
  · exact ⟨_, h.2.2, fun _ => rfl⟩
theorem DivR.snd {W : GW} {x y : Rat} {v : Value} {e : Int} (h : (y = 0 ∧ e = 6 ∧ V RQ W v ((false, []), (false, []))) ∨ (y ≠ 0 ∧ e = 0 ∧ V RQ W v (cq (x / y)))) : Value.int .i64 e = .int .i64 (if y = 0 then 6 else 0) := by
  rcases h with h | h
  · rw [h.2.1, if_pos h.1]
  · rw [h.2.1, if_neg h.1]
/-- inverse, at the bottom -/
theorem tower_inverse0 {W : GW} {p q : Option Addr} {n c m d s : Nat} {t : List (List Raw)} {a : Rat} (h : Sl RE W p n c t) (h' : Sl RQ W q m d (cl [a])) (ht : t = []) (hqa : Qs s a) (hs : s ≤ 8796093022208) :
    Ok Tryz.prog 118 [.slice p n c, .slice q m d] W fun W' v => ∃ v1 b, v = .tuple #[v1, .bool b] ∧ (∃ l, V RE W' v1 l) ∧ b = decide (a ≠ 0) ∧ (a ≠ 0 → V RE W' v1 (cl [1 / a])) := by
  subst ht
  have hn : n = 0 := h.hn
  obtain ⟨b3, o3, rfl, hj3, hp3⟩ := h'.place (j := 0) (u := cq a) rfl
  have hone : Qs 1 ((1 : Int) : Rat) := Qs.int (Zs.one (Nat.le_refl _)) (Nat.le_refl _)
  refine Ok.enter Tryz.func118 rfl rfl rfl rfl fun W0 iEn => ?_
  refine J.seq <| J.reg rfl <| O.as rfl <| O.as rfl <| JO.nil <| J.seq <| J.seq <| J.reg rfl <| O.mv rfl <| O.len rfl <| O.eq rfl rfl <| JO.nil <| J.condD rfl (fun h16 => ?_) (fun h16 => ?_)
  · skip
    refine J.seq <| ?_
    refine J.sub [(1, _)] ⟨rfl, trivial⟩ ?_
    refine J.drawL [.rel _, .ex _, .ex _, .rel _, .rel _, .rel _, .rel _, .rel _, .rel _] 7 rfl rfl ⟨fun W1 i1 e1 _ => O.call rfl (rational_FromInt_ok (z := 1) (by decide)) fun W5 v5 i5 e5 h5 => D.rel e5 h5 V.me, fun W1 i1 e1 _ => O.mv rfl <| D.ex, fun W1 i1 e1 _ => O.ia (j := 0) rfl rfl rfl hj3 <| D.ex, fun W1 i1 e1 _ => O.ldP (r := RQ) rfl (hp3 _ Lf.s) rfl rfl (fun h => nomatch h) fun v hv => D.rel (R := fun W v => V RQ W v (cq a)) (Ext.refl _) hv V.me, fun W1 i1 e1 _ => fun _ _ => fun v21 h21 => fun v18 h18 => O.call rfl (rational_Div_ok h18 h21 hone hqa (by omega)) fun W5 v5 i5 e5 h5 => D.rel (R := DivR 1 a) e5 h5 DivR.me, fun W1 i1 e1 _ => fun v22 h22 => O.mv rfl <| D.rel (R := DivR 1 a) (Ext.refl _) h22 DivR.me, fun W1 i1 e1 _ => fun v17 h17 => (by obtain ⟨v6, ee, rfl, h6⟩ := h17; exact O.ext rfl rfl <| D.rel (R := fun W v => ∃ i, V RQ W v i ∧ (a ≠ 0 → i = cq (1 / a))) (Ext.refl _) (DivR.fst h6) (fun W W' v e ⟨i, h1, h2⟩ => ⟨i, h1.mono e.toLeS.f, h2⟩)), fun W1 i1 e1 _ => fun v17 h17 => (by obtain ⟨v6, ee, rfl, h6⟩ := h17; exact O.ext rfl rfl <| D.rel (R := fun W v => v = .int .i64 (if a = 0 then 6 else 0)) (Ext.refl _) (DivR.snd h6) (fun _ _ _ _ h => h)), fun W1 i1 e1 _ => O.allocE fun W5 b5 i5 e5 hl5 hc5 hb5 => D.rel (R := PLoc 4 W0.size) e5 (by exact ⟨_, rfl, hl5, Nat.le_trans (inferInstance : Le W0 W1).s.size hb5⟩) PLoc.me, trivial⟩ ?_ ?_
    · skip
      intro W1 i1 e1 v18 h18 v21 h21 v22 h22 v17 h17 v23 h23 v24 h24 v6 h6
      subst h24
      obtain ⟨b6, rfl, hl6, hb6⟩ := h6
      obtain ⟨i6, hv6, hi6⟩ := h23
      obtain ⟨pa, na, ca, pb, nb, cb, rfl, sa, sb⟩ := unQ hv6
      skip
      refine O.st rfl rfl hl6.to rfl (by simp [oneC, Value.cells]) fun W7 i7 hc7 => O.as rfl <| JO.nil <| J.seq <| J.reg rfl <| O.ldVw rfl hc7 rfl <| O.bs (r := RQ) [i6] rfl ⟨mkQ sa.to sb.to, trivial⟩ rfl rfl rfl (by decide) (.inl rfl) (by decide) fun W8 p8 i8 e8 s8 => O.mv rfl <| O.eq rfl rfl <| O.as rfl <| O.as rfl <| JO.nil <| J.ret2 rfl (.tmp rfl) (.tmp rfl) fun W' iE iP => ?_
      refine ⟨_, _, rfl, ⟨_, s8.to.v⟩, ?_, fun h0 => by rw [hi6 h0] at s8; exact s8.to.v⟩
      by_cases h0 : a = 0
      · simp [h0]
      · simp [h0]
    · skip
      intro W1 i1 e1 v18 h18 v21 h21 v22 h22 v17 h17 v23 h23 v6 h6
      obtain ⟨b6, rfl, hl6, hb6⟩ := h6
      obtain ⟨i6, hv6, hi6⟩ := h23
      obtain ⟨pa, na, ca, pb, nb, cb, rfl, sa, sb⟩ := unQ hv6
      skip
      refine O.st rfl rfl hl6.to rfl (by simp [oneC, Value.cells]) fun W7 i7 hc7 => ?_
      obtain ⟨v6, ee, rfl, h6⟩ := h17
      have he6 : ee = if a = 0 then 6 else 0 := by have := DivR.snd h6; injection this
      subst he6
      refine O.ext rfl rfl <| O.as rfl <| JO.nil <| J.seq <| J.reg rfl <| O.ldVw rfl hc7 rfl <| O.bs (r := RQ) [i6] rfl ⟨mkQ sa.to sb.to, trivial⟩ rfl rfl rfl (by decide) (.inl rfl) (by decide) fun W8 p8 i8 e8 s8 => O.mv rfl <| O.eq rfl rfl <| O.as rfl <| O.as rfl <| JO.nil <| J.ret2 rfl (.tmp rfl) (.tmp rfl) fun W' iE iP => ?_
      refine ⟨_, _, rfl, ⟨_, s8.to.v⟩, ?_, fun h0 => by rw [hi6 h0] at s8; exact s8.to.v⟩
      by_cases h0 : a = 0
      · simp [h0]
      · simp [h0]
  · skip
    omega -- done
end
section
theorem inv0 (x : Rat) : Tow.inv 0 () x = if x = 0 then none else some (1 / x : Rat) := rfl
/-- inverse -/
theorem tower_inverse_ok {k : Nat} : ∀ {W : GW} {p q : Option Addr} {n c m d r s : Nat} {t : Tw k} {a : El k}, Sl RE W p n c (ct (toT k t)) → Sl RQ W q m d (cl (toL k a)) →
    TS r k t → Sz s (toL k a) → k ≤ 16 → iB r k s ≤ 4398046511104 →
    Ok Tryz.prog 118 [.slice p n c, .slice q m d] W fun W' v => ∃ v1 b, v = .tuple #[v1, .bool b] ∧ (∃ l, V RE W' v1 l) ∧ b = (Tow.inv k t a).isSome ∧ ∀ x, Tow.inv k t a = some x → V RE W' v1 (cl (toL k x)) := by
  induction k with
  | zero =>
    intro W p q n c m d r s t a h h' hT ha hk hs
    have hb : iB r 0 s = s + 1 := rfl
    refine (tower_inverse0 (a := a) h h' rfl (ha.qs (List.mem_singleton.2 rfl)) (by omega)).mono ?_
    rintro W' v _ ⟨v1, b, rfl, h1, h2, h3⟩
    refine ⟨v1, b, rfl, h1, ?_, ?_⟩
    · rw [h2]
      have : ∀ x : Rat, decide (x ≠ 0) = (Tow.inv 0 () x).isSome := by
        intro x
        rw [inv0]
        by_cases h : x = 0
        · rw [if_pos h]; simp [h]; rfl
        · rw [if_neg h]; simp [h]; rfl
      exact this a
    · have : ∀ (y x : Rat), (y ≠ 0 → V RE W' v1 (cl [1 / y])) → Tow.inv 0 () y = some x → V RE W' v1 (cl [x]) := by
        intro y x h3 hx
        rw [inv0] at hx
        by_cases h : y = 0
        · rw [if_pos h] at hx; cases hx
        · rw [if_neg h] at hx
          injection hx with hx
          rw [← hx]
          exact h3 h
      intro x hx
      exact this a x h3 hx
  | succ k ih =>
    intro W p q n c m d r s t a h h' hT ha hk hs
    have hn : n = k + 1 := by rw [h.hn, ct, List.length_map, toT_length]
    have hm : m = 2 ^ (k + 1) := by rw [h'.hn, cl_length, toL_length]
    have hp := pow_le hk
    have hp1 : 2 ^ (k + 1) = 2 * 2 ^ k := by rw [Nat.pow_succ]; omega
    have hx : Sz s (toL k a.1) := Sz.left ha
    have hy : Sz s (toL k a.2) := Sz.right ha
    have hlen := toL_length k
    obtain ⟨hi1, hi2⟩ := iB_norm hs
    have hN := ha.norm hT
    have hge := iB_ge r k (nB r k s)
    refine Ok.enter Tryz.func118 rfl rfl rfl rfl fun W0 iEn => ?_
    refine J.seq <| J.reg rfl <| O.as rfl <| O.as rfl <| JO.nil <| J.seq <| J.seq <| J.reg rfl <| O.mv rfl <| O.len rfl <| O.eq rfl rfl <| JO.nil <| J.condD rfl (fun h16 => ?_) (fun h16 => ?_)
    · skip
      omega -- done
    · skip
      refine J.skip <| J.seq <| J.reg rfl <| O.mv rfl <| O.call rfl (tower_split_ok (by rw [← ct_succ]; exact h.to)) fun W6 v6 i6 e6 h6 => ?_
      obtain ⟨v7, v8, rfl, h7, h8⟩ := h6
      obtain ⟨p7, n7, c7, rfl, s7⟩ := h7.sl
      obtain ⟨p8, n8, c8, rfl, s8⟩ := h8.sl
      refine O.mv rfl <| O.ext rfl rfl <| O.ext rfl rfl <| O.as rfl <| O.as rfl <| JO.nil <| J.seq <| J.reg rfl <| O.mv rfl <| O.mv rfl <| O.mv rfl <| O.call rfl (tower_norm_own h.to h'.to hT ha hk (by omega)).own fun W9 v9 i9 e9 h9 => ?_
      obtain ⟨p9, n9, c9, rfl, s9⟩ := h9.sl
      refine O.call rfl (ih s7.to s9 hT.1 hN (by omega) (by omega)) fun W10 v10 i10 e10 h10 => ?_
      obtain ⟨v11, b11, rfl, h11, hb11, hx11⟩ := h10
      have hinv : Tow.inv (k + 1) t a = match Tow.inv k t.1 (Tow.norm k t a) with | none => none | some x => some (mul k t.1 a.1 x, neg k (mul k t.1 a.2 x)) := rfl
      refine O.mv rfl <| O.ext rfl rfl <| O.ext rfl rfl <| O.as rfl <| O.as rfl <| JO.nil <| J.seq <| J.seq <| J.reg rfl <| O.mv rfl <| O.not rfl <| JO.nil <| J.cond rfl (fun h43 => ?_) (fun h43 => ?_)
      · skip
        refine J.seq <| J.reg rfl <| O.as rfl <| O.as rfl <| JO.nil <| J.ret2 rfl (.tmp rfl) (.tmp rfl) fun W' iE iP => ?_
        have hnone : Tow.inv k t.1 (Tow.norm k t a) = none := by
          rw [hb11] at h43
          cases hh : Tow.inv k t.1 (Tow.norm k t a) with
          | none => rfl
          | some x => rw [hh] at h43; simp at h43
        rw [hnone] at hinv
        exact ⟨_, _, rfl, ⟨[], (nil_sl _ _ _).v⟩, by rw [hinv]; rfl, fun x hx => by rw [hinv] at hx; cases hx⟩
      · skip
        obtain ⟨x, hxx⟩ : ∃ x, Tow.inv k t.1 (Tow.norm k t a) = some x := by
          rw [hb11] at h43
          cases hh : Tow.inv k t.1 (Tow.norm k t a) with
          | none => rw [hh] at h43; simp at h43
          | some x => exact ⟨x, rfl⟩
        rw [hxx] at hinv
        have hv11 := hx11 x hxx
        have hzx := hN.inv hT.1 hxx
        obtain ⟨p11, n11, c11, rfl, s11⟩ := hv11.sl
        refine J.skip <| J.seq <| J.reg rfl <| O.mv rfl <| O.call rfl (tower_halves_ok h'.to (hm.trans hp1)) fun W12 v12 i12 e12 h12 => ?_
        obtain ⟨v13, v14, rfl, h13, h14⟩ := h12
        rw [(cl_halves _).1] at h13
        rw [(cl_halves _).2] at h14
        obtain ⟨p13, n13, c13, rfl, s13⟩ := h13.sl
        obtain ⟨p14, n14, c14, rfl, s14⟩ := h14.sl
        refine O.mv rfl <| O.ext rfl rfl <| O.ext rfl rfl <| O.as rfl <| O.as rfl <| JO.nil <| J.seq <| J.reg rfl <| O.mv rfl <| O.mv rfl <| O.mv rfl <| O.call rfl (tower_mul_own s7.to s13.to s11.to hT.1 hx hzx (by omega) (by omega)) fun W15 v15 i15 e15 h15 => ?_
        obtain ⟨p15, n15, c15, rfl, o15, f15⟩ := h15
        have hn15 : n15 = 2 ^ k := by rw [o15.hn, cl_length, hlen]
        refine O.mv rfl <| O.mv rfl <| O.mv rfl <| O.call rfl (tower_mul_own s7.to s14.to s11.to hT.1 hy hzx (by omega) (by omega)).own fun W16 v16 i16 e16 h16 => ?_
        obtain ⟨p16, n16, c16, rfl, s16⟩ := h16.sl
        have hn16 : n16 = 2 ^ k := by rw [s16.hn, cl_length, hlen]
        refine O.call rfl (tower_neg_own s16.to (by omega) (hy.mul hT.1 hzx).qs' (by omega)).own fun W17 v17 i17 e17 h17 => ?_
        obtain ⟨p17, n17, c17, rfl, s17⟩ := h17.sl
        have hn17 : n17 = 2 ^ k := by rw [s17.hn, cl_length, List.length_map, hlen]
        have o17 := (o15.ext e16).ext e17
        refine O.app (r := RQ) rfl rfl o17 s17 rfl rfl (by omega) (by omega) fun W18 p18 c18 i18 o18 => ?_
        rw [← cl_append, ← toL_neg] at o18
        refine O.as rfl <| O.as rfl <| JO.nil <| J.ret2 rfl (.tmp rfl) (.tmp rfl) fun W' iE iP => ?_
        have hv := (o18.pub iE iP).v
        exact ⟨_, _, rfl, ⟨_, hv⟩, by rw [hinv]; rfl, fun y hy => by rw [hinv] at hy; injection hy with hy; subst hy; exact hv⟩
/-! formed data -/
theorem smallR_cq {p : Nat} {x : Rat} (h : Qs p x) (hp : p ≤ 17592186044416) : smallR (cq x) := ⟨h.n.len hp, by have := h.d.len hp; rwa [Int.natAbs_natCast] at this⟩
theorem small_cl {p : Nat} {xs : List Rat} (h : ∀ x ∈ xs, Qs p x) (hp : p ≤ 17592186044416) : ∀ i ∈ cl xs, smallR i := fun i hi => by
  obtain ⟨x, hx, rfl⟩ := List.mem_map.1 hi
  exact smallR_cq (h x hx) hp
theorem TS.sz {r k : Nat} {t : Tw k} (h : TS r k t) : ∀ l ∈ toT k t, Sz r l := by
  induction k with
  | zero => intro l hl; cases hl
  | succ k ih =>
    intro l hl
    rcases List.mem_append.1 hl with hl | hl
    · exact ih h.1 l hl
    · rw [List.mem_singleton.1 hl]; exact h.2
theorem small_ct {r k : Nat} {t : Tw k} (h : TS r k t) (hp : r ≤ 17592186044416) : ∀ l ∈ ct (toT k t), ∀ i ∈ l, smallR i := fun l hl => by
  obtain ⟨xs, hx, rfl⟩ := List.mem_map.1 hl
  exact small_cl (h.sz xs hx).qs' hp
theorem toT_get {k : Nat} {t : Tw k} {i : Nat} {r : List Rat} (h : (toT k t)[i]? = some r) : r.length = 2 ^ i := by
  induction k with
  | zero => cases h
  | succ k ih =>
    have h' : (toT k t.1 ++ [toL k t.2])[i]? = some r := h
    by_cases hi : i < k
    · rw [List.getElem?_append_left (by rw [toT_length]; exact hi)] at h'
      exact ih h'
    · rw [List.getElem?_append_right (by rw [toT_length]; omega), toT_length] at h'
      by_cases hik : i = k
      · subst hik
        rw [Nat.sub_self] at h'
        injection h' with h'
        rw [← h', toL_length]
      · rw [List.getElem?_eq_none (by simp; omega)] at h'; cases h'
theorem okE_cl {n : Nat} {xs : List Rat} (h : xs.length = n) : okE n (cl xs) := ⟨by rw [cl_length, h], fun i hi => by obtain ⟨x, _, rfl⟩ := List.mem_map.1 hi; exact ⟨x, rfl⟩⟩
theorem okT_ct {k : Nat} (t : Tw k) : okT (ct (toT k t)) := fun i r hr => by
  rw [ct, List.getElem?_map] at hr
  cases h : (toT k t)[i]? with
  | none => rw [h] at hr; cases hr
  | some xs =>
    rw [h] at hr
    injection hr with hr
    rw [← hr]
    exact okE_cl (toT_get h)
theorem ct_length {k : Nat} (t : Tw k) : (ct (toT k t)).length = k := by rw [ct, List.length_map, toT_length]
theorem okE_typed {k : Nat} {l : List Raw} (h : okE (2 ^ k) l) : ∃ a : El k, l = cl (toL k a) := by
  have : ∀ l : List Raw, (∀ i ∈ l, ∃ x, i = cq x) → ∃ xs, l = cl xs := by
    intro l
    induction l with
    | nil => intro _; exact ⟨[], rfl⟩
    | cons i l ih =>
      intro h
      obtain ⟨x, rfl⟩ := h i (List.mem_cons_self ..)
      obtain ⟨xs, rfl⟩ := ih fun j hj => h j (List.mem_cons_of_mem _ hj)
      exact ⟨x :: xs, rfl⟩
  obtain ⟨xs, rfl⟩ := this l h.2
  obtain ⟨a, ha⟩ := exE k xs (by rw [← cl_length]; exact h.1)
  exact ⟨a, by rw [ha]⟩
theorem okT_typed {t : List (List Raw)} (h : okT t) : ∃ w : Tw t.length, t = ct (toT t.length w) := by
  have : ∀ t : List (List Raw), (∀ r ∈ t, ∃ xs, r = cl xs) → ∃ ts, t = ct ts := by
    intro t
    induction t with
    | nil => intro _; exact ⟨[], rfl⟩
    | cons i l ih =>
      intro h
      obtain ⟨x, rfl⟩ := h i (List.mem_cons_self ..)
      obtain ⟨xs, rfl⟩ := ih fun j hj => h j (List.mem_cons_of_mem _ hj)
      exact ⟨x :: xs, rfl⟩
  obtain ⟨ts, hts⟩ := this t (fun r hr => by
    obtain ⟨i, hi⟩ := List.getElem?_of_mem hr
    obtain ⟨a, ha⟩ := okE_typed (h i r hi)
    exact ⟨_, ha⟩)
  obtain ⟨w, hw⟩ := exT t.length ts (by rw [hts, ct, List.length_map]) (fun i r hr => by
    have := h i (cl r) (by rw [hts, ct, List.getElem?_map, hr]; rfl)
    rw [← cl_length]
    exact this.1)
  exact ⟨w, by rw [hw, ← hts]⟩
/-! the functions of the package, on formed data -/
section
variable {W : GW} {p q q2 : Option Addr} {n c m d m2 d2 r s s' k : Nat} {t : Tw k} {a b : El k}
theorem tower_Mul_ok (h : Sl RE W p n c (ct (toT k t))) (h' : Sl RQ W q m d (cl (toL k a))) (h2 : Sl RQ W q2 m2 d2 (cl (toL k b))) (hT : TS r k t) (ha : Sz s (toL k a)) (hb : Sz s' (toL k b)) (hk : k ≤ 16) (hs : s + s' + cB r k ≤ 8796093022208) (hr : r ≤ 17592186044416) :
    Ok Tryz.prog 30 [.slice p n c, .slice q m d, .slice q2 m2 d2] W fun W' v => V RE W' v (cl (toL k (mul k t a b))) := by
  refine Ok.enter Tryz.func30 rfl rfl rfl rfl fun W0 iEn => ?_
  refine J.seq <| J.reg rfl <| O.as rfl <| JO.nil <| J.seq <| J.seq <| J.reg rfl <| O.mv rfl <| O.mv rfl <| O.mv rfl <| O.call rfl (tower_formed_ok h.to h'.to h2.to (small_ct hT hr) (small_cl ha.qs' (by omega)) (small_cl hb.qs' (by omega)) (by rw [ct_length]; omega)) fun W2 v2 i2 e2 g2 => ?_
  obtain ⟨b2, rfl, hb2⟩ := g2
  have hb2' := hb2.2 ⟨okT_ct t, okE_cl (by rw [ct_length, toL_length]), okE_cl (by rw [ct_length, toL_length])⟩
  subst hb2'
  refine O.not rfl <| JO.nil <| J.condF rfl <| J.skip <| J.seq <| J.reg rfl <| O.mv rfl <| O.mv rfl <| O.mv rfl <| O.call rfl (tower_mul_own h.to h'.to h2.to hT ha hb hk hs).own fun W3 v3 i3 e3 h3 => O.as rfl <| JO.nil <| J.ret1 rfl (.tmp rfl) fun W' iE iP => ?_
  exact h3.to
theorem tower_Inv_ok (h : Sl RE W p n c (ct (toT k t))) (h' : Sl RQ W q m d (cl (toL k a))) (hT : TS r k t) (ha : Sz s (toL k a)) (hk : k ≤ 16) (hs : iB r k s ≤ 4398046511104) (hr : r ≤ 17592186044416) :
    Ok Tryz.prog 84 [.slice p n c, .slice q m d] W fun W' v => ∃ v1 e, v = .tuple #[v1, .int .i64 e] ∧ match Tow.inv k t a with
      | none => e = 6 ∧ V RE W' v1 []
      | some x => e = 0 ∧ V RE W' v1 (cl (toL k x)) := by
  have hge := iB_ge r k s
  refine Ok.enter Tryz.func84 rfl rfl rfl rfl fun W0 iEn => ?_
  refine J.seq <| J.reg rfl <| O.as rfl <| O.as rfl <| JO.nil <| J.seq <| J.seq <| J.reg rfl <| O.mv rfl <| O.mv rfl <| O.call rfl (tower_Formed_ok h.to h'.to (small_ct hT hr) (small_cl ha.qs' (by omega)) (by rw [ct_length]; omega)) fun W2 v2 i2 e2 g2 => ?_
  obtain ⟨b2, rfl, hb2⟩ := g2
  have hb2' := hb2.2 ⟨okT_ct t, okE_cl (by rw [ct_length, toL_length])⟩
  subst hb2'
  refine O.not rfl <| JO.nil <| J.condF rfl <| J.skip <| J.seq <| J.reg rfl <| O.mv rfl <| O.mv rfl <| O.call rfl (tower_inverse_ok h.to h'.to hT ha hk hs) fun W3 v3 i3 e3 h3 => ?_
  obtain ⟨v4, b4, rfl, h4, hb4, hx4⟩ := h3
  refine O.mv rfl <| O.ext rfl rfl <| O.ext rfl rfl <| O.as rfl <| O.as rfl <| JO.nil <| J.seq <| J.seq <| J.reg rfl <| O.mv rfl <| O.not rfl <| JO.nil <| J.cond rfl (fun h19 => ?_) (fun h19 => ?_)
  · skip
    refine J.seq <| J.reg rfl <| O.as rfl <| O.as rfl <| JO.nil <| J.ret2 rfl (.tmp rfl) (.tmp rfl) fun W' iE iP => ?_
    refine ⟨_, _, rfl, ?_⟩
    rw [hb4] at h19
    cases hh : Tow.inv k t a with
    | none => exact ⟨rfl, (nil_sl _ _ _).v⟩
    | some x => rw [hh] at h19; simp at h19
  · skip
    refine J.skip <| J.seq <| J.reg rfl <| O.mv rfl <| O.as rfl <| O.as rfl <| JO.nil <| J.ret2 rfl (.tmp rfl) (.tmp rfl) fun W' iE iP => ?_
    refine ⟨_, _, rfl, ?_⟩
    rw [hb4] at h19
    cases hh : Tow.inv k t a with
    | none => rw [hh] at h19; simp at h19
    | some x => exact ⟨rfl, (hx4 x hh).to⟩
end
theorem tower_Norm_ok {W : GW} {p q : Option Addr} {n c m d r s k : Nat} {t : Tw (k + 1)} {a : El (k + 1)} (h : Sl RE W p n c (ct (toT (k + 1) t))) (h' : Sl RQ W q m d (cl (toL (k + 1) a))) (hT : TS r (k + 1) t) (ha : Sz s (toL (k + 1) a)) (hk : k + 1 ≤ 16) (hs : nB r k s ≤ 8796093022208) (hr : r ≤ 17592186044416) :
    Ok Tryz.prog 25 [.slice p n c, .slice q m d] W fun W' v => V RE W' v (cl (toL k (Tow.norm k t a))) := by
  have hge := nB_ge r k s
  have hn : n = k + 1 := by rw [h.hn, ct_length]
  refine Ok.enter Tryz.func25 rfl rfl rfl rfl fun W0 iEn => ?_
  refine J.seq <| J.reg rfl <| O.as rfl <| JO.nil <| J.seq <| J.seq <| J.reg rfl <| O.mv rfl <| O.mv rfl <| O.call rfl (tower_Formed_ok h.to h'.to (small_ct hT hr) (small_cl ha.qs' (by omega)) (by rw [ct_length]; omega)) fun W2 v2 i2 e2 g2 => ?_
  obtain ⟨b2, rfl, hb2⟩ := g2
  have hb2' := hb2.2 ⟨okT_ct t, okE_cl (by rw [ct_length, toL_length])⟩
  subst hb2'
  refine O.not rfl <| O.mv rfl <| O.gt rfl rfl <| O.mv rfl <| O.gt rfl rfl <| O.len rfl <| O.gt rfl rfl <| O.eq rfl rfl <| O.pickF rfl rfl <| JO.nil <| J.condD rfl (fun h13 => ?_) (fun h13 => ?_)
  · skip
    omega -- done
  · skip
    refine J.skip <| J.seq <| J.reg rfl <| O.mv rfl <| O.mv rfl <| O.call rfl (tower_norm_own h.to h'.to hT ha hk hs).own fun W3 v3 i3 e3 h3 => O.as rfl <| JO.nil <| J.ret1 rfl (.tmp rfl) fun W' iE iP => ?_
    exact h3.to
theorem tower_Root_ok {W : GW} {p : Option Addr} {n c r k i : Nat} {t : Tw k} (h : Sl RE W p n c (ct (toT k t))) (hT : TS r k t) (hk : k ≤ 16) (hi : i < k) (hr : r ≤ 17592186044416) :
    Ok Tryz.prog 63 [.slice p n c, .int .i64 (i : Int)] W fun W' v => V RE W' v (cl (toL k (root k i))) := by
  have hn : n = k := by rw [h.hn, ct_length]
  have hp := pow_le hk
  have hpi : 2 ^ i < 2 ^ k := Nat.pow_lt_pow_right (by decide) hi
  have hp0 := Nat.two_pow_pos k
  have hp1 := Nat.two_pow_pos i
  refine Ok.enter Tryz.func63 rfl rfl rfl rfl fun W0 iEn => ?_
  refine J.seq <| J.reg rfl <| O.as rfl <| JO.nil <| J.seq <| J.seq <| J.reg rfl <| O.mv rfl <| O.call rfl (tower_radicands_ok h.to (small_ct hT hr) (by rw [ct_length]; omega)) fun W2 v2 i2 e2 g2 => ?_
  obtain ⟨b2, rfl, hb2⟩ := g2
  have hb2' := hb2.2 (okT_ct t)
  subst hb2'
  refine O.not rfl <| O.mv rfl <| O.gt rfl rfl <| O.mv rfl <| O.gt rfl rfl <| O.lt rfl rfl <| O.set (t := 11) (.bool false) rfl (by simp only [Value.bool.injEq, decide_eq_false_iff_not]; omega) <| O.pickF rfl rfl <| O.mv rfl <| O.gt rfl rfl <| O.mv rfl <| O.gt rfl rfl <| O.mv rfl <| O.gt rfl rfl <| O.len rfl <| O.gt rfl rfl <| O.ge rfl rfl <| O.pickF rfl rfl <| JO.nil <| J.condD rfl (fun h18 => ?_) (fun h18 => ?_)
  · skip
    omega -- done
  · skip
    refine J.skip <| J.seq <| J.reg rfl <| O.mv rfl <| O.len rfl <| O.shl rfl rfl (by omega) (shl1 (i := n) (by omega)) <| O.call rfl (tower_zeros_own (n := 2 ^ n) (by rw [hn]; omega)) fun W3 v3 i3 e3 h3 => ?_
    obtain ⟨p3, n3, c3, rfl, o3, f3⟩ := h3
    have hn3 : n3 = 2 ^ k := by rw [o3.hn, cl_length, List.length_replicate, hn]
    refine O.as rfl <| JO.nil <| J.seq <| ?_
    refine J.sub [(0, _), (1, _), (5, _)] ⟨rfl, rfl, rfl, trivial⟩ ?_
    refine J.draw [.ex _, .ex _, .ex _, .rel _] rfl rfl ⟨fun W1 i1 e1 _ => O.mv rfl <| D.ex, fun W1 i1 e1 _ => O.mv rfl <| D.ex, fun W1 i1 e1 _ => O.shl rfl rfl (by omega) (shl1 (i := i) (by omega)) <| D.ex, fun W1 i1 e1 _ => O.call rfl (rational_FromInt_ok (z := 1) (by decide)) fun W5 v5 i5 e5 h5 => D.rel e5 h5 V.me, trivial⟩ ?_
    intro W1 i1 e1 v26 h26
    have o4 := o3.ext e1
    obtain ⟨b3, rfl⟩ : ∃ b, p3 = some ⟨b, 0, none⟩ := by
      rcases o3.h with h0 | ⟨b, _, _, hp, _⟩
      · have := o3.hc; omega
      · exact ⟨b, hp⟩
    refine O.iaB (r := RQ) (j := 2 ^ i) rfl rfl rfl o4 (by omega) rfl <| O.sto (r := RQ) (j := 2 ^ i) (u := cq 1) rfl rfl o4 (by omega) h26.to rfl (.inl rfl) fun W5 i5 o5 => JO.nil <| J.seq <| J.reg rfl <| O.mv rfl <| O.as rfl <| JO.nil <| J.ret1 rfl (.tmp rfl) fun W' iE iP => ?_
    rw [toL_root hi]
    have := (o5.pub iE iP).v
    rw [hn] at this
    rw [cl, List.map_set]
    exact this
end
section
theorem slices_Clone_Rat_own {W : GW} {p : Option Addr} {m c : Nat} {l : List Raw} (h : Sl RQ W p m c l) (hl : l.length ≤ 1073741824) :
    Ok Tryz.prog 53 [.slice p m c] W fun W' v => OwnR RQ W W' v l := by
  have hn := h.hn
  refine Ok.enter Tryz.func53 rfl rfl rfl rfl fun W0 iEn => ?_
  refine J.seq <| J.reg rfl <| O.as rfl <| JO.nil <| J.seq <| J.seq <| J.reg rfl <| O.mv rfl <| O.eqnil rfl <| JO.nil <| J.cond rfl (fun h4 => ?_) (fun h4 => ?_)
  · skip
    refine J.seq <| J.reg rfl <| O.as rfl <| JO.nil <| J.ret1o rfl (.tmp rfl) fun W' iE iO => ?_
    have h0 : l = [] := by
      rcases h.at' with h | ⟨b, off, hp, _⟩
      · exact h
      · rw [hp] at h4; cases h4
    rw [h0]
    exact ⟨none, 0, 0, rfl, Ows.nil _ _ _, fun a h => nomatch h⟩
  · skip
    refine J.skip <| J.seq <| J.reg rfl <| O.bso (r := RQ) [] (vs := []) rfl trivial rfl rfl rfl (by decide) (.inl rfl) (by decide) fun W2 b2 i2 e2 hb2 o2 => O.mv rfl <| O.app rfl rfl o2 h.to rfl rfl (by omega) (by omega) fun W3 p3 c3 i3 o3 => O.as rfl <| JO.nil <| J.ret1o rfl (.tmp rfl) fun W' iE iO => ?_
    have := Ows.ret (W0 := W) o3 iE iO
    simpa using this
theorem ct_get {t : List (List Rat)} {i : Nat} {r : List Rat} (h : t[i]? = some r) : (ct t)[i]? = some (cl r) := by rw [ct, List.getElem?_map, h]; rfl
end
end Go.Proofs.YtcaikjefkkejbaaGreat
