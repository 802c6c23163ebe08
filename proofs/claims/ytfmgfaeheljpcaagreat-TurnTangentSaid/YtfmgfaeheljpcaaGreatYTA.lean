/- Towers of quadratic extensions, as plain data: the arithmetic of pairs, and that it is a commutative ring. No program in sight. -/
set_option linter.unusedVariables false
set_option linter.unusedSimpArgs false
namespace Go.Tow
/-- An element of a tower of height k. -/
def El : Nat → Type
  | 0 => Rat
  | k + 1 => El k × El k
/-- A tower of height k: its radicands. -/
def Tw : Nat → Type
  | 0 => Unit
  | k + 1 => Tw k × El k
def toL : (k : Nat) → El k → List Rat
  | 0, x => [x]
  | k + 1, x => toL k x.1 ++ toL k x.2
def toT : (k : Nat) → Tw k → List (List Rat)
  | 0, _ => []
  | k + 1, t => toT k t.1 ++ [toL k t.2]
def zero : (k : Nat) → El k
  | 0 => (0 : Rat)
  | k + 1 => (zero k, zero k)
/-- a rational number -/
def rat : (k : Nat) → Rat → El k
  | 0, x => x
  | k + 1, x => (rat k x, zero k)
def add : (k : Nat) → El k → El k → El k
  | 0 => fun (x y : Rat) => x + y
  | k + 1 => fun x y => (add k x.1 y.1, add k x.2 y.2)
def neg : (k : Nat) → El k → El k
  | 0 => fun (x : Rat) => -x
  | k + 1 => fun x => (neg k x.1, neg k x.2)
def mul : (k : Nat) → Tw k → El k → El k → El k
  | 0 => fun _ (x y : Rat) => x * y
  | k + 1 => fun t x y => (add k (mul k t.1 x.1 y.1) (mul k t.1 (mul k t.1 x.2 y.2) t.2), add k (mul k t.1 x.1 y.2) (mul k t.1 x.2 y.1))
instance decEl : (k : Nat) → DecidableEq (El k)
  | 0 => inferInstanceAs (DecidableEq Rat)
  | k + 1 => @instDecidableEqProd _ _ (decEl k) (decEl k)
theorem toL_length (k : Nat) (a : El k) : (toL k a).length = 2 ^ k := by
  induction k with
  | zero => rfl
  | succ k ih => simp only [toL, List.length_append, ih, Nat.pow_succ]; omega
theorem toT_length (k : Nat) (t : Tw k) : (toT k t).length = k := by
  induction k with
  | zero => rfl
  | succ k ih => simp only [toT, List.length_append, ih, List.length_singleton]
theorem append_inj' {α : Type} {a b c d : List α} (h : a.length = c.length) (e : a ++ b = c ++ d) : a = c ∧ b = d := List.append_inj e h
theorem toL_inj {k : Nat} {a b : El k} (h : toL k a = toL k b) : a = b := by
  induction k with
  | zero => exact (List.cons.inj h).1
  | succ k ih =>
    obtain ⟨h1, h2⟩ := append_inj' (by rw [toL_length, toL_length]) h
    exact Prod.ext (ih h1) (ih h2)
theorem exE (k : Nat) (l : List Rat) (h : l.length = 2 ^ k) : ∃ a : El k, toL k a = l := by
  induction k generalizing l with
  | zero =>
    match l, h with
    | [x], _ => exact ⟨x, rfl⟩
  | succ k ih =>
    obtain ⟨a, ha⟩ := ih (l.take (2 ^ k)) (by rw [List.length_take, h, Nat.pow_succ]; omega)
    obtain ⟨b, hb⟩ := ih (l.drop (2 ^ k)) (by rw [List.length_drop, h, Nat.pow_succ]; omega)
    exact ⟨(a, b), by show toL k a ++ toL k b = l; rw [ha, hb, List.take_append_drop]⟩
theorem toL_add (k : Nat) (a b : El k) : toL k (add k a b) = List.zipWith (· + ·) (toL k a) (toL k b) := by
  induction k with
  | zero => rfl
  | succ k ih =>
    simp only [toL, add, ih]
    rw [List.zipWith_append (by rw [toL_length, toL_length])]
theorem toL_neg (k : Nat) (a : El k) : toL k (neg k a) = (toL k a).map (- ·) := by
  induction k with
  | zero => rfl
  | succ k ih => simp only [toL, neg, ih, List.map_append]
theorem toL_zero (k : Nat) : toL k (zero k) = List.replicate (2 ^ k) 0 := by
  induction k with
  | zero => rfl
  | succ k ih =>
    simp only [toL, zero, ih]
    rw [List.replicate_append_replicate, Nat.pow_succ]
    congr 1
    omega
theorem toL_rat (k : Nat) (x : Rat) : toL k (rat k x) = x :: List.replicate (2 ^ k - 1) 0 := by
  induction k with
  | zero => rfl
  | succ k ih =>
    simp only [toL, rat, ih, toL_zero, List.cons_append]
    rw [List.replicate_append_replicate, Nat.pow_succ]
    congr 2
    have := Nat.two_pow_pos k
    omega
theorem eq_zero_iff (k : Nat) (a : El k) : a = zero k ↔ ∀ x ∈ toL k a, x = 0 := by
  constructor
  · rintro rfl x hx
    rw [toL_zero] at hx
    exact List.eq_of_mem_replicate hx
  · intro h
    apply toL_inj
    rw [toL_zero]
    exact List.eq_replicate_iff.2 ⟨toL_length k a, h⟩
theorem rat_zero (k : Nat) : rat k 0 = zero k := by
  induction k with
  | zero => rfl
  | succ k ih => simp only [rat, zero, ih]; rfl
/-! the ring -/
/-- A commutative ring. -/
structure Laws {α : Type} (add mul : α → α → α) (neg : α → α) (zero one : α) : Prop where
  ac : ∀ a b, add a b = add b a
  aa : ∀ a b c, add (add a b) c = add a (add b c)
  az : ∀ a, add a zero = a
  an : ∀ a, add a (neg a) = zero
  mc : ∀ a b, mul a b = mul b a
  ma : ∀ a b c, mul (mul a b) c = mul a (mul b c)
  mo : ∀ a, mul a one = a
  md : ∀ a b c, mul a (add b c) = add (mul a b) (mul a c)
section
variable {α : Type} {add mul : α → α → α} {neg : α → α} {zero one : α} (L : Laws add mul neg zero one)
include L
theorem Laws.alc (a b c : α) : add a (add b c) = add b (add a c) := by rw [← L.aa, L.ac a b, L.aa]
theorem Laws.mlc (a b c : α) : mul a (mul b c) = mul b (mul a c) := by rw [← L.ma, L.mc a b, L.ma]
theorem Laws.dm (a b c : α) : mul (add a b) c = add (mul a c) (mul b c) := by rw [L.mc, L.md, L.mc c a, L.mc c b]
theorem Laws.za (a : α) : add zero a = a := by rw [L.ac, L.az]
theorem Laws.om (a : α) : mul one a = a := by rw [L.mc, L.mo]
theorem Laws.cancel {a b c : α} (h : add a c = add b c) : a = b := by
  have : add (add a c) (neg c) = add (add b c) (neg c) := by rw [h]
  rwa [L.aa, L.aa, L.an, L.az, L.az] at this
theorem Laws.mz (a : α) : mul a zero = zero := by
  refine L.cancel (c := mul a zero) ?_
  rw [← L.md, L.za, L.za]
theorem Laws.zm (a : α) : mul zero a = zero := by rw [L.mc, L.mz]
theorem Laws.na (a : α) : add (neg a) a = zero := by rw [L.ac, L.an]
theorem Laws.nu {a b : α} (h : add a b = zero) : b = neg a := L.cancel (c := a) (by rw [L.ac, h, L.na])
theorem Laws.mn (a b : α) : mul a (neg b) = neg (mul a b) := L.nu (by rw [← L.md, L.an, L.mz])
theorem Laws.nm (a b : α) : mul (neg a) b = neg (mul a b) := by rw [L.mc, L.mn, L.mc]
theorem Laws.nn (a : α) : neg (neg a) = a := (L.nu (L.na a)).symm
theorem Laws.nd (a b : α) : neg (add a b) = add (neg a) (neg b) := (L.nu (by
  rw [L.aa, L.alc b, ← L.aa, L.an, L.za, L.an])).symm
theorem Laws.nz : neg zero = zero := (L.nu (L.az zero)).symm
/-- a - b = c - d, said without signs -/
theorem Laws.sub_eq {a b c d : α} (h : add a d = add c b) : add a (neg b) = add c (neg d) := by
  refine L.cancel (c := add b d) ?_
  have e1 : add (add a (neg b)) (add b d) = add a d := by rw [L.aa, ← L.aa (neg b), L.na, L.za]
  have e2 : add (add c (neg d)) (add b d) = add c b := by rw [L.aa, L.alc (neg d), L.na, L.az]
  rw [e1, e2, h]
/-- pairs with a square root of r -/
theorem Laws.quad (r : α) : Laws (α := α × α) (fun x y => (add x.1 y.1, add x.2 y.2)) (fun x y => (add (mul x.1 y.1) (mul (mul x.2 y.2) r), add (mul x.1 y.2) (mul x.2 y.1))) (fun x => (neg x.1, neg x.2)) (zero, zero) (one, zero) where
  ac := fun a b => by simp only [L.ac]
  aa := fun a b c => by simp only [L.aa]
  az := fun a => by simp only [L.az]
  an := fun a => by simp only [L.an]
  mc := fun a b => by
    refine Prod.ext ?_ ?_
    · simp only [L.mc]
    · simp only [L.mc, L.ac]
  ma := fun a b c => by
    refine Prod.ext ?_ ?_
    · simp only [L.md, L.dm, L.ma]
      simp only [L.mc, L.mlc, L.aa, L.ac, L.alc]
    · simp only [L.md, L.dm, L.ma]
      simp only [L.mc, L.mlc, L.aa, L.ac, L.alc]
  mo := fun a => by
    refine Prod.ext ?_ ?_
    · simp only [L.mo, L.mz, L.zm, L.az]
    · simp only [L.mo, L.mz, L.za]
  md := fun a b c => by
    refine Prod.ext ?_ ?_
    · simp only [L.md, L.dm]
      simp only [L.aa, L.ac, L.alc]
    · simp only [L.md, L.dm]
      simp only [L.aa, L.ac, L.alc]
end
theorem ring (k : Nat) (t : Tw k) : Laws (add k) (mul k t) (neg k) (zero k) (rat k 1) := by
  induction k with
  | zero => exact ⟨Rat.add_comm, Rat.add_assoc, Rat.add_zero, Rat.add_neg_cancel, Rat.mul_comm, Rat.mul_assoc, Rat.mul_one, Rat.mul_add⟩
  | succ k ih => exact (ih t.1).quad t.2
/-! the norm, the inverse -/
def norm (k : Nat) (t : Tw (k + 1)) (a : El (k + 1)) : El k := add k (mul k t.1 a.1 a.1) (neg k (mul k t.1 (mul k t.1 a.2 a.2) t.2))
def inv : (k : Nat) → Tw k → El k → Option (El k)
  | 0 => fun _ (x : Rat) => if x = 0 then none else some (1 / x : Rat)
  | k + 1 => fun t a => match inv k t.1 (norm k t a) with
    | none => none
    | some n => some (mul k t.1 a.1 n, neg k (mul k t.1 a.2 n))
theorem norm_mul (k : Nat) (t : Tw (k + 1)) (a b : El (k + 1)) : norm k t (mul (k + 1) t a b) = mul k t.1 (norm k t a) (norm k t b) := by
  have L := ring k t.1
  have h : ∀ x y z w : El k, mul k t.1 (add k x (neg k y)) (add k z (neg k w)) = add k (add k (mul k t.1 x z) (mul k t.1 y w)) (neg k (add k (mul k t.1 x w) (mul k t.1 y z))) := by
    intro x y z w
    simp only [L.md, L.dm, L.mn, L.nm, L.nn, L.nd]
    simp only [L.aa, L.ac, L.alc]
  simp only [norm, mul]
  rw [h]
  refine L.sub_eq ?_
  simp only [L.md, L.dm, L.ma]
  simp only [L.mc, L.mlc, L.aa, L.ac, L.alc]
theorem inv_mul {k : Nat} {t : Tw k} {a b : El k} (h : inv k t a = some b) : mul k t b a = rat k 1 := by
  induction k with
  | zero =>
    have h2 : ∀ x b : Rat, (if x = 0 then none else some (1 / x)) = some b → b * x = 1 := by
      intro x b h
      split at h
      · cases h
      · rename_i hx
        injection h with h
        subst h
        exact Rat.div_mul_cancel hx
    exact h2 a b h
  | succ k ih =>
    have L := ring k t.1
    simp only [inv] at h
    split at h
    · cases h
    · rename_i n hn
      injection h with h
      subst h
      have := ih hn
      refine Prod.ext ?_ ?_
      · show add k (mul k t.1 (mul k t.1 a.1 n) a.1) (mul k t.1 (mul k t.1 (neg k (mul k t.1 a.2 n)) a.2) t.2) = rat k 1
        rw [← this, norm]
        simp only [L.md, L.mn, L.nm]
        simp only [L.ma, L.mc, L.mlc]
      · show add k (mul k t.1 (mul k t.1 a.1 n) a.2) (mul k t.1 (neg k (mul k t.1 a.2 n)) a.1) = zero k
        simp only [L.nm]
        rw [show mul k t.1 (mul k t.1 a.2 n) a.1 = mul k t.1 (mul k t.1 a.1 n) a.2 from by simp only [L.ma, L.mc, L.mlc], L.an]
/-! roots -/
def pr {k : Nat} (a b : El k) : El (k + 1) := (a, b)
/-- the element of the tower above -/
def up (k : Nat) (a : El k) : El (k + 1) := (a, zero k)
def root : (k : Nat) → (i : Nat) → El k
  | 0, _ => (0 : Rat)
  | k + 1, i => if i = k then pr (zero k) (rat k 1) else up k (root k i)
/-- radicand number i -/
def radi : (k : Nat) → Tw k → (i : Nat) → El k
  | 0, _, _ => (0 : Rat)
  | k + 1, t, i => if i = k then up k t.2 else up k (radi k t.1 i)
theorem mul_up (k : Nat) (t : Tw (k + 1)) (a b : El k) : mul (k + 1) t (up k a) (up k b) = up k (mul k t.1 a b) := by
  have L := ring k t.1
  simp only [mul, up, L.mz, L.zm, L.az]; rfl
theorem root_sq {k : Nat} {t : Tw k} {i : Nat} (hi : i < k) : mul k t (root k i) (root k i) = radi k t i := by
  induction k with
  | zero => omega
  | succ k ih =>
    have L := ring k t.1
    by_cases h : i = k
    · rw [root, radi, if_pos h, if_pos h]
      simp only [mul, up, pr, L.mz, L.zm, L.az, L.za, L.mo, L.om]; rfl
    · rw [root, radi, if_neg h, if_neg h, mul_up, ih (by omega)]
theorem toL_root {k i : Nat} (hi : i < k) : toL k (root k i) = (List.replicate (2 ^ k) 0).set (2 ^ i) 1 := by
  induction k with
  | zero => omega
  | succ k ih =>
    have hp : 2 ^ (k + 1) = 2 ^ k + 2 ^ k := by rw [Nat.pow_succ]; omega
    rw [hp, ← List.replicate_append_replicate]
    by_cases h : i = k
    · rw [root, if_pos h]
      subst h
      simp only [toL, pr, toL_zero, toL_rat]
      rw [List.set_append_right _ _ (by simp), List.length_replicate, Nat.sub_self]
      have h0 := Nat.two_pow_pos i
      obtain ⟨m, hm⟩ : ∃ m, 2 ^ i = m + 1 := ⟨2 ^ i - 1, by omega⟩
      rw [hm]
      rfl
    · have hik : i < k := by omega
      have hlt : 2 ^ i < 2 ^ k := Nat.pow_lt_pow_right (by decide) hik
      rw [root, if_neg h]
      simp only [toL, up, toL_zero]
      rw [ih hik, List.set_append_left _ _ (by rw [List.length_replicate]; exact hlt)]
end Go.Tow
