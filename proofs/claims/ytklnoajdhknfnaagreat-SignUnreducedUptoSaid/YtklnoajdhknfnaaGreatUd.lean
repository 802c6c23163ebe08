/- The order of a real tower, and intervals in it, plain. -/
import Derived.Test.YtklnoajdhknfnaaGreatUa
set_option linter.unusedVariables false
set_option linter.unusedSimpArgs false
namespace Go.Tow
section
variable {α : Type} {add mul : α → α → α} {neg : α → α} {zero one : α} {σ : α → Int} (L : Laws add mul neg zero one) (S : Sgn add mul neg one σ)
include L S
theorem Sgn.le_rf (a : α) : 0 ≤ σ (add a (neg a)) := by rw [L.an, S.s0 L]; exact Int.le_refl _
theorem Sgn.le_tr {a b c : α} (h : 0 ≤ σ (add b (neg a))) (k : 0 ≤ σ (add c (neg b))) : 0 ≤ σ (add c (neg a)) := by
  have e : add c (neg a) = add (add c (neg b)) (add b (neg a)) := (Laws.req L [a, b, c] (.add (.v 2) (.neg (.v 0))) (.add (.add (.v 2) (.neg (.v 1))) (.add (.v 1) (.neg (.v 0)))) (by decide +kernel))
  rw [e]; exact S.sa _ _ k h
theorem Sgn.le_ad {a b c d : α} (h : 0 ≤ σ (add b (neg a))) (k : 0 ≤ σ (add d (neg c))) : 0 ≤ σ (add (add b d) (neg (add a c))) := by
  have e : add (add b d) (neg (add a c)) = add (add b (neg a)) (add d (neg c)) := (Laws.req L [a, b, c, d] (.add (.add (.v 1) (.v 3)) (.neg (.add (.v 0) (.v 2)))) (.add (.add (.v 1) (.neg (.v 0))) (.add (.v 3) (.neg (.v 2)))) (by decide +kernel))
  rw [e]; exact S.sa _ _ h k
theorem Sgn.le_ml {a b c : α} (h : 0 ≤ σ (add b (neg a))) (hc : 0 ≤ σ c) : 0 ≤ σ (add (mul c b) (neg (mul c a))) := by
  have e : add (mul c b) (neg (mul c a)) = mul c (add b (neg a)) := (Laws.req L [a, b, c] (.add (.mul (.v 2) (.v 1)) (.neg (.mul (.v 2) (.v 0)))) (.mul (.v 2) (.add (.v 1) (.neg (.v 0)))) (by decide +kernel))
  rw [e, S.sm]; exact Int.mul_nonneg hc h
theorem Sgn.le_mn {a b c : α} (h : 0 ≤ σ (add b (neg a))) (hc : σ c ≤ 0) : 0 ≤ σ (add (mul c a) (neg (mul c b))) := by
  have e : add (mul c a) (neg (mul c b)) = mul (neg c) (add b (neg a)) := (Laws.req L [a, b, c] (.add (.mul (.v 2) (.v 0)) (.neg (.mul (.v 2) (.v 1)))) (.mul (.neg (.v 2)) (.add (.v 1) (.neg (.v 0)))) (by decide +kernel))
  rw [e, S.sm, S.sn]; exact Int.mul_nonneg (by omega) h
theorem Sgn.le_sq {x y : α} (hx : 0 ≤ σ x) (hy : 0 ≤ σ y) (h : 0 ≤ σ (add (mul y y) (neg (mul x x)))) : 0 ≤ σ (add y (neg x)) := by
  have e : add (mul y y) (neg (mul x x)) = mul (add y (neg x)) (add y x) := (Laws.req L [x, y] (.add (.mul (.v 1) (.v 1)) (.neg (.mul (.v 0) (.v 0)))) (.mul (.add (.v 1) (.neg (.v 0))) (.add (.v 1) (.v 0))) (by decide +kernel))
  rw [e, S.sm] at h
  rcases S.tri (add y (neg x)) with h1 | h1 | h1
  · omega
  · omega
  · have h2 : σ (add x (neg y)) = 1 := by
      have e2 : add x (neg y) = neg (add y (neg x)) := (Laws.req L [x, y] (.add (.v 0) (.neg (.v 1))) (.neg (.add (.v 1) (.neg (.v 0)))) (by decide +kernel))
      rw [e2, S.sn, h1]; rfl
    have h3 := S.sp _ (add y y) h2 (S.sa _ _ hy hy)
    have e3 : add (add x (neg y)) (add y y) = add y x := (Laws.req L [x, y] (.add (.add (.v 0) (.neg (.v 1))) (.add (.v 1) (.v 1))) (.add (.v 1) (.v 0)) (by decide +kernel))
    rw [e3] at h3
    rw [h1, h3] at h
    exact absurd h (by decide)
end
def tw0 : (k : Nat) → Tw k
  | 0 => ()
  | k + 1 => (tw0 k, zero k)
theorem rat_add : ∀ (k : Nat) (x y : Rat), rat k (x + y) = add k (rat k x) (rat k y)
  | 0, _, _ => rfl
  | k + 1, x, y => by
    show (rat k (x + y), zero k) = (add k (rat k x) (rat k y), add k (zero k) (zero k))
    rw [rat_add k, (ring k (tw0 k)).az]
theorem rat_neg : ∀ (k : Nat) (x : Rat), rat k (-x) = neg k (rat k x)
  | 0, _ => rfl
  | k + 1, x => by
    show (rat k (-x), zero k) = (neg k (rat k x), neg k (zero k))
    rw [rat_neg k, (ring k (tw0 k)).nz]
theorem rat_mul : ∀ (k : Nat) (t : Tw k) (x y : Rat), rat k (x * y) = mul k t (rat k x) (rat k y)
  | 0, _, _, _ => rfl
  | k + 1, t, x, y => by
    show up k (rat k (x * y)) = mul (k + 1) t (up k (rat k x)) (up k (rat k y))
    rw [mul_up, rat_mul k t.1]
section
variable {k : Nat} {t : Tw k}
theorem le_ratI (h : real k t) {x y : Rat} : le k t (rat k x) (rat k y) ↔ x ≤ y := by
  unfold le
  rw [← rat_neg, ← rat_add, sgn_rat h]
  rcases sgnQ_tri (y + -x) with ⟨h1, e⟩ | ⟨h1, e⟩ | ⟨h1, e⟩ <;> rw [e]
  · exact ⟨fun _ => by grind, fun _ => by decide⟩
  · exact ⟨fun _ => by grind, fun _ => by decide⟩
  · exact ⟨fun h => absurd h (by decide), fun h => absurd h (by grind)⟩
theorem le_tr (h : real k t) {a b c : El k} (h1 : le k t a b) (h2 : le k t b c) : le k t a c := (sgn_ok h).le_tr (ring k t) h1 h2
theorem nn_iff (h : real k t) {a : El k} : le k t (rat k 0) a ↔ 0 ≤ sgn k t a := by
  unfold le
  rw [rat_zero, (ring k t).nz, (ring k t).az]
/-- an element lies in an interval -/
def inI (k : Nat) (t : Tw k) (a : El k) (x y : Rat) : Prop := le k t (rat k x) a ∧ le k t a (rat k y)
theorem inI_mono (h : real k t) {a : El k} {x y x' y' : Rat} (i : inI k t a x y) (hx : x' ≤ x) (hy : y ≤ y') : inI k t a x' y' :=
  ⟨le_tr h ((le_ratI h).2 hx) i.1, le_tr h i.2 ((le_ratI h).2 hy)⟩
theorem inI_le (h : real k t) {a : El k} {x y : Rat} (i : inI k t a x y) : x ≤ y := (le_ratI h).1 (le_tr h i.1 i.2)
theorem inI_add (h : real k t) {a b : El k} {x y x' y' : Rat} (i : inI k t a x y) (j : inI k t b x' y') : inI k t (add k a b) (x + x') (y + y') := by
  refine ⟨?_, ?_⟩
  · rw [rat_add]; exact (sgn_ok h).le_ad (ring k t) i.1 j.1
  · rw [rat_add]; exact (sgn_ok h).le_ad (ring k t) i.2 j.2
theorem inI_mul (h : real k t) {v s : El k} {a b c d m M : Rat} (i : inI k t v a b) (j : inI k t s c d) (hc : 0 ≤ c) (h1 : m ≤ a * c) (h2 : m ≤ a * d) (h3 : b * c ≤ M) (h4 : b * d ≤ M) : inI k t (mul k t v s) m M := by
  have S := sgn_ok h
  have L := ring k t
  have hs : 0 ≤ sgn k t s := (nn_iff h).1 (le_tr h ((le_ratI h).2 hc) j.1)
  have hsr : ∀ x : Rat, sgn k t (rat k x) = sgnQ x := fun x => sgn_rat h
  refine ⟨?_, ?_⟩
  · have e1 : le k t (mul k t (rat k a) s) (mul k t v s) := by
      rw [L.mc _ s, L.mc _ s]; exact S.le_ml L i.1 hs
    refine le_tr h ?_ e1
    by_cases ha : 0 ≤ a
    · refine le_tr h ((le_ratI h).2 h1) ?_
      rw [rat_mul k t]
      exact S.le_ml L j.1 (by rw [hsr]; rcases sgnQ_tri a with ⟨g, e⟩ | ⟨g, e⟩ | ⟨g, e⟩ <;> rw [e] <;> first | decide | grind)
    · refine le_tr h ((le_ratI h).2 h2) ?_
      rw [rat_mul k t]
      exact S.le_mn L j.2 (by rw [hsr, sgnQ_neg (by grind)]; decide)
  · have e1 : le k t (mul k t v s) (mul k t (rat k b) s) := by
      rw [L.mc _ s, L.mc _ s]; exact S.le_ml L i.2 hs
    refine le_tr h e1 ?_
    by_cases hb : 0 ≤ b
    · refine le_tr h ?_ ((le_ratI h).2 h4)
      rw [rat_mul k t]
      exact S.le_ml L j.2 (by rw [hsr]; rcases sgnQ_tri b with ⟨g, e⟩ | ⟨g, e⟩ | ⟨g, e⟩ <;> rw [e] <;> first | decide | grind)
    · refine le_tr h ?_ ((le_ratI h).2 h3)
      rw [rat_mul k t]
      exact S.le_mn L j.1 (by rw [hsr, sgnQ_neg (by grind)]; decide)
end
section
variable {k : Nat} {t : Tw (k + 1)}
theorem inI_up (h : real k t.1) {a : El k} {x y : Rat} (i : inI k t.1 a x y) : inI (k + 1) t (up k a) x y := by
  have e : ∀ a b : El k, add (k + 1) (up k b) (neg (k + 1) (up k a)) = up k (add k b (neg k a)) := by
    intro a b
    show (add k b (neg k a), add k (zero k) (neg k (zero k))) = (add k b (neg k a), zero k)
    rw [(ring k t.1).an]
  refine ⟨?_, ?_⟩
  · show 0 ≤ sgn (k + 1) t (add (k + 1) (up k a) (neg (k + 1) (up k (rat k x))))
    rw [e, sgn_up _ h]; exact i.1
  · show 0 ≤ sgn (k + 1) t (add (k + 1) (up k (rat k y)) (neg (k + 1) (up k a)))
    rw [e, sgn_up _ h]; exact i.2
/-- the last root -/
def rt1 (k : Nat) : El (k + 1) := (zero k, rat k 1)
theorem rt1_sq : mul (k + 1) t (rt1 k) (rt1 k) = up k t.2 := by
  have L := ring k t.1
  simp only [mul, up, rt1, L.mz, L.zm, L.az, L.za, L.mo, L.om]; rfl
theorem sgn_rt1 (h : real k t.1) : sgn (k + 1) t (rt1 k) = 1 := by
  have S := sgn_ok h
  have h1 : sgn k t.1 (rat k 1) = 1 := S.s1
  have h0 : sgn k t.1 (zero k) = 0 := S.s0 (ring k t.1)
  show (ring k t.1).sx t.2 (sgn k t.1) (zero k, rat k 1) = 1
  unfold Laws.sx
  rw [if_neg (by rw [h1, h0]; decide), if_pos h0, h1]
theorem el_split (a : El (k + 1)) : a = add (k + 1) (up k a.1) (mul (k + 1) t (up k a.2) (rt1 k)) := by
  have L := ring k t.1
  obtain ⟨a, b⟩ := a
  simp only [add, mul, up, rt1, L.mz, L.zm, L.az, L.za, L.mo, L.om]; rfl
theorem in_root (h : real (k + 1) t) {r1 r2 c d : Rat} (i : inI k t.1 t.2 r1 r2) (hc : 0 ≤ c) (hd : 0 ≤ d) (h1 : c * c ≤ r1 ∨ c = 0) (h2 : r2 ≤ d * d) : inI (k + 1) t (rt1 k) c d := by
  have S := sgn_ok h
  have L := ring (k + 1) t
  have hr := sgn_rt1 (t := t) h.1
  have iu := inI_up h.1 i
  have hsr : ∀ x : Rat, 0 ≤ x → 0 ≤ sgn (k + 1) t (rat (k + 1) x) := fun x hx => by
    rw [sgn_rat h]; rcases sgnQ_tri x with ⟨g, e⟩ | ⟨g, e⟩ | ⟨g, e⟩ <;> rw [e] <;> first | decide | grind
  refine ⟨?_, ?_⟩
  · rcases h1 with h1 | rfl
    · refine S.le_sq L (hsr c hc) (by omega) ?_
      rw [← rat_mul, rt1_sq]
      exact le_tr h ((le_ratI h).2 h1) iu.1
    · exact (nn_iff h).2 (by omega)
  · refine S.le_sq L (by omega) (hsr d hd) ?_
    rw [← rat_mul, rt1_sq]
    exact le_tr h iu.2 ((le_ratI h).2 h2)
end
end Go.Tow
