/- Numbers: roots that do not occur are taken out. -/
import Derived.Test.YtfmgfaeheljpcaaGreatYTL
set_option linter.unusedVariables false
set_option linter.unusedSimpArgs false
namespace Go.Tow
open Go Go.Num Go.Proofs.YtfmgfaeheljpcaaGreat
section
/-- the elements of a list whose place has no bit i; p: the first place -/
def woA {α : Type} (i : Nat) : Nat → List α → List α
  | _, [] => []
  | p, x :: l => if p / 2 ^ i % 2 = 0 then x :: woA i (p + 1) l else woA i (p + 1) l
def wo {α : Type} (l : List α) (i : Nat) : List α := woA i 0 l
theorem woA_app {α : Type} {i : Nat} {l m : List α} : ∀ {p : Nat}, woA i p (l ++ m) = woA i p l ++ woA i (p + l.length) m := by
  induction l with
  | nil => intro p; rfl
  | cons x l ih =>
    intro p
    simp only [List.cons_append, woA, ih, List.length_cons, show p + 1 + l.length = p + (l.length + 1) by omega]
    split <;> rfl
theorem woA_sub {α : Type} {i : Nat} {l : List α} : ∀ {p : Nat} {x : α}, x ∈ woA i p l → x ∈ l := by
  induction l with
  | nil => intro p x h; exact h
  | cons y l ih =>
    intro p x h
    simp only [woA] at h
    split at h
    · rcases List.mem_cons.1 h with h | h
      · rw [h]; exact List.mem_cons_self ..
      · exact List.mem_cons_of_mem _ (ih h)
    · exact List.mem_cons_of_mem _ (ih h)
theorem woA_all {α : Type} {i : Nat} {l : List α} : ∀ {p : Nat}, p + l.length ≤ 2 ^ i → woA i p l = l := by
  induction l with
  | nil => intro p _; rfl
  | cons x l ih =>
    intro p h
    simp only [List.length_cons] at h
    simp only [woA]
    rw [if_pos (by rw [Nat.div_eq_of_lt (by omega)]), ih (by omega)]
theorem woA_none {α : Type} {i : Nat} {l : List α} : ∀ {p : Nat}, 2 ^ i ≤ p → p + l.length ≤ 2 * 2 ^ i → woA i p l = [] := by
  induction l with
  | nil => intro p _ _; rfl
  | cons x l ih =>
    intro p h1 h2
    simp only [List.length_cons] at h2
    simp only [woA]
    have : p / 2 ^ i = 1 := by rw [Nat.div_eq_iff (Nat.two_pow_pos i)]; omega
    rw [this, if_neg (by decide), ih (by omega) (by omega)]
theorem woA_per {α : Type} {i : Nat} {l : List α} : ∀ {p q : Nat}, woA i (p + 2 ^ (i + 1) * q) l = woA i p l := by
  induction l with
  | nil => intro p q; rfl
  | cons x l ih =>
    intro p q
    have h : (p + 2 ^ (i + 1) * q) / 2 ^ i % 2 = p / 2 ^ i % 2 := by
      rw [Nat.pow_succ, Nat.mul_assoc, Nat.add_mul_div_left _ _ (Nat.two_pow_pos i), Nat.add_mul_mod_self_left]
    simp only [woA, h, show p + 2 ^ (i + 1) * q + 1 = p + 1 + 2 ^ (i + 1) * q by omega, ih]
/-- a number with bit i in its place that is not 0 -/
def oc (l : List Rat) (i : Nat) : Prop := ∃ p x, l[p]? = some x ∧ p / 2 ^ i % 2 = 1 ∧ x ≠ 0
/-- without root i -/
def rm : (k : Nat) → Nat → El (k + 1) → El k
  | 0, _, a => a.1
  | k + 1, i, a => if i = k + 1 then a.1 else pr (rm k i a.1) (rm k i a.2)
def rmT : (k : Nat) → Nat → Tw (k + 1) → Tw k
  | 0, _, _ => ()
  | k + 1, i, t => if i = k + 1 then t.1 else tsn (rmT k i t.1) (rm k i t.2)
theorem toL_rm : ∀ {k i : Nat} {a : El (k + 1)}, i ≤ k → toL k (rm k i a) = wo (toL (k + 1) a) i := by
  have top : ∀ {k : Nat} {a : El (k + 1)}, toL k a.1 = wo (toL (k + 1) a) k := by
    intro k a
    show _ = woA k 0 (toL k a.1 ++ toL k a.2)
    rw [woA_app, woA_all (by rw [toL_length]; omega), woA_none (by rw [toL_length]; omega) (by rw [toL_length, toL_length]; omega), List.append_nil]
  intro k
  induction k with
  | zero => intro i a h; rw [show i = 0 by omega]; exact top
  | succ k ih =>
    intro i a h
    by_cases e : i = k + 1
    · subst e
      rw [show rm (k + 1) (k + 1) a = a.1 from if_pos rfl]; exact top
    · rw [show rm (k + 1) i a = pr (rm k i a.1) (rm k i a.2) from if_neg e]
      show toL k (rm k i a.1) ++ toL k (rm k i a.2) = woA i 0 (toL (k + 1) a.1 ++ toL (k + 1) a.2)
      rw [ih (by omega), ih (by omega), woA_app, toL_length]
      congr 1
      obtain ⟨d, hd⟩ : ∃ d, k + 1 = i + 1 + d := ⟨k - i, by omega⟩
      have hp : 2 ^ (k + 1) = 2 ^ (i + 1) * 2 ^ d := by rw [hd, Nat.pow_add]
      rw [show wo (toL (k + 1) a.2) i = woA i 0 (toL (k + 1) a.2) from rfl, hp]
      exact woA_per.symm
theorem toT_rmT : ∀ {k i : Nat} {t : Tw (k + 1)}, i ≤ k → toT k (rmT k i t) = (toT (k + 1) t).take i ++ ((toT (k + 1) t).drop (i + 1)).map fun l => wo l i := by
  intro k
  induction k with
  | zero => intro i t h; rw [show i = 0 by omega]; rfl
  | succ k ih =>
    intro i t h
    by_cases e : i = k + 1
    · subst e
      rw [show rmT (k + 1) (k + 1) t = t.1 from if_pos rfl]
      show _ = (toT (k + 1) t.1 ++ [toL (k + 1) t.2]).take (k + 1) ++ ((toT (k + 1) t.1 ++ [toL (k + 1) t.2]).drop (k + 1 + 1)).map _
      rw [List.take_left' (toT_length _ _), List.drop_of_length_le (by rw [List.length_append, toT_length]; exact Nat.le_refl _)]
      simp
    · rw [show rmT (k + 1) i t = tsn (rmT k i t.1) (rm k i t.2) from if_neg e]
      show toT k (rmT k i t.1) ++ [toL k (rm k i t.2)] = (toT (k + 1) t.1 ++ [toL (k + 1) t.2]).take i ++ ((toT (k + 1) t.1 ++ [toL (k + 1) t.2]).drop (i + 1)).map _
      rw [ih (by omega), toL_rm (by omega), List.take_append_of_le_length (by rw [toT_length]; omega), List.drop_append_of_le_length (by rw [toT_length]; omega)]
      simp
theorem _root_.Go.Proofs.YtfmgfaeheljpcaaGreat.TS.rm {r : Nat} : ∀ {k i : Nat} {t : Tw (k + 1)}, i ≤ k → TS r (k + 1) t → TS r k (rmT k i t) := by
  intro k
  induction k with
  | zero => intro i t _ _; trivial
  | succ k ih =>
    intro i t h ht
    by_cases e : i = k + 1
    · rw [show rmT (k + 1) i t = t.1 from if_pos e]; exact ht.1
    · rw [show rmT (k + 1) i t = tsn (rmT k i t.1) (Tow.rm k i t.2) from if_neg e]
      exact ⟨ih (by omega) ht.1, ht.2.sub fun x hx => by
        have hx : x ∈ toL k (Tow.rm k i t.2) := hx
        rw [toL_rm (by omega)] at hx
        exact woA_sub hx⟩
variable {K : Nat} {G : Tw K} {ρ : Nat → El K}
def skip {α : Type} (i : Nat) (ρ : Nat → α) : Nat → α := fun j => if j < i then ρ j else ρ (j + 1)
theorem oc_halves {k i : Nat} {a : El (k + 1)} (h : ¬ oc (toL (k + 1) a) i) : (i = k → a.2 = zero k) ∧ (i < k → ¬ oc (toL k a.1) i ∧ ¬ oc (toL k a.2) i) := by
  have hr : ∀ {p : Nat} {x : Rat}, (toL k a.2)[p]? = some x → (toL (k + 1) a)[2 ^ k + p]? = some x := fun {p x} hx => by
    show (toL k a.1 ++ toL k a.2)[2 ^ k + p]? = _
    rw [List.getElem?_append_right (by rw [toL_length]; omega), toL_length, Nat.add_sub_cancel_left, hx]
  refine ⟨fun e => (eq_zero_iff k a.2).2 fun x hx => Classical.byContradiction fun h0 => h ?_, fun hi => ⟨fun ⟨p, x, h1, h2, h3⟩ => h ⟨p, x, ?_, h2, h3⟩, fun ⟨p, x, h1, h2, h3⟩ => h ⟨2 ^ k + p, x, hr h1, ?_, h3⟩⟩⟩
  · obtain ⟨p, hp⟩ := List.getElem?_of_mem hx
    have hlt := (List.getElem?_eq_some_iff.1 hp).1
    rw [toL_length] at hlt
    refine ⟨2 ^ k + p, x, hr hp, ?_, h0⟩
    rw [e, show (2 ^ k + p) / 2 ^ k = 1 by rw [Nat.div_eq_iff (Nat.two_pow_pos k)]; omega]
  · show (toL k a.1 ++ toL k a.2)[p]? = _
    rw [List.getElem?_append_left (List.getElem?_eq_some_iff.1 h1).1, h1]
  · obtain ⟨d, hd⟩ : ∃ d, k = i + 1 + d := ⟨k - i - 1, by omega⟩
    rw [hd, Nat.pow_add, Nat.pow_succ, Nat.add_comm, Nat.mul_assoc, Nat.add_mul_div_left _ _ (Nat.two_pow_pos i), Nat.add_mul_mod_self_left]
    exact h2
theorem ev_rm : ∀ {k i : Nat} {a : El (k + 1)}, i ≤ k → ¬ oc (toL (k + 1) a) i → ev G (skip i ρ) k (rm k i a) = ev G ρ (k + 1) a := by
  have top : ∀ {k : Nat} {a : El (k + 1)}, ¬ oc (toL (k + 1) a) k → ev G (skip k ρ) k a.1 = ev G ρ (k + 1) a := by
    intro k a h
    show _ = add K (ev G ρ k a.1) (mul K G (ev G ρ k a.2) (ρ k))
    rw [(oc_halves h).1 rfl, ev_zero, (ring K G).zm, (ring K G).az]
    exact ev_congr fun j hj => if_pos hj
  intro k
  induction k with
  | zero => intro i a h ho; obtain rfl : i = 0 := by omega
            exact top ho
  | succ k ih =>
    intro i a h ho
    by_cases e : i = k + 1
    · subst e
      rw [show rm (k + 1) (k + 1) a = a.1 from if_pos rfl]; exact top ho
    · rw [show rm (k + 1) i a = pr (rm k i a.1) (rm k i a.2) from if_neg e]
      obtain ⟨h1, h2⟩ := (oc_halves ho).2 (by omega)
      show add K (ev G (skip i ρ) k (rm k i a.1)) (mul K G (ev G (skip i ρ) k (rm k i a.2)) (skip i ρ k)) = add K (ev G ρ (k + 1) a.1) (mul K G (ev G ρ (k + 1) a.2) (ρ (k + 1)))
      rw [ih (by omega) h1, ih (by omega) h2, show skip i ρ k = ρ (k + 1) from if_neg (by omega)]
theorem ev_ins : ∀ {k i : Nat}, i ≤ k → ∀ w : El k, ∃ w' : El (k + 1), ev G ρ (k + 1) w' = ev G (skip i ρ) k w := by
  intro k
  induction k with
  | zero => intro i h w; exact ⟨up 0 w, ev_up⟩
  | succ k ih =>
    intro i h w
    by_cases e : i = k + 1
    · exact ⟨up (k + 1) w, by rw [ev_up]; exact ev_congr fun j hj => (if_pos (by omega)).symm⟩
    · obtain ⟨w1, h1⟩ := ih (i := i) (by omega) w.1
      obtain ⟨w2, h2⟩ := ih (i := i) (by omega) w.2
      refine ⟨pr w1 w2, ?_⟩
      show add K (ev G ρ (k + 1) w1) (mul K G (ev G ρ (k + 1) w2) (ρ (k + 1))) = add K (ev G (skip i ρ) k w.1) (mul K G (ev G (skip i ρ) k w.2) (skip i ρ k))
      rw [h1, h2, show skip i ρ k = ρ (k + 1) from if_neg (by omega)]
theorem TOk.rm (hG : real K G) {S : List (El K)} : ∀ {k i : Nat} {t : Tw (k + 1)}, i ≤ k → TOk G S (k + 1) t ρ → (∀ j l, i < j → (toT (k + 1) t)[j]? = some l → ¬ oc l i) → TOk G S k (rmT k i t) (skip i ρ) := by
  have top : ∀ {k : Nat} {t : Tw (k + 1)}, TOk G S (k + 1) t ρ → TOk G S k t.1 (skip k ρ) := fun {k t} h =>
    ⟨h.r.1, h.h.1.congr fun i hi => (if_pos hi).symm, fun i hi => by show (if i < k then ρ i else ρ (i + 1)) ∈ S; rw [if_pos hi]; exact h.s i (by omega)⟩
  intro k
  induction k with
  | zero => intro i t h ht ho; obtain rfl : i = 0 := by omega
            exact top ht
  | succ k ih =>
    intro i t h ht ho
    by_cases e : i = k + 1
    · subst e
      rw [show rmT (k + 1) (k + 1) t = t.1 from if_pos rfl]; exact top ht
    · rw [show rmT (k + 1) i t = tsn (rmT k i t.1) (Tow.rm k i t.2) from if_neg e]
      have ht1 : TOk G S (k + 1) t.1 ρ := ⟨ht.r.1, ht.h.1, fun i hi => ht.s i (by omega)⟩
      have hget : ∀ j : Nat, (toT (k + 2) t)[j]? = (toT (k + 1) t.1 ++ [toL (k + 1) t.2])[j]? := fun _ => rfl
      have hi := ih (by omega) ht1 fun j l hj hl => ho j l hj (by rw [hget, List.getElem?_append_left (List.getElem?_eq_some_iff.1 hl).1, hl])
      have h2 : ¬ oc (toL (k + 1) t.2) i := ho (k + 1) _ (by omega) (by rw [hget, List.getElem?_append_right (by rw [toT_length]; exact Nat.le_refl _), toT_length, Nat.sub_self]; rfl)
      have hv := ev_rm (G := G) (ρ := ρ) (a := t.2) (show i ≤ k by omega) h2
      have hs : skip i ρ k = ρ (k + 1) := if_neg (by omega)
      refine ⟨⟨hi.r, ?_, fun ⟨w, hw⟩ => ?_⟩, ⟨hi.h, ?_, ?_⟩, fun j hj => ?_⟩
      · show sgn k (rmT k i t.1) (Tow.rm k i t.2) = 1
        rw [← ev_sgn hG hi.h, hv, ev_sgn hG ht1.h]; exact ht.r.2.1
      · have hw : mul k (rmT k i t.1) w w = Tow.rm k i t.2 := hw
        obtain ⟨w', hw'⟩ := ev_ins (G := G) (ρ := ρ) (show i ≤ k by omega) w
        refine ht.r.2.2 ⟨w', ev_inj hG ht1.h ht1.r ?_⟩
        rw [ev_mul ht1.h, hw', ← ev_mul hi.h, hw, hv]
      · show mul K G (skip i ρ k) (skip i ρ k) = ev G (skip i ρ) k (Tow.rm k i t.2)
        rw [hs, hv]; exact ht.h.2.1
      · rw [hs]; exact ht.h.2.2
      · show (if j < i then ρ j else ρ (j + 1)) ∈ S
        split
        · exact ht.s j (by omega)
        · exact ht.s (j + 1) (by omega)
end
section
/-! roots carried to roots: sizes stay -/
/-- root p does not occur -/
def nO (p : Nat) : (m : Nat) → El m → Prop
  | 0, _ => True
  | m + 1, x => (p = m → x.2 = zero m) ∧ (p ≠ m → nO p m x.1 ∧ nO p m x.2)
/-- root p occurs in every term -/
def yO (p : Nat) : (m : Nat) → El m → Prop
  | 0, x => x = zero 0
  | m + 1, x => (p = m → x.1 = zero m) ∧ (p ≠ m → yO p m x.1 ∧ yO p m x.2)
theorem nO_zero {p : Nat} : ∀ {m : Nat}, nO p m (zero m)
  | 0 => trivial
  | m + 1 => ⟨fun _ => rfl, fun _ => ⟨nO_zero, nO_zero⟩⟩
theorem nO_rat {p : Nat} {x : Rat} : ∀ {m : Nat}, nO p m (rat m x)
  | 0 => trivial
  | m + 1 => ⟨fun _ => rfl, fun _ => ⟨nO_rat, nO_zero⟩⟩
theorem addz (m : Nat) (a : El m) : add m a (zero m) = a := by
  cases m with
  | zero => exact Rat.add_zero a
  | succ m => exact Prod.ext (addz m _) (addz m _)
theorem zadd (m : Nat) (a : El m) : add m (zero m) a = a := by
  cases m with
  | zero => exact Rat.zero_add a
  | succ m => exact Prod.ext (zadd m _) (zadd m _)
theorem nO_add {p : Nat} : ∀ {m : Nat} {x y : El m}, nO p m x → nO p m y → nO p m (add m x y)
  | 0, _, _, _, _ => trivial
  | m + 1, x, y, h, k => ⟨fun e => by show add m x.2 y.2 = _; rw [h.1 e, k.1 e]; exact addz m _, fun e => ⟨nO_add (h.2 e).1 (k.2 e).1, nO_add (h.2 e).2 (k.2 e).2⟩⟩
theorem isD_zero {d n : Nat} (hn : 0 < n) {m : Nat} : IsD d n (toL m (zero m)) := by
  rw [toL_zero]
  exact fun x hx => ⟨0, by rw [(List.mem_replicate.1 hx).2, Rat.zero_mul]; rfl, hn⟩
theorem isD_rat {d n : Nat} (hn : 0 < n) {x : Rat} (h : IsD d n [x]) : ∀ {m : Nat}, IsD d n (toL m (rat m x))
  | 0 => h
  | m + 1 => by show IsD d n (toL m (rat m x) ++ toL m (zero m)); exact (isD_rat hn h).append (isD_zero hn)
theorem isD_add {d n p : Nat} : ∀ {m : Nat} {x y : El m}, p < m → nO p m x → yO p m y → IsD d n (toL m x) → IsD d n (toL m y) → IsD d n (toL m (add m x y))
  | m + 1, x, y, hp, hx, hy, h, k => by
    by_cases e : p = m
    · have e1 := hx.1 e
      have e2 := hy.1 e
      show IsD d n (toL m (add m x.1 y.1) ++ toL m (add m x.2 y.2))
      have ax : add m x.1 (zero m) = x.1 := addz m _
      have az : add m (zero m) y.2 = y.2 := zadd m _
      rw [e1, e2, ax, az]
      exact (IsD.left (m := toL m x.2) h).append (IsD.right (l := toL m y.1) k)
    · show IsD d n (toL m (add m x.1 y.1) ++ toL m (add m x.2 y.2))
      exact (isD_add (by omega) (hx.2 e).1 (hy.2 e).1 (IsD.left (m := toL m x.2) h) (IsD.left (m := toL m y.2) k)).append (isD_add (by omega) (hx.2 e).2 (hy.2 e).2 (IsD.right (l := toL m x.1) h) (IsD.right (l := toL m y.1) k))
theorem mul_nO {d n p : Nat} (hn : 0 < n) : ∀ {m : Nat} {T : Tw m} {x : El m}, p < m → nO p m x → yO p m (mul m T (root m p) x) ∧ (∀ q, q ≠ p → nO q m x → nO q m (mul m T (root m p) x)) ∧ (IsD d n (toL m x) → IsD d n (toL m (mul m T (root m p) x)))
  | m + 1, T, x, hp, hx => by
    have L := ring m T.1
    by_cases e : p = m
    · subst e
      have e1 := hx.1 rfl
      have em : mul (p + 1) T (root (p + 1) p) x = (pr (zero p) x.1 : El (p + 1)) := by
        rw [root_top]
        refine Prod.ext ?_ ?_
        · show add p (mul p T.1 (zero p) x.1) (mul p T.1 (mul p T.1 (rat p 1) x.2) T.2) = zero p
          rw [e1, L.mz, L.zm, L.zm, L.az]
        · show add p (mul p T.1 (zero p) x.2) (mul p T.1 (rat p 1) x.1) = x.1
          rw [L.zm, L.om, L.za]
      rw [em]
      refine ⟨⟨fun _ => rfl, fun h => absurd rfl h⟩, fun q hq h => ⟨fun h2 => absurd h2 hq, fun _ => ⟨nO_zero, (h.2 hq).1⟩⟩, fun h => ?_⟩
      show IsD d n (toL p (zero p) ++ toL p x.1)
      exact (isD_zero hn).append (IsD.left (m := toL p x.2) h)
    · obtain ⟨a1, a2, a3⟩ := mul_nO (d := d) hn (T := T.1) (by omega) (hx.2 e).1
      obtain ⟨b1, b2, b3⟩ := mul_nO (d := d) hn (T := T.1) (by omega) (hx.2 e).2
      have em : mul (m + 1) T (root (m + 1) p) x = (pr (mul m T.1 (root m p) x.1) (mul m T.1 (root m p) x.2) : El (m + 1)) := by
        rw [root_low e]
        refine Prod.ext ?_ ?_
        · show add m (mul m T.1 (root m p) x.1) (mul m T.1 (mul m T.1 (zero m) x.2) T.2) = _
          rw [L.zm, L.zm, L.az]; rfl
        · show add m (mul m T.1 (root m p) x.2) (mul m T.1 (zero m) x.1) = _
          rw [L.zm, L.az]; rfl
      rw [em]
      refine ⟨⟨fun h => absurd h e, fun _ => ⟨a1, b1⟩⟩, fun q hq h => ⟨fun h2 => ?_, fun h2 => ⟨a2 q hq (h.2 h2).1, b2 q hq (h.2 h2).2⟩⟩, fun h => ?_⟩
      · show mul m T.1 (root m p) x.2 = zero m
        rw [h.1 h2, L.mz]
      · show IsD d n (toL m (mul m T.1 (root m p) x.1) ++ toL m (mul m T.1 (root m p) x.2))
        exact (a3 (IsD.left (m := toL m x.2) h)).append (b3 (IsD.right (l := toL m x.1) h))
theorem ev_perm {d n m : Nat} (hn : 0 < n) {T : Tw m} {π : Nat → Nat} : ∀ {j : Nat} {a : El j}, (∀ i, i < j → π i < m) → (∀ i i', i < i' → i' < j → π i ≠ π i') →
    (IsD d n (toL j a) → IsD d n (toL m (ev T (fun i => root m (π i)) j a))) ∧ ∀ q, (∀ i, i < j → q ≠ π i) → nO q m (ev T (fun i => root m (π i)) j a)
  | 0, a, _, _ => ⟨fun h => isD_rat hn h, fun q _ => nO_rat⟩
  | j + 1, a, h1, h2 => by
    have L := ring m T
    obtain ⟨a1, a2⟩ := ev_perm (d := d) hn (T := T) (a := a.1) (fun i hi => h1 i (by omega)) (fun i i' hi hi' => h2 i i' hi (by omega))
    obtain ⟨b1, b2⟩ := ev_perm (d := d) hn (T := T) (a := a.2) (fun i hi => h1 i (by omega)) (fun i i' hi hi' => h2 i i' hi (by omega))
    have hp := h1 j (by omega)
    have hd : ∀ i, i < j → π j ≠ π i := fun i hi e => h2 i j hi (by omega) e.symm
    obtain ⟨c1, c2, c3⟩ := mul_nO (d := d) hn (T := T) hp (b2 (π j) hd)
    have e : ev T (fun i => root m (π i)) (j + 1) a = add m (ev T (fun i => root m (π i)) j a.1) (mul m T (root m (π j)) (ev T (fun i => root m (π i)) j a.2)) := by
      show add m _ (mul m T _ _) = _
      rw [L.mc]
    rw [e]
    exact ⟨fun h => isD_add hp (a2 (π j) hd) c1 (a1 (IsD.left (m := toL j a.2) h)) (c3 (b1 (IsD.right (l := toL j a.1) h))), fun q hq => nO_add (a2 q fun i hi => hq i (by omega)) (c2 q (hq j (by omega)) (b2 q fun i hi => hq i (by omega)))⟩
end
section
theorem toL_smul {b : Rat} : ∀ {m : Nat} {t : Tw m} {y : El m}, toL m (mul m t (rat m b) y) = (toL m y).map (b * ·)
  | 0, _, _ => rfl
  | m + 1, t, y => by
    have L := ring m t.1
    show toL m (add m (mul m t.1 (rat m b) y.1) (mul m t.1 (mul m t.1 (zero m) y.2) t.2)) ++ toL m (add m (mul m t.1 (rat m b) y.2) (mul m t.1 (zero m) y.1)) = (toL m y.1 ++ toL m y.2).map _
    rw [L.zm, L.zm, L.zm, L.az, L.az, toL_smul, toL_smul, List.map_append]
theorem mem_rat {m : Nat} {x : Rat} : x ∈ toL m (rat m x) := by rw [toL_rat]; exact List.mem_cons_self ..
theorem rat_inj {m : Nat} {x y : Rat} (h : rat m x = rat m y) : x = y := by
  have := congrArg (toL m) h
  rw [toL_rat, toL_rat] at this
  injection this
variable {K : Nat} {G : Tw K} {S : List (El K)} {r p : Nat} {ρ : Nat → El K}
/-- the squares of the roots are short numbers -/
def SqOk (G : Tw K) (S : List (El K)) (r p : Nat) : Prop := ∀ g ∈ S, ∃ z, NOk G S r p z (mul K G g g)
theorem TOk.low {k : Nat} {T : Tw (k + 1)} (h : TOk G S (k + 1) T ρ) : TOk G S k T.1 ρ := ⟨h.r.1, h.h.1, fun i hi => h.s i (by omega)⟩
theorem rat_val (hG : red K G) {z : Nm} {x : Rat} (hz : NOk G S r p z (rat K x)) : Sz p [x] := by
  obtain ⟨ρz, h1, h2⟩ := hz.ex
  have : z.a = rat z.k x := ev_inj (red_real hG) h1.h h1.r (by rw [h2, ev_rat])
  have h3 := hz.p
  rw [this] at h3
  exact h3.sub fun y hy => by rw [List.mem_singleton.1 hy]; exact mem_rat
theorem rad0 (hG : red K G) (hq : SqOk G S r p) {T : Tw 1} (h : TOk G S 1 T ρ) : Sz p [(T.2 : Rat)] := by
  obtain ⟨z, hz⟩ := hq _ (h.s 0 (by decide))
  rw [h.h.2.1] at hz
  exact rat_val hG hz
theorem two_coord {a b y0 u : Rat} {d e : Nat} {Z0 Z1 Y0 U : Int} {p P : Nat} (d0 : 0 < d) (d1 : d < 2 ^ p) (e1 : e < 2 ^ P) (e0 : 0 < e) (z01 : (a + b * y0) * (d : Rat) = (Z0 : Rat)) (z02 : Z0.natAbs < 2 ^ p) (z11 : b * u * (d : Rat) = (Z1 : Rat)) (z12 : Z1.natAbs < 2 ^ p)
    (y01 : y0 * (e : Rat) = (Y0 : Rat)) (y02 : Y0.natAbs < 2 ^ P) (u01 : u * (e : Rat) = (U : Rat)) (u02 : U.natAbs < 2 ^ P) (hu0 : u ≠ 0) : Sz (p + P + 1) [a, b] := by
  have hU : U ≠ 0 := fun h => by
    rw [h] at u01
    have : (e : Rat) ≠ 0 := fun h => by
      have : (e : Rat).num = 0 := by rw [h]; rfl
      rw [Rat.num_natCast] at this
      omega
    rcases Rat.mul_eq_zero.1 u01 with h | h
    · exact hu0 h
    · exact this h
  have hUn : 0 < U.natAbs := by omega
  have hpp : 2 ^ (p + P + 1) = 2 * (2 ^ p * 2 ^ P) := by rw [Nat.pow_succ, Nat.pow_add]; omega
  have hpos := Nat.two_pow_pos p
  have hposP := Nat.two_pow_pos P
  have hab : a * ((d : Rat) * (U : Rat)) = ((Z0 * U - Z1 * Y0 : Int) : Rat) := by
    rw [Rat.intCast_sub, Rat.intCast_mul, Rat.intCast_mul]; grind
  have hbb : b * ((d : Rat) * (U : Rat)) = ((Z1 * (e : Int) : Int) : Rat) := by
    rw [Rat.intCast_mul, show (((e : Int)) : Rat) = (e : Rat) from rfl]; grind
  have key : ∀ {x : Rat} {w : Int}, x * ((d : Rat) * (U : Rat)) = (w : Rat) → ∃ w' : Int, x * ((d * U.natAbs : Nat) : Rat) = (w' : Rat) ∧ w'.natAbs = w.natAbs := fun {x w} hx => by
    rcases Int.natAbs_eq U with h | h
    · refine ⟨w, ?_, rfl⟩
      rw [← hx, Rat.natCast_mul]
      congr 2
      exact (congrArg (fun n : Int => (n : Rat)) h).symm
    · refine ⟨-w, ?_, Int.natAbs_neg w⟩
      rw [Rat.intCast_neg, ← hx, Rat.natCast_mul]
      have : (U : Rat) = -((U.natAbs : Nat) : Rat) := by
        conv => lhs; rw [h]
        rw [Rat.intCast_neg]; rfl
      rw [this]; grind
  refine ⟨d * U.natAbs, Nat.mul_pos d0 hUn, ?_, fun x hx => ?_⟩
  · have := Nat.mul_lt_mul'' d1 u02
    omega
  · rcases List.mem_cons.1 hx with hx | hx
    · obtain ⟨w, w1, w2⟩ := key hab
      refine ⟨w, by rw [hx]; exact w1, ?_⟩
      have a1 := Nat.mul_lt_mul'' z02 u02
      have a2 := Nat.mul_lt_mul'' z12 y02
      rw [← Int.natAbs_mul] at a1 a2
      rw [w2]; omega
    · obtain ⟨w, w1, w2⟩ := key hbb
      refine ⟨w, by rw [List.mem_singleton.1 hx]; exact w1, ?_⟩
      have a2 := Nat.mul_lt_mul'' z12 e1
      rw [w2, Int.natAbs_mul, Int.natAbs_natCast]; omega
theorem rad1c (hG : red K G) (hS : S.length ≤ 3) {g : El K} (q a b : Rat) {z : Nm} (hz : NOk G S r p z (add K (rat K a) (mul K G (rat K b) g))) (hq0 : mul K G g g = rat K q) (hq1 : Sz p [q]) (hns : ¬ ∃ y : Rat, y * y = q) : Sz (p + (p + 1 + gC r 3) + 1) [a, b] := by
  have hGr := red_real hG
  have L := ring K G
  by_cases hb : b = (0 : Rat)
  · rw [hb, rat_zero, L.zm, L.az] at hz
    have := rat_val hG hz
    rw [hb]
    obtain ⟨d, d0, d1, d2⟩ := this
    have hp := Nat.pow_le_pow_right (n := 2) (by decide) (show p ≤ p + (p + 1 + gC r 3) + 1 by omega)
    exact ⟨d, d0, by omega, fun x hx => by
      rcases List.mem_cons.1 hx with hx | hx
      · obtain ⟨w, w1, w2⟩ := d2 x (by rw [hx]; exact List.mem_singleton.2 rfl)
        exact ⟨w, w1, by omega⟩
      · exact ⟨0, by rw [List.mem_singleton.1 hx, Rat.zero_mul]; rfl, Nat.two_pow_pos _⟩⟩
  obtain ⟨ρz, h1, h2⟩ := hz.ex
  have hz3 := hz.le hGr hS
  have hb1 : mul K G (rat K (1 / b)) (rat K b) = rat K 1 := by rw [← rat_mul, Rat.div_mul_cancel hb]
  obtain ⟨y, hy⟩ : ∃ y, y = mul z.k z.t (rat z.k (1 / b)) (add z.k z.a (neg z.k (rat z.k a))) := ⟨_, rfl⟩
  have hyv : ev G ρz z.k y = g := by
    rw [hy, ev_mul h1.h, ev_rat, ev_add, ev_neg, ev_rat, h2]
    have e1 : add K (add K (rat K a) (mul K G (rat K b) g)) (neg K (rat K a)) = mul K G (rat K b) g := (Laws.req L [rat K a, mul K G (rat K b) g] (.add (.add (.v 0) (.v 1)) (.neg (.v 0))) (.v 1) (by decide +kernel))
    rw [e1, ← L.ma, hb1, L.om]
  have hyy : mul z.k z.t y y = rat z.k q := ev_inj hGr h1.h h1.r (by rw [ev_mul h1.h, hyv, hq0, ev_rat])
  have hys : Sz (p + 1 + gC r 3) (toL z.k y) := (Sz.rootS hz.r h1.r (Sz.rat z.k (hq1.qs (List.mem_singleton.2 rfl))) hyy).mono (by have := gC_le (r := r) hz3; omega)
  have hza : z.a = add z.k (rat z.k a) (mul z.k z.t (rat z.k b) y) := ev_inj hGr h1.h h1.r (by rw [h2, ev_add, ev_rat, ev_mul h1.h, ev_rat, hyv])
  have hzl : toL z.k z.a = List.zipWith (· + ·) (a :: List.replicate (2 ^ z.k - 1) 0) ((toL z.k y).map (b * ·)) := by rw [hza, toL_add, toL_rat, toL_smul]
  have hyl := toL_length z.k y
  have hk0 := Nat.two_pow_pos z.k
  obtain ⟨y0, ys, hyc⟩ : ∃ y0 ys, toL z.k y = y0 :: ys := by
    cases e : toL z.k y with
    | nil => rw [e] at hyl; simp at hyl; omega
    | cons y0 ys => exact ⟨_, _, rfl⟩
  have hu : ∃ u ∈ ys, u ≠ 0 := Classical.byContradiction fun hn => by
    have hys0 : ys = List.replicate (2 ^ z.k - 1) 0 := List.eq_replicate_iff.2 ⟨by rw [hyc] at hyl; simp at hyl; omega, fun u hu => Classical.byContradiction fun h => hn ⟨u, hu, h⟩⟩
    have e : y = rat z.k y0 := toL_inj (by rw [hyc, hys0, toL_rat])
    rw [e, ← rat_mul] at hyy
    exact hns ⟨y0, rat_inj hyy⟩
  obtain ⟨u, hu1, hu0⟩ := hu
  obtain ⟨i, hi⟩ := List.getElem?_of_mem hu1
  have hil := (List.getElem?_eq_some_iff.1 hi).1
  have hm0 : a + b * y0 ∈ toL z.k z.a := by rw [hzl, hyc]; simp
  have hm1 : b * u ∈ toL z.k z.a := by
    rw [hzl, hyc]
    refine List.mem_of_getElem? (i := i + 1) ?_
    have hyl2 : ys.length = 2 ^ z.k - 1 := by rw [hyc] at hyl; simp at hyl; omega
    simp [List.getElem?_zipWith, hi, List.getElem?_replicate, show i < 2 ^ z.k - 1 by omega, Rat.zero_add]
  obtain ⟨d, d0, d1, d2⟩ := hz.p
  obtain ⟨e, e0, e1, e2⟩ := hys
  obtain ⟨Z0, z01, z02⟩ := d2 _ hm0
  obtain ⟨Z1, z11, z12⟩ := d2 _ hm1
  obtain ⟨Y0, y01, y02⟩ := e2 y0 (by rw [hyc]; exact List.mem_cons_self ..)
  obtain ⟨U, u01, u02⟩ := e2 u (by rw [hyc]; exact List.mem_cons_of_mem _ hu1)
  exact two_coord d0 d1 e1 e0 z01 z02 z11 z12 y01 y02 u01 u02 hu0
theorem rad1 (hG : red K G) (hS : S.length ≤ 3) (hq : SqOk G S r p) {T : Tw 2} (h : TOk G S 2 T ρ) : Sz (p + (p + 1 + gC r 3) + 1) (toL 1 T.2) := by
  obtain ⟨z, hz⟩ := hq _ (h.s 1 (by decide))
  rw [h.h.2.1] at hz
  exact rad1c hG hS (g := ρ 0) T.1.2 T.2.1 T.2.2 hz h.h.1.2.1 (rad0 hG hq h.low) h.r.1.2.2
theorem surj3 (hG : red K G) {k : Nat} {T : Tw k} (h : TOk G S k T ρ) (hS : S.length ≤ k) {s : El K} (hs : s ∈ S) : ∃ i, i < k ∧ ρ i = s := Classical.byContradiction fun hn => by
  have := pigeon (k + 1) S (fun i => if i = k then s else ρ i) (fun i hi => by
    by_cases e : i = k
    · simp only [if_pos e]; exact hs
    · simp only [if_neg e]; exact h.s i (by omega)) (fun i j hij hj => by
    have hi : ¬ i = k := by omega
    by_cases e : j = k
    · simp only [if_pos e, if_neg hi]; exact fun h => hn ⟨i, by omega, h⟩
    · simp only [if_neg e, if_neg hi]; exact h.h.ne (red_real hG) h.r i j hij (by omega))
  omega
theorem rad2 (hG : red K G) (hS : S.length ≤ 3) (hq : SqOk G S r p) {T : Tw 3} (h : TOk G S 3 T ρ) : Sz p (toL 2 T.2) := by
  have hGr := red_real hG
  obtain ⟨z, hz⟩ := hq _ (h.s 2 (by decide))
  rw [h.h.2.1] at hz
  obtain ⟨ρz, h1, h2⟩ := hz.ex
  have : ∀ i, ∃ j, i < z.k → j < 3 ∧ ρ j = ρz i := fun i => by
    by_cases hi : i < z.k
    · obtain ⟨j, j1, j2⟩ := surj3 hG h hS (h1.s i hi); exact ⟨j, fun _ => ⟨j1, j2⟩⟩
    · exact ⟨0, fun h => absurd h hi⟩
  obtain ⟨π, hπ⟩ := Classical.axiomOfChoice this
  have hb : ev G ρ 3 (ev T (fun i => root 3 (π i)) z.k z.a) = ev G ρ 3 (up 2 T.2) := by
    rw [ev_ev h.h (ρ' := ρz) (fun i hi => by rw [ev_root (hπ i hi).1, (hπ i hi).2]), h2, ev_up]
  have hb := ev_inj hGr h.h h.r hb
  obtain ⟨d, d0, d1, d2⟩ := hz.p
  have := (ev_perm (d := d) (n := 2 ^ p) (Nat.two_pow_pos p) (T := T) (π := π) (a := z.a) (fun i hi => (hπ i hi).1) (fun i i' hi hi' e => h1.h.ne hGr h1.r i i' hi hi' (by rw [← (hπ i (by omega)).2, ← (hπ i' hi').2, e]))).1 d2
  rw [hb] at this
  exact ⟨d, d0, d1, IsD.left (m := toL 2 (zero 2)) this⟩
/-- every tower over the roots is short -/
theorem tow_sz (hG : red K G) (hS : S.length ≤ 3) (hq : SqOk G S r p) : ∀ {m : Nat} {T : Tw m}, TOk G S m T ρ → TS (p + (p + 1 + gC r 3) + 1) m T
  | 0, _, _ => trivial
  | 1, T, h => ⟨trivial, (rad0 hG hq h).mono (by omega)⟩
  | 2, T, h => ⟨tow_sz hG hS hq h.low, rad1 hG hS hq h⟩
  | 3, T, h => ⟨tow_sz hG hS hq h.low, (rad2 hG hS hq h).mono (by omega)⟩
  | m + 4, T, h => absurd (h.le (red_real hG)) (by omega)
end
section
/-- what the first i roots of a tower take in another one -/
def zM (R : Nat) : Nat → Nat
  | 0 => 3
  | i + 1 => zM R i + imB (cB R 3) (zM R i) i R + gC R 3
theorem zM_le {R : Nat} : ∀ {i j : Nat}, i ≤ j → zM R i ≤ zM R j
  | i, 0, h => by rw [show i = 0 by omega]; exact Nat.le_refl _
  | i, j + 1, h => by
    by_cases e : i = j + 1
    · rw [e]; exact Nat.le_refl _
    · exact Nat.le_trans (zM_le (show i ≤ j by omega)) (by show _ ≤ zM R j + imB (cB R 3) (zM R j) j R + gC R 3; omega)
variable {K : Nat} {G : Tw K} {S : List (El K)} {R r p : Nat} {ρ : Nat → El K}
/-- at most three roots, all towers over them short -/
structure Wy (G : Tw K) (S : List (El K)) (R : Nat) : Prop where
  g : red K G
  s : S.length ≤ 3
  t : ∀ {m : Nat} {T : Tw m} {ρ : Nat → El K}, TOk G S m T ρ → TS R m T
theorem Wy.le (W : Wy G S R) {m : Nat} {T : Tw m} (h : TOk G S m T ρ) : m ≤ 3 := Nat.le_trans (h.le (red_real W.g)) W.s
theorem choose {m : Nat} {P : Nat → Prop} {ρu : Nat → El K} (h : ∀ j, P j → ∃ e : El m, ev G ρ m e = ρu j) : ∃ σ : Nat → El m, ∀ j, P j → ev G ρ m (σ j) = ρu j := by
  have : ∀ j, ∃ e : El m, P j → ev G ρ m e = ρu j := fun j => by
    by_cases hj : P j
    · obtain ⟨e, he⟩ := h j hj; exact ⟨e, fun _ => he⟩
    · exact ⟨zero m, fun h => absurd h hj⟩
  exact Classical.axiomOfChoice this
theorem rt_sz (W : Wy G S R) {m l : Nat} {T : Tw m} {u : Tw l} {ρu : Nat → El K} (hT : TOk G S m T ρ) (hu : TOk G S l u ρu) : ∀ i, i < l → (∀ j, j < i → ∃ e : El m, ev G ρ m e = ρu j) → ∀ e : El m, ev G ρ m e = ρu i → Sz (zM R (i + 1)) (toL m e) := fun i => by
  have hGr := red_real W.g
  have hm := W.le hT
  induction i using Nat.strongRecOn with
  | _ i ih =>
    intro hi hj e he
    obtain ⟨σ, hσ⟩ := choose (P := (· < i)) hj
    obtain ⟨x, _, x2, x3⟩ := Tw.at (t := u) hi
    have hx := x2 R (W.t hu)
    obtain ⟨x3, _⟩ := x3 hu.h
    have hs : ∀ j, j < i → Sz (zM R i) (toL m (σ j)) := fun j h => (ih j h (by omega) (fun j' h' => hj j' (by omega)) _ (hσ j h)).mono (zM_le h)
    have hsz := (ev_sz (W.t hT) (a := x) hs hx).mono (imB_mono (cB_le' hm) (Nat.le_refl _) (Nat.le_refl _))
    have hee : mul m T e e = ev T σ i x := ev_inj hGr hT.h hT.r (by rw [ev_mul hT.h, he, x3, ev_ev hT.h hσ])
    exact (Sz.rootS (W.t hT) hT.r hsz hee).mono (by have := gC_le (r := R) hm; show _ ≤ zM R i + imB (cB R 3) (zM R i) i R + gC R 3; omega)
theorem ext_step (hG : red K G) {m : Nat} {T : Tw m} (hT : TOk G S m T ρ) {g : El K} (hg : g ∈ S) (h1 : sgn K G g = 1) {e : El m} (he : ev G ρ m e = mul K G g g) : ∃ (m' : Nat) (T' : Tw m') (ρ' : Nat → El K), TOk G S m' T' ρ' ∧ Beg m T m' T' ∧ (∀ i, i < m → ρ' i = ρ i) ∧ ∃ e' : El m', ev G ρ' m' e' = g := by
  have hGr := red_real hG
  have L := ring K G
  have Sg := sgn_ok hGr
  by_cases hs : isSq m T e
  · obtain ⟨y, hy⟩ := hs
    refine ⟨m, T, ρ, hT, Beg.rf, fun _ _ => rfl, ?_⟩
    have h2 : mul K G (ev G ρ m y) (ev G ρ m y) = mul K G g g := by rw [← ev_mul hT.h, hy, he]
    by_cases h0 : 0 ≤ sgn K G (ev G ρ m y)
    · exact ⟨y, sq_pos hG h2 h0 (by rw [h1]; decide)⟩
    · refine ⟨neg m y, sq_pos hG ?_ (by rw [ev_neg, Sg.sn]; omega) (by rw [h1]; decide)⟩
      rw [ev_neg, L.mn, L.nm, L.nn, h2]
  · refine ⟨m + 1, tsn T e, _, hT.snoc hGr hs hg he.symm h1, Beg.snoc, fun i hi => if_neg (by omega), root (m + 1) m, ?_⟩
    rw [ev_root (by omega)]
    exact if_pos rfl
theorem ev_lift {m m' k : Nat} {T : Tw m} {T' : Tw m'} {ρ' : Nat → El K} (hB : Beg m T m' T') (ha : ∀ i, i < m → ρ' i = ρ i) {g : El K} (h : ∃ e : El m, ev G ρ m e = g) : ∃ e : El m', ev G ρ' m' e = g := by
  obtain ⟨e, he⟩ := h
  obtain ⟨b, hb⟩ := Lf.ex hB.le e
  exact ⟨b, by rw [hb.ev hB.le, ev_congr ha, he]⟩
theorem ext_ex (hG : red K G) {m l : Nat} {T : Tw m} {u : Tw l} {ρu : Nat → El K} (hT : TOk G S m T ρ) (hu : TOk G S l u ρu) : ∀ i, i ≤ l → ∃ (m' : Nat) (T' : Tw m') (ρ' : Nat → El K), TOk G S m' T' ρ' ∧ Beg m T m' T' ∧ (∀ i, i < m → ρ' i = ρ i) ∧ ∀ j, j < i → ∃ e : El m', ev G ρ' m' e = ρu j := fun i => by
  induction i with
  | zero => exact fun _ => ⟨m, T, ρ, hT, Beg.rf, fun _ _ => rfl, fun j hj => absurd hj (Nat.not_lt_zero _)⟩
  | succ i ih =>
    intro hi
    obtain ⟨m1, T1, ρ1, a1, a2, a3, a4⟩ := ih (by omega)
    obtain ⟨σ, hσ⟩ := choose (P := (· < i)) a4
    obtain ⟨x, _, _, x3⟩ := Tw.at (t := u) (show i < l by omega)
    obtain ⟨x3, x4⟩ := x3 hu.h
    obtain ⟨m2, T2, ρ2, b1, b2, b3, b4⟩ := ext_step hG a1 (hu.s i (by omega)) x4 (e := ev T1 σ i x) (by rw [ev_ev a1.h hσ, x3])
    refine ⟨m2, T2, ρ2, b1, a2.tr b2, fun j hj => by rw [b3 j (by have := a2.le; omega), a3 j hj], fun j hj => ?_⟩
    by_cases e : j = i
    · rw [e]; exact b4
    · exact ev_lift (k := 0) b2 b3 (a4 j (by omega))
/-- a tower that holds the fields of some numbers -/
def Fl (G : Tw K) (S : List (El K)) (N : List Nm) (m : Nat) (T : Tw m) (ρ : Nat → El K) : Prop := TOk G S m T ρ ∧ ∀ z ∈ N, ∀ ρz, TOk G S z.k z.t ρz → ∀ j, j < z.k → ∃ e : El m, ev G ρ m e = ρz j
theorem Fl.ex (hG : red K G) {m : Nat} {T : Tw m} (hT : TOk G S m T ρ) : ∀ {N : List Nm}, (∀ z ∈ N, ∃ ρz, TOk G S z.k z.t ρz) → ∃ (m' : Nat) (T' : Tw m') (ρ' : Nat → El K), Fl G S N m' T' ρ' ∧ Beg m T m' T' ∧ (∀ i, i < m → ρ' i = ρ i)
  | [], _ => ⟨m, T, ρ, ⟨hT, fun z h => nomatch h⟩, Beg.rf, fun _ _ => rfl⟩
  | z :: N, h => by
    obtain ⟨m1, T1, ρ1, ⟨a1, a2⟩, a3, a4⟩ := Fl.ex hG hT (N := N) fun z hz => h z (List.mem_cons_of_mem _ hz)
    obtain ⟨ρz, hz⟩ := h z (List.mem_cons_self ..)
    obtain ⟨m2, T2, ρ2, b1, b2, b3, b4⟩ := ext_ex hG a1 hz z.k (Nat.le_refl _)
    refine ⟨m2, T2, ρ2, ⟨b1, fun y hy ρy hy1 j hj => ?_⟩, a3.tr b2, fun i hi => by rw [b3 i (by have := a3.le; omega), a4 i hi]⟩
    rcases List.mem_cons.1 hy with e | hy
    · subst e
      rw [hy1.h.uniq hG hz.h j hj]; exact b4 j hj
    · exact ev_lift (k := 0) b2 b3 (a2 y hy ρy hy1 j hj)
/-- a value that has at most b bits in each tower that holds the numbers N -/
def Gs (G : Tw K) (S : List (El K)) (N : List Nm) (b : Nat) (v : El K) : Prop := ∀ (m : Nat) (T : Tw m) (ρ : Nat → El K), Fl G S N m T ρ → ∃ a : El m, ev G ρ m a = v ∧ Sz b (toL m a)
variable {N : List Nm} {b c : Nat} {v w : El K}
theorem Gs.mono (h : Gs G S N b v) (hb : b ≤ c) : Gs G S N c v := fun m T ρ hF => let ⟨a, h1, h2⟩ := h m T ρ hF; ⟨a, h1, h2.mono hb⟩
/-- images with a bound for each root -/
def imS (c : Nat) (z : Nat → Nat) : Nat → Nat → Nat
  | 0, p => p + 1
  | j + 1, p => 2 * imS c z j p + z j + c + 1
theorem ev_szS {k R : Nat} {z : Nat → Nat} {T : Tw k} {σ : Nat → El k} (hT : TS R k T) : ∀ {j p : Nat} {a : El j}, (∀ i, i < j → Sz (z i) (toL k (σ i))) → Sz p (toL j a) → Sz (imS (cB R k) z j p) (toL k (ev T σ j a))
  | 0, p, a, _, ha => Sz.rat k (ha.qs (x := a) (List.mem_singleton.2 rfl))
  | j + 1, p, a, hs, ha => by
    have h1 := ev_szS hT (a := a.1) (fun i hi => hs i (by omega)) (Sz.left ha)
    have h2 := ev_szS hT (a := a.2) (fun i hi => hs i (by omega)) (Sz.right ha)
    have h3 := h2.mul hT (hs j (by omega))
    show Sz _ (toL k (add k (Tow.ev T σ j a.1) (mul k T (Tow.ev T σ j a.2) (σ j))))
    rw [toL_add]
    exact (h1.add h3).mono (by show _ ≤ 2 * imS (cB R k) z j p + z j + cB R k + 1; omega)
theorem imS_c {c d : Nat} {z : Nat → Nat} (h : c ≤ d) : ∀ {j p : Nat}, imS c z j p ≤ imS d z j p
  | 0, p => Nat.le_refl _
  | j + 1, p => by
    have := imS_c (z := z) h (j := j) (p := p)
    show 2 * imS c z j p + z j + c + 1 ≤ 2 * imS d z j p + z j + d + 1
    omega
theorem imS_up {c : Nat} {z : Nat → Nat} {p : Nat} : ∀ {i j : Nat}, i ≤ j → imS c z i p ≤ imS c z j p
  | i, 0, h => by rw [show i = 0 by omega]; exact Nat.le_refl _
  | i, j + 1, h => by
    by_cases e : i = j + 1
    · rw [e]; exact Nat.le_refl _
    · exact Nat.le_trans (imS_up (show i ≤ j by omega)) (by show _ ≤ 2 * imS c z j p + z j + c + 1; omega)
theorem Gs.short (W : Wy G S R) {z : Nm} (hz : NOk G S r p z v) (hN : z ∈ N) : Gs G S N (imS (cB R 3) (fun j => zM R (j + 1)) 3 p) v := fun m T ρ hF => by
  obtain ⟨ρz, h1, h2⟩ := hz.ex
  obtain ⟨σ, hσ⟩ := choose (P := (· < z.k)) (hF.2 z hN ρz h1)
  have hs : ∀ j, j < z.k → Sz (zM R (j + 1)) (toL m (σ j)) := fun j h => rt_sz W hF.1 h1 j h (fun j' h' => ⟨_, hσ j' (by omega)⟩) _ (hσ j h)
  exact ⟨ev T σ z.k z.a, by rw [ev_ev hF.1.h hσ, h2], (ev_szS (z := fun j => zM R (j + 1)) (W.t hF.1) hs hz.p).mono (Nat.le_trans (imS_c (cB_le' (W.le hF.1))) (imS_up (W.le h1)))⟩
theorem Gs.add (h : Gs G S N b v) (k : Gs G S N c w) : Gs G S N (b + c + 1) (Tow.add K v w) := fun m T ρ hF => by
  obtain ⟨x, h1, h2⟩ := h m T ρ hF
  obtain ⟨y, k1, k2⟩ := k m T ρ hF
  exact ⟨Tow.add m x y, by rw [ev_add, h1, k1], by rw [toL_add]; exact h2.add k2⟩
theorem Gs.neg (h : Gs G S N b v) : Gs G S N b (Tow.neg K v) := fun m T ρ hF => by
  obtain ⟨x, h1, h2⟩ := h m T ρ hF
  exact ⟨Tow.neg m x, by rw [ev_neg, h1], by rw [toL_neg]; exact h2.neg⟩
theorem Gs.mul (W : Wy G S R) (h : Gs G S N b v) (k : Gs G S N c w) : Gs G S N (b + c + cB R 3) (Tow.mul K G v w) := fun m T ρ hF => by
  obtain ⟨x, h1, h2⟩ := h m T ρ hF
  obtain ⟨y, k1, k2⟩ := k m T ρ hF
  exact ⟨Tow.mul m T x y, by rw [ev_mul hF.1.h, h1, k1], (h2.mul (W.t hF.1) k2).mono (by have := cB_le' (r := R) (W.le hF.1); omega)⟩
theorem Gs.rat {q : Rat} (h : Qs p q) : Gs G S N (p + 1) (Tow.rat K q) := fun m T ρ hF => ⟨Tow.rat m q, ev_rat, Sz.rat m h⟩
theorem one_ne {k : Nat} (h : Tow.rat k 1 = zero k) : False := by
  have := congrArg (toL k) h
  rw [toL_rat, toL_zero] at this
  have h0 := Nat.two_pow_pos k
  rw [show 2 ^ k = 2 ^ k - 1 + 1 by omega, List.replicate_succ] at this
  injection this with h1
  exact absurd h1 (by decide)
theorem Gs.inv (W : Wy G S R) (h : Gs G S N b v) (hw : Tow.mul K G w v = Tow.rat K 1) : Gs G S N (iS R 3 b) w := fun m T ρ hF => by
  have L := ring K G
  obtain ⟨x, h1, h2⟩ := h m T ρ hF
  have hx : x ≠ zero m := fun e => by
    rw [e, ev_zero] at h1
    rw [← h1, L.mz] at hw
    exact one_ne hw.symm
  obtain ⟨i, hi⟩ := (red_fld hF.1.r).2 x hx
  refine ⟨i, ?_, (Sz.invS (W.t hF.1) h2 hi).mono (iS_le (W.le hF.1))⟩
  have e1 : Tow.mul K G (ev G ρ m i) v = Tow.rat K 1 := by rw [← h1, ← ev_mul hF.1.h, inv_mul hi, ev_rat]
  rw [← L.mo (ev G ρ m i), ← hw, L.mc w, ← L.ma, e1, L.om]
/-- so much it has in its own tower -/
theorem Gs.sz (hG : red K G) (hN : ∀ z ∈ N, ∃ ρz, TOk G S z.k z.t ρz) (h : Gs G S N b v) {m : Nat} {T : Tw m} (hT : TOk G S m T ρ) {a : El m} (ha : ev G ρ m a = v) : Sz b (toL m a) := by
  obtain ⟨m', T', ρ', h1, h2, h3⟩ := Fl.ex hG hT hN
  obtain ⟨x, x1, x2⟩ := h m' T' ρ' h1
  obtain ⟨y, hy⟩ := Lf.ex h2.le a
  have e : y = x := ev_inj (red_real hG) h1.1.h h1.1.r (by rw [hy.ev h2.le, ev_congr h3, ha, x1])
  rw [← e, hy] at x2
  exact Sz.left x2
theorem NOk.re (W : Wy G S R) (hN : ∀ z ∈ N, ∃ ρz, TOk G S z.k z.t ρz) {x : Nm} (hx : NOk G S r p x v) (h : Gs G S N b v) : NOk G S R b x v := by
  obtain ⟨ρx, h1, h2⟩ := hx.ex
  exact ⟨⟨ρx, h1, h2⟩, W.t h1, h.sz W.g hN h1 h2⟩
end
section
theorem imB_up {c z p : Nat} : ∀ {i j : Nat}, i ≤ j → imB c z i p ≤ imB c z j p
  | i, 0, h => by rw [show i = 0 by omega]; exact Nat.le_refl _
  | i, j + 1, h => by
    by_cases e : i = j + 1
    · rw [e]; exact Nat.le_refl _
    · exact Nat.le_trans (imB_up (show i ≤ j by omega)) (by show _ ≤ 2 * imB c z j p + z + c + 1; omega)
/-- sizes of all towers -/
def wR : Nat := 15346
/-- sizes of all radicands' images -/
def wE : Nat := 31691534
/-- sizes of numbers in common towers, and of their sums and products -/
def jW (p : Nat) : Nat := 8 * p + 73803682
def oW (p : Nat) : Nat := 16 * p + 147714794
theorem wC : cB wR 3 = 107429 := by decide +kernel
theorem wZ : zM wR 3 = 10435952 := by decide +kernel
theorem wR_eq : wR = 15346 := rfl
theorem wE_eq : wE = 31691534 := rfl
theorem wQ : qB wR 3 wE ≤ 4398046511104 ∧ qB wR 3 wR ≤ 4398046511104 ∧ vB wR 3 (wE + gC wR 3) ≤ 4398046511104 ∧ vB wR 3 wR ≤ 4398046511104 := by decide +kernel
theorem wV : vB wR 3 (oW 4000000000) ≤ 4398046511104 := by decide +kernel
theorem wB : iB wR 3 4000000000 ≤ 4398046511104 := by decide +kernel
theorem jW_eq {p : Nat} : imB (cB wR 3) (zM wR 3) 3 p = jW p := by
  show 2 * (2 * (2 * (p + 1) + zM wR 3 + cB wR 3 + 1) + zM wR 3 + cB wR 3 + 1) + zM wR 3 + cB wR 3 + 1 = 8 * p + 73803682
  rw [wC, wZ]; omega
theorem jW_im {m i p : Nat} (hm : m ≤ 3) (hi : i ≤ 3) : imB (cB wR m) (zM wR 3) i p ≤ jW p := by
  rw [← jW_eq]
  exact Nat.le_trans (imB_mono (cB_le' hm) (Nat.le_refl _) (Nat.le_refl _)) (imB_up hi)
theorem wE_im {m i : Nat} (hm : m ≤ 3) (hi : i ≤ 2) : imB (cB wR m) (zM wR 3) i wR ≤ wE := by
  refine Nat.le_trans (Nat.le_trans (imB_mono (cB_le' hm) (Nat.le_refl _) (Nat.le_refl _)) (imB_up hi)) ?_
  show 2 * (2 * (wR + 1) + zM wR 3 + cB wR 3 + 1) + zM wR 3 + cB wR 3 + 1 ≤ 31691534
  rw [wC, wZ, wR_eq]
  decide
variable {K : Nat} {G : Tw K} {S : List (El K)} {p : Nat}
theorem SqOk.wd (hG : red K G) (hS : S.length ≤ 3) (hq : SqOk G S 300 600) : Wy G S wR := ⟨hG, hS, fun h => tow_sz hG hS hq h⟩
end
end Go.Tow
