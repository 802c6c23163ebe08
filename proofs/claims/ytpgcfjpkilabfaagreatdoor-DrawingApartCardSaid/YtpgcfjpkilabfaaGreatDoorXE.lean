/- part 5 -/
import Derived.Test.YtpgcfjpkilabfaaGreatDoorXD
import Derived.Test.YtpgcfjpkilabfaaGreatDoorCards
import Derived.Test.YtpgcfjpkilabfaaGreatDoorTie
import Derived.Deep.DeepHandedRow
import Derived.Lib.LaidTab
import Derived.MakeChecks
import Derived.Stop.LaidErr
import Derived.Lib.AppendZeros
import Derived.Lib.Bytealg
import Derived.Shelf.Strings.AsciiSet
import Derived.Shelf.Strings.BuilderK
import Derived.Shelf.Strings.OnBuilder
set_option linter.unusedVariables false
set_option linter.unusedSimpArgs false
set_option maxRecDepth 100000
namespace Go.Tow
open Go Go.Num Go.Proofs.YtpgcfjpkilabfaaGreatDoor
section
def ev {K : Nat} (G : Tw K) (ρ : Nat → El K) : (k : Nat) → El k → El K
 | 0, x => rat K x
 | k + 1, a => add K (ev G ρ k a.1) (mul K G (ev G ρ k a.2) (ρ k))
def Hom {K : Nat} (G : Tw K) (ρ : Nat → El K) : (k : Nat) → Tw k → Prop
 | 0, _ => True
 | k + 1, t => Hom G ρ k t.1 ∧ mul K G (ρ k) (ρ k) = ev G ρ k t.2 ∧ sgn K G (ρ k) = 1
variable {K : Nat} {G : Tw K} {ρ σ : Nat → El K}
theorem ev_congr : ∀ {k : Nat} {a : El k}, (∀ i, i < k → ρ i = σ i) → ev G ρ k a = ev G σ k a
 | 0, _, _ => rfl
 | k + 1, a, h => by
  show add K (ev G ρ k a.1) (mul K G (ev G ρ k a.2) (ρ k)) = add K (ev G σ k a.1) (mul K G (ev G σ k a.2) (σ k))
  rw [ev_congr (k := k) fun i hi => h i (by omega), ev_congr (k := k) (a := a.2) fun i hi => h i (by omega), h k (by omega)]
theorem Hom.congr : ∀ {k : Nat} {t : Tw k}, Hom G ρ k t → (∀ i, i < k → ρ i = σ i) → Hom G σ k t
 | 0, _, _, _ => trivial
 | k + 1, t, ⟨h1, h2, h3⟩, h => ⟨h1.congr fun i hi => h i (by omega), by rw [← h k (by omega), h2]; exact ev_congr fun i hi => h i (by omega), by rw [← h k (by omega)]; exact h3⟩
theorem ev_zero : ∀ {k : Nat}, ev G ρ k (zero k) = zero K
 | 0 => rat_zero K
 | k + 1 => by
  show add K (ev G ρ k (zero k)) (mul K G (ev G ρ k (zero k)) (ρ k)) = zero K
  rw [ev_zero, (ring K G).zm, (ring K G).az]
theorem ev_add : ∀ {k : Nat} {a b : El k}, ev G ρ k (add k a b) = add K (ev G ρ k a) (ev G ρ k b)
 | 0, a, b => rat_add K a b
 | k + 1, a, b => by
  show add K (ev G ρ k (add k a.1 b.1)) (mul K G (ev G ρ k (add k a.2 b.2)) (ρ k)) = add K (add K (ev G ρ k a.1) (mul K G (ev G ρ k a.2) (ρ k))) (add K (ev G ρ k b.1) (mul K G (ev G ρ k b.2) (ρ k)))
  rw [ev_add, ev_add]
  have L := ring K G
  exact (Laws.req L [ev G ρ k a.1, ev G ρ k a.2, ev G ρ k b.1, ev G ρ k b.2, ρ k] (.add (.add (.v 0) (.v 2)) (.mul (.add (.v 1) (.v 3)) (.v 4))) (.add (.add (.v 0) (.mul (.v 1) (.v 4))) (.add (.v 2) (.mul (.v 3) (.v 4)))) (by decide +kernel))
theorem ev_neg : ∀ {k : Nat} {a : El k}, ev G ρ k (neg k a) = neg K (ev G ρ k a)
 | 0, a => rat_neg K a
 | k + 1, a => by
  show add K (ev G ρ k (neg k a.1)) (mul K G (ev G ρ k (neg k a.2)) (ρ k)) = neg K (add K (ev G ρ k a.1) (mul K G (ev G ρ k a.2) (ρ k)))
  rw [ev_neg, ev_neg, (ring K G).nm, (ring K G).nd]
theorem ev_up {k : Nat} {a : El k} : ev G ρ (k + 1) (up k a) = ev G ρ k a := by
 show add K (ev G ρ k a) (mul K G (ev G ρ k (zero k)) (ρ k)) = _
 rw [ev_zero, (ring K G).zm, (ring K G).az]
theorem ev_rat : ∀ {k : Nat} {x : Rat}, ev G ρ k (rat k x) = rat K x
 | 0, _ => rfl
 | k + 1, x => by rw [show rat (k + 1) x = up k (rat k x) from rfl, ev_up, ev_rat]
theorem ev_mul : ∀ {k : Nat} {t : Tw k} {a b : El k}, Hom G ρ k t → ev G ρ k (mul k t a b) = mul K G (ev G ρ k a) (ev G ρ k b)
 | 0, t, a, b, _ => rat_mul K G a b
 | k + 1, t, a, b, h => by
  show add K (ev G ρ k (add k (mul k t.1 a.1 b.1) (mul k t.1 (mul k t.1 a.2 b.2) t.2))) (mul K G (ev G ρ k (add k (mul k t.1 a.1 b.2) (mul k t.1 a.2 b.1))) (ρ k)) = mul K G (add K (ev G ρ k a.1) (mul K G (ev G ρ k a.2) (ρ k))) (add K (ev G ρ k b.1) (mul K G (ev G ρ k b.2) (ρ k)))
  rw [ev_add, ev_add, ev_mul h.1, ev_mul h.1, ev_mul h.1, ev_mul h.1, ev_mul h.1, ← h.2.1]
  have L := ring K G
  exact (Laws.req L [ev G ρ k a.1, ev G ρ k a.2, ev G ρ k b.1, ev G ρ k b.2, ρ k] (.add (.add (.mul (.v 0) (.v 2)) (.mul (.mul (.v 1) (.v 3)) (.mul (.v 4) (.v 4)))) (.mul (.add (.mul (.v 0) (.v 3)) (.mul (.v 1) (.v 2))) (.v 4))) (.mul (.add (.v 0) (.mul (.v 1) (.v 4))) (.add (.v 2) (.mul (.v 3) (.v 4)))) (by decide +kernel))
theorem ev_norm {k : Nat} {t : Tw (k + 1)} {a : El (k + 1)} (h : Hom G ρ k t.1) : ev G ρ k (norm k t a) = add K (mul K G (ev G ρ k a.1) (ev G ρ k a.1)) (neg K (mul K G (mul K G (ev G ρ k a.2) (ev G ρ k a.2)) (ev G ρ k t.2))) := by
 unfold norm
 rw [ev_add, ev_neg, ev_mul h, ev_mul h, ev_mul h]
theorem ev_sgn (hG : real K G) : ∀ {k : Nat} {t : Tw k} {a : El k}, Hom G ρ k t → sgn K G (ev G ρ k a) = sgn k t a
 | 0, t, a, _ => sgn_rat hG
 | k + 1, t, a, h => by
  have L := ring K G
  have S := sgn_ok hG
  have e : sgn (k + 1) t a = L.sx (ev G ρ k t.2) (sgn K G) (ev G ρ k a.1, ev G ρ k a.2) := by
   show (if sgn k t.1 a.2 = 0 ∨ sgn k t.1 a.1 = sgn k t.1 a.2 then sgn k t.1 a.1 else if sgn k t.1 a.1 = 0 then sgn k t.1 a.2 else sgn k t.1 a.1 * sgn k t.1 (norm k t a)) = _
   rw [← ev_sgn hG h.1, ← ev_sgn hG h.1 (a := a.1), ← ev_sgn hG h.1 (a := norm k t a), ev_norm h.1]
   rfl
  have hr : L.Rt (ev G ρ k t.2) (sgn K G) (ρ k) (rat K 1) := by
   refine ⟨h.2.2, by rw [sgn_rat hG]; decide +kernel, ?_⟩
   rw [h.2.1, L.mo, L.mo, L.an, S.s0 L]
  have hd : sgn K G (ev G ρ k t.2) = 1 := by rw [← h.2.1, S.sm, h.2.2]; rfl
  rw [e, S.sx_rt L hd hr, L.mo]
  rfl
theorem ev_inj0 (hG : real K G) {k : Nat} {t : Tw k} (h : Hom G ρ k t) (hr : red k t) {a : El k} (e : ev G ρ k a = zero K) : a = zero k := by
 have := ev_sgn hG h (a := a)
 rw [e, (sgn_ok hG).s0 (ring K G)] at this
 exact (red_zero hr).1 this.symm
theorem ev_inj (hG : real K G) {k : Nat} {t : Tw k} (h : Hom G ρ k t) (hr : red k t) {a b : El k} (e : ev G ρ k a = ev G ρ k b) : a = b := by
 refine (ring k t).sub0 (ev_inj0 hG h hr (a := add k a (neg k b)) ?_)
 rw [ev_add, ev_neg, e, (ring K G).an]
theorem Hom.uniq (hG : red K G) : ∀ {k : Nat} {t : Tw k}, Hom G ρ k t → Hom G σ k t → ∀ i, i < k → ρ i = σ i
 | 0, _, _, _, i, hi => by omega
 | k + 1, t, h, h', i, hi => by
  have ih := h.1.uniq hG h'.1
  by_cases e : i = k
  · subst e
    refine sq_pos hG (by rw [h.2.1, h'.2.1, ev_congr ih]) (by rw [h.2.2]; decide) (by rw [h'.2.2]; decide)
  · exact ih i (by omega)
theorem root_top (i : Nat) : root (i + 1) i = (pr (zero i) (rat i 1) : El (i + 1)) := by
 unfold root; rw [if_pos rfl]
theorem root_low {k i : Nat} (h : i ≠ k) : root (k + 1) i = (up k (root k i) : El (k + 1)) := by
 conv => lhs; unfold root
 rw [if_neg h]
theorem ev_root : ∀ {k i : Nat}, i < k → ev G ρ k (root k i) = ρ i
 | k + 1, i, hi => by
  by_cases e : i = k
  · subst e
    rw [root_top]
    show add K (ev G ρ i (zero i)) (mul K G (ev G ρ i (rat i 1)) (ρ i)) = _
    rw [ev_zero, ev_rat, (ring K G).om, (ring K G).za]
  · rw [root_low e, ev_up, ev_root (by omega)]
theorem Hom.ne (hG : real K G) : ∀ {k : Nat} {t : Tw k}, Hom G ρ k t → red k t → ∀ i j, i < j → j < k → ρ i ≠ ρ j
 | 0, _, _, _, i, j, _, h => by omega
 | k + 1, t, h, hr, i, j, hij, hj => fun e => by
  by_cases ej : j = k
  · subst ej
    refine hr.2.2 ⟨root j i, ev_inj hG h.1 hr.1 ?_⟩
    rw [ev_mul h.1, ev_root hij, e, h.2.1]
  · exact h.1.ne hG hr.1 i j hij (by omega) e
theorem pigeon {α : Type} : ∀ (k : Nat) (S : List α) (f : Nat → α), (∀ i, i < k → f i ∈ S) → (∀ i j, i < j → j < k → f i ≠ f j) → k ≤ S.length
 | 0, _, _, _, _ => Nat.zero_le _
 | k + 1, S, f, h1, h2 => by
  obtain ⟨A, B, e⟩ := List.append_of_mem (h1 k (by omega))
  have := pigeon k (A ++ B) f (fun i hi => by
   have h3 := h1 i (by omega)
   rw [e] at h3
   rcases List.mem_append.1 h3 with h3 | h3
   · exact List.mem_append_left _ h3
   · rcases List.mem_cons.1 h3 with h3 | h3
     · exact absurd h3 (h2 i k hi (by omega))
     · exact List.mem_append_right _ h3) (fun i j hi hj => h2 i j hi (by omega))
  rw [e]
  simp only [List.length_append, List.length_cons] at this ⊢
  omega
structure TOk {K : Nat} (G : Tw K) (S : List (El K)) (k : Nat) (t : Tw k) (ρ : Nat → El K) : Prop where
 r : red k t
 h : Hom G ρ k t
 s : ∀ i, i < k → ρ i ∈ S
theorem TOk.le (hG : real K G) {S : List (El K)} {k : Nat} {t : Tw k} (h : TOk G S k t ρ) : k ≤ S.length := pigeon k S ρ h.s (h.h.ne hG h.r)
theorem TOk.snoc (hG : real K G) {S : List (El K)} {k : Nat} {t : Tw k} (h : TOk G S k t ρ) {a : El k} (hn : ¬ isSq k t a) {s : El K} (hs : s ∈ S) (h1 : mul K G s s = ev G ρ k a) (h2 : sgn K G s = 1) : TOk G S (k + 1) (tsn t a) (fun i => if i = k then s else ρ i) where
 r := ⟨h.r, by show sgn k t a = 1; rw [← ev_sgn hG h.h, ← h1, (sgn_ok hG).sm, h2]; rfl, hn⟩
 h := ⟨h.h.congr fun i hi => (if_neg (by omega)).symm, by
  show mul K G (if k = k then s else ρ k) (if k = k then s else ρ k) = ev G _ k a
  rw [if_pos rfl, h1]; exact ev_congr fun i hi => (if_neg (by omega)).symm, by
  show sgn K G (if k = k then s else ρ k) = 1
  rw [if_pos rfl, h2]⟩
 s := fun i hi => by
  show (if i = k then s else ρ i) ∈ S
  split
  · exact hs
  · exact h.s i (by omega)
end
section
variable {K : Nat} {G : Tw K} {ρ : Nat → El K}
def Lf {k m : Nat} (a : El k) (b : El m) : Prop := toL m b = toL k a ++ List.replicate (2 ^ m - 2 ^ k) 0
theorem Lf.ex {k m : Nat} (h : k ≤ m) (a : El k) : ∃ b : El m, Lf a b := by
 obtain ⟨b, hb⟩ := exE m (toL k a ++ List.replicate (2 ^ m - 2 ^ k) 0) (by
  have := Nat.pow_le_pow_right (n := 2) (by decide) h
  rw [List.length_append, toL_length, List.length_replicate]; omega)
 exact ⟨b, hb⟩
theorem Lf.rfl' {k : Nat} (a : El k) : Lf a a := by unfold Lf; rw [Nat.sub_self]; simp
theorem Lf.eq {k : Nat} {a b : El k} (h : Lf a b) : b = a := by
 unfold Lf at h; rw [Nat.sub_self] at h
 exact toL_inj (by simpa using h)
theorem Lf.ev {k : Nat} {a : El k} : ∀ {m : Nat} {b : El m}, k ≤ m → Lf a b → ev G ρ m b = ev G ρ k a := by
 intro m
 induction m with
 | zero => intro b h hl; have := Nat.le_zero.1 h; subst this; rw [hl.eq]
 | succ m ih =>
  intro b h hl
  by_cases e : k = m + 1
  · subst e; rw [hl.eq]
  · have hp := Nat.pow_le_pow_right (n := 2) (by decide) (show k ≤ m by omega)
    have hs : 2 ^ (m + 1) - 2 ^ k = (2 ^ m - 2 ^ k) + 2 ^ m := by rw [Nat.pow_succ]; omega
    have hl : toL m b.1 ++ toL m b.2 = (toL k a ++ List.replicate (2 ^ m - 2 ^ k) 0) ++ List.replicate (2 ^ m) 0 := by
     have : toL (m + 1) b = _ := hl
     rw [hs, ← List.replicate_append_replicate, ← List.append_assoc] at this
     exact this
    obtain ⟨h1, h2⟩ := append_inj' (by rw [toL_length, List.length_append, toL_length, List.length_replicate]; omega) hl
    have e2 : b.2 = zero m := toL_inj (by rw [h2, toL_zero])
    show add K (Tow.ev G ρ m b.1) (mul K G (Tow.ev G ρ m b.2) (ρ m)) = _
    rw [e2, ev_zero, (ring K G).zm, (ring K G).az]
    exact ih (by omega) h1
theorem Lf.sz {k m p : Nat} {a : El k} {b : El m} (h : Lf a b) (ha : Sz p (toL k a)) : Sz p (toL m b) := by
 obtain ⟨d, d0, d1, d2⟩ := ha
 rw [h]
 exact ⟨d, d0, d1, d2.append fun x hx => ⟨0, by rw [(List.mem_replicate.1 hx).2, Rat.zero_mul]; rfl, Nat.two_pow_pos p⟩⟩
theorem toT_inj : ∀ {k : Nat} {t w : Tw k}, toT k t = toT k w → t = w
 | 0, _, _, _ => rfl
 | k + 1, t, w, h => by
  have h : toT k t.1 ++ [toL k t.2] = toT k w.1 ++ [toL k w.2] := h
  obtain ⟨h1, h2⟩ := append_inj' (by rw [toT_length, toT_length]) h
  exact Prod.ext (toT_inj h1) (toL_inj (by injection h2))
theorem Tw.cut {k : Nat} : ∀ {t : Tw k} {i : Nat}, i ≤ k → ∃ w : Tw i, toT i w = (toT k t).take i ∧ (∀ r, TS r k t → TS r i w) ∧ (red k t → red i w) ∧ ∀ {K : Nat} {G : Tw K} {ρ : Nat → El K}, Hom G ρ k t → Hom G ρ i w := by
 induction k with
 | zero => intro t i h; have := Nat.le_zero.1 h; subst this; exact ⟨t, rfl, fun _ h => h, fun h => h, fun h => h⟩
 | succ k ih =>
  intro t i h
  by_cases e : i = k + 1
  · subst e; exact ⟨t, by rw [List.take_of_length_le (by rw [toT_length]; exact Nat.le_refl _)], fun _ h => h, fun h => h, fun h => h⟩
  · obtain ⟨w, h1, h2, h3, h4⟩ := ih (t := t.1) (i := i) (by omega)
    refine ⟨w, ?_, fun r h => h2 r h.1, fun h => h3 h.1, fun h => h4 h.1⟩
    show _ = (toT k t.1 ++ [toL k t.2]).take i
    rw [List.take_append_of_le_length (by rw [toT_length]; omega), h1]
def Beg (k : Nat) (t : Tw k) (m : Nat) (T : Tw m) : Prop := (toT m T).take (toT k t).length = toT k t
theorem Beg.le {k m : Nat} {t : Tw k} {T : Tw m} (h : Beg k t m T) : k ≤ m := by
 have := congrArg List.length h
 simp only [List.length_take, toT_length] at this; omega
theorem Beg.hom {k m : Nat} {t : Tw k} {T : Tw m} (h : Beg k t m T) (hT : Hom G ρ m T) : Hom G ρ k t := by
 obtain ⟨w, h1, _, _, h4⟩ := Tw.cut (t := T) h.le
 have : w = t := toT_inj (by rw [h1]; unfold Beg at h; rwa [toT_length] at h)
 rw [← this]; exact h4 hT
theorem Beg.rf {k : Nat} {t : Tw k} : Beg k t k t := List.take_of_length_le (Nat.le_refl _)
theorem Beg.tr {k l m : Nat} {t : Tw k} {u : Tw l} {w : Tw m} (h : Beg k t l u) (h' : Beg l u m w) : Beg k t m w := by
 have h1 := h.le
 unfold Beg at *
 rw [← h', List.take_take, toT_length, toT_length, Nat.min_eq_left h1] at h
 rw [toT_length]; exact h
theorem Beg.snoc {k : Nat} {t : Tw k} {a : El k} : Beg k t (k + 1) (tsn t a) := List.take_left' rfl
def imB (c z : Nat) : Nat → Nat → Nat
 | 0, p => p + 1
 | j + 1, p => 2 * imB c z j p + z + c + 1
theorem ev_sz {k R z : Nat} {T : Tw k} {σ : Nat → El k} (hT : TS R k T) : ∀ {j p : Nat} {a : El j}, (∀ i, i < j → Sz z (toL k (σ i))) → Sz p (toL j a) → Sz (imB (cB R k) z j p) (toL k (ev T σ j a))
 | 0, p, a, _, ha => Sz.rat k (ha.qs (x := a) (List.mem_singleton.2 rfl))
 | j + 1, p, a, hs, ha => by
  have h1 := ev_sz hT (a := a.1) (fun i hi => hs i (by omega)) (Sz.left ha)
  have h2 := ev_sz hT (a := a.2) (fun i hi => hs i (by omega)) (Sz.right ha)
  have h3 := h2.mul hT (hs j (by omega))
  show Sz _ (toL k (add k (Tow.ev T σ j a.1) (mul k T (Tow.ev T σ j a.2) (σ j))))
  rw [toL_add]
  exact (h1.add h3).mono (by show _ ≤ 2 * imB (cB R k) z j p + z + cB R k + 1; omega)
theorem ev_ev {k : Nat} {T : Tw k} {σ : Nat → El k} {ρ' : Nat → El K} (hT : Hom G ρ k T) : ∀ {j : Nat} {a : El j}, (∀ i, i < j → ev G ρ k (σ i) = ρ' i) → ev G ρ k (ev T σ j a) = ev G ρ' j a
 | 0, a, _ => ev_rat
 | j + 1, a, h => by
  show ev G ρ k (add k (ev T σ j a.1) (mul k T (ev T σ j a.2) (σ j))) = add K (ev G ρ' j a.1) (mul K G (ev G ρ' j a.2) (ρ' j))
  rw [ev_add, ev_mul hT, ev_ev hT fun i hi => h i (by omega), ev_ev hT (a := a.2) fun i hi => h i (by omega), h j (by omega)]
end
section
theorem Tw.at {k : Nat} : ∀ {t : Tw k} {i : Nat}, i < k → ∃ x : El i, (toT k t)[i]? = some (toL i x) ∧ (∀ r, TS r k t → Sz r (toL i x)) ∧ ∀ {K : Nat} {G : Tw K} {ρ : Nat → El K}, Hom G ρ k t → mul K G (ρ i) (ρ i) = ev G ρ i x ∧ sgn K G (ρ i) = 1 := by
 induction k with
 | zero => intro t i h; omega
 | succ k ih =>
  intro t i h
  have hl := toT_length k t.1
  by_cases e : i = k
  · subst e
    refine ⟨t.2, ?_, fun r h => h.2, fun h => h.2⟩
    show (toT i t.1 ++ [toL i t.2])[i]? = _
    rw [List.getElem?_append_right (by omega), hl, Nat.sub_self]; rfl
  · obtain ⟨x, h1, h2, h3⟩ := ih (t := t.1) (i := i) (by omega)
    refine ⟨x, ?_, fun r h => h2 r h.1, fun h => h3 h.1⟩
    show (toT k t.1 ++ [toL k t.2])[i]? = _
    rw [List.getElem?_append_left (by omega), h1]
theorem _root_.Go.Proofs.YtpgcfjpkilabfaaGreatDoor.TS.mono {r s : Nat} (h : r ≤ s) : ∀ {k : Nat} {t : Tw k}, TS r k t → TS s k t
 | 0, _, _ => trivial
 | k + 1, t, ht => ⟨ht.1.mono h, ht.2.mono h⟩
theorem cB_le' {r i k : Nat} (h : i ≤ k) : cB r i ≤ cB r k := by
 induction k with
 | zero => rw [show i = 0 by omega]; exact Nat.le_refl _
 | succ k ih =>
  by_cases e : i = k + 1
  · rw [e]; exact Nat.le_refl _
  · exact Nat.le_trans (ih (by omega)) (cB_le r k)
theorem gC_le {r i k : Nat} (h : i ≤ k) : gC r i ≤ gC r k := by
 induction k with
 | zero => rw [show i = 0 by omega]; exact Nat.le_refl _
 | succ k ih =>
  by_cases e : i = k + 1
  · rw [e]; exact Nat.le_refl _
  · exact Nat.le_trans (ih (by omega)) (by show _ ≤ 2 * gC r k + 2 * cB r k + r + iS r k r + 2; omega)
theorem imB_mono {c c' z z' p p' : Nat} (h1 : c ≤ c') (h2 : z ≤ z') (h3 : p ≤ p') : ∀ {j : Nat}, imB c z j p ≤ imB c' z' j p'
 | 0 => by show p + 1 ≤ p' + 1; omega
 | j + 1 => by have := imB_mono h1 h2 h3 (j := j); show 2 * imB c z j p + z + c + 1 ≤ 2 * imB c' z' j p' + z' + c' + 1; omega
theorem imB_ge {c z p : Nat} : ∀ {j : Nat}, p ≤ imB c z j p
 | 0 => by show p ≤ p + 1; omega
 | j + 1 => by have := imB_ge (c := c) (z := z) (p := p) (j := j); show _ ≤ 2 * imB c z j p + z + c + 1; omega
variable {K : Nat} {G : Tw K} {ρ ρ' ρu : Nat → El K}
def RtV (G : Tw K) (m z j : Nat) (rs : List (List Rat)) (ρ ρu : Nat → El K) : Prop := ∀ i, i < j → ∃ (n : Nat) (s : El n), n ≤ m ∧ rs[i]? = some (toL n s) ∧ Sz z (toL n s) ∧ ev G ρ n s = ρu i
theorem RtV.mono {m m' z z' j : Nat} {rs : List (List Rat)} (h : RtV G m z j rs ρ ρu) (hm : m ≤ m') (hz : z ≤ z') (hr : ∀ i, i < m → ρ' i = ρ i) : RtV G m' z' j rs ρ' ρu := fun i hi => by
 obtain ⟨n, s, h1, h2, h3, h4⟩ := h i hi
 exact ⟨n, s, by omega, h2, h3.mono hz, by rw [← h4]; exact ev_congr fun i hi => hr i (by omega)⟩
theorem RtV.snoc {m z j n : Nat} {rs : List (List Rat)} (h : RtV G m z j rs ρ ρu) (hl : rs.length = j) {s : El n} (hn : n ≤ m) (hz : Sz z (toL n s)) (he : ev G ρ n s = ρu j) : RtV G m z (j + 1) (rs ++ [toL n s]) ρ ρu := fun i hi => by
 by_cases e : i = j
 · subst e
   exact ⟨n, s, hn, by rw [List.getElem?_append_right (by omega), hl, Nat.sub_self]; rfl, hz, he⟩
 · obtain ⟨n', s', h1, h2, h3, h4⟩ := h i (by omega)
   exact ⟨n', s', h1, by rw [List.getElem?_append_left (by omega), h2], h3, h4⟩
structure Nm where
 k : Nat
 t : Tw k
 a : El k
structure NOk (G : Tw K) (S : List (El K)) (r p : Nat) (x : Nm) (v : El K) : Prop where
 ex : ∃ ρ, TOk G S x.k x.t ρ ∧ ev G ρ x.k x.a = v
 r : TS r x.k x.t
 p : Sz p (toL x.k x.a)
theorem NOk.mono {S : List (El K)} {r r' p p' : Nat} {x : Nm} {v : El K} (h : NOk G S r p x v) (hr : r ≤ r') (hp : p ≤ p') : NOk G S r' p' x v := ⟨h.ex, h.r.mono hr, h.p.mono hp⟩
theorem NOk.le (hG : real K G) {S : List (El K)} {r p : Nat} {x : Nm} {v : El K} (h : NOk G S r p x v) (hS : S.length ≤ 3) : x.k ≤ 3 := by
 obtain ⟨ρ, h1, _⟩ := h.ex
 exact Nat.le_trans (h1.le hG) hS
theorem NOk.sgn (hG : real K G) {S : List (El K)} {r p : Nat} {x : Nm} {v : El K} (h : NOk G S r p x v) : sgn K G v = sgn x.k x.t x.a := by
 obtain ⟨ρ, h1, h2⟩ := h.ex
 rw [← h2, ev_sgn hG h1.h]
theorem NOk.neg {S : List (El K)} {r p : Nat} {x : Nm} {v : El K} (h : NOk G S r p x v) : NOk G S r p ⟨x.k, x.t, Tow.neg x.k x.a⟩ (Tow.neg K v) := by
 obtain ⟨ρ, h1, h2⟩ := h.ex
 exact ⟨⟨ρ, h1, by rw [← h2]; exact ev_neg⟩, h.r, by rw [toL_neg]; exact h.p.neg⟩
end
end Go.Tow
namespace Go.Vm
open Go
section
variable {c : Cx} {s : St} {p : Pl}
theorem Nd (t sz : Nat) {K : List Kt} {E : Env} {H : Hpl} (h : nxJ c.tb c.n s = some (K, E, H)) (k : StP c (.j [] K ((t, .d (.sl sz [])) :: E) H)) (hv : look E t = some .nil := by exact rfl) : StP c s := by
 unfold nxJ at h
 split at h <;> cases h
 rename_i hr
 refine go 1000 hr ?_
 rintro a w ⟨s0, W, θ, hw, hs, hθ, rfl⟩
 refine k a w ⟨_, W, θ, hw, ?_, hθ, rfl⟩
 rw [show sem ((t, AV.d (.sl sz [])) :: E) H = (upd (look E) t (.d (.sl sz [])), look H) from by rw [look_upd]]
 refine ⟨hs.fm, ⟨hs.rel.defers, hs.rel.size, fun q v hq => ?_⟩, hs.obs, fun q v i hq hi => ?_⟩
 · rcases upd_some hq with ⟨e1, e2⟩ | ⟨e1, e2⟩
   · subst e1; subst e2
     obtain ⟨p, e⟩ := V_nil (hs.rel.has q _ hv)
     rw [e]
     exact sl_V rfl (Nat.le_refl _) (by decide) (.inl rfl)
   · exact hs.rel.has q v e2
 · rcases upd_some hq with ⟨e1, e2⟩ | ⟨e1, e2⟩
   · subst e2; exact hi.elim
   · exact hs.ids q v i e2 hi
end
end Go.Vm
namespace Go.Proofs.YtpgcfjpkilabfaaGreatDoor.R9
open Go Go.Vm Go.Num Go.Tow Go.Proofs.YtpgcfjpkilabfaaGreatDoor
theorem cmpQ_ne {x y : Rat} : cmpQ x y ≠ 0 ↔ x ≠ y := by
 unfold cmpQ
 split
 · exact ⟨fun _ e => by subst e; exact absurd ‹_› (Rat.lt_irrefl), fun _ => by decide⟩
 · split
   · exact ⟨fun _ e => by subst e; exact absurd ‹_› (Rat.lt_irrefl), fun _ => by decide⟩
   · exact ⟨fun h => absurd rfl h, fun h => by grind⟩
def Rts (k z j : Nat) (rs : List (List Rat)) (σ : Nat → Tow.El k) : Prop := ∀ i, i < j → ∃ (m : Nat) (s : Tow.El m), m ≤ k ∧ rs[i]? = some (toL m s) ∧ Lf s (σ i) ∧ Sz z (toL k (σ i))
end Go.Proofs.YtpgcfjpkilabfaaGreatDoor.R9
namespace Go.Tow
open Go Go.Num Go.Proofs.YtpgcfjpkilabfaaGreatDoor
section
variable {K : Nat} {G : Tw K} {ρ : Nat → El K}
end
section
end
section
theorem toL_smul {b : Rat} : ∀ {m : Nat} {t : Tw m} {y : El m}, toL m (mul m t (rat m b) y) = (toL m y).map (b * ·)
 | 0, _, _ => rfl
 | m + 1, t, y => by
  have L := ring m t.1
  show toL m (add m (mul m t.1 (rat m b) y.1) (mul m t.1 (mul m t.1 (zero m) y.2) t.2)) ++ toL m (add m (mul m t.1 (rat m b) y.2) (mul m t.1 (zero m) y.1)) = (toL m y.1 ++ toL m y.2).map _
  rw [L.zm, L.zm, L.zm, L.az, L.az, toL_smul, toL_smul, List.map_append]
variable {K : Nat} {G : Tw K} {S : List (El K)} {r p : Nat} {ρ : Nat → El K}
end
section
def zM (R : Nat) : Nat → Nat
 | 0 => 3
 | i + 1 => zM R i + imB (cB R 3) (zM R i) i R + gC R 3
theorem zM_le {R : Nat} : ∀ {i j : Nat}, i ≤ j → zM R i ≤ zM R j
 | i, 0, h => by rw [show i = 0 by omega]; exact Nat.le_refl _
 | i, j + 1, h => by
  by_cases e : i = j + 1
  · rw [e]; exact Nat.le_refl _
  · exact Nat.le_trans (zM_le (show i ≤ j by omega)) (by show _ ≤ zM R j + imB (cB R 3) (zM R j) j R + gC R 3; omega)
variable {K : Nat} {G : Tw K} {S : List (El K)} {R r p : Nat} {ρ : Nat → El K}
structure Wy (G : Tw K) (S : List (El K)) (R : Nat) : Prop where
 g : red K G
 s : S.length ≤ 3
 t : ∀ {m : Nat} {T : Tw m} {ρ : Nat → El K}, TOk G S m T ρ → TS R m T
theorem Wy.le (W : Wy G S R) {m : Nat} {T : Tw m} (h : TOk G S m T ρ) : m ≤ 3 := Nat.le_trans (h.le (red_real W.g)) W.s
theorem choose {m : Nat} {P : Nat → Prop} {ρu : Nat → El K} (h : ∀ j, P j → ∃ e : El m, ev G ρ m e = ρu j) : ∃ σ : Nat → El m, ∀ j, P j → ev G ρ m (σ j) = ρu j := by
 have : ∀ j, ∃ e : El m, P j → ev G ρ m e = ρu j := fun j => by
  by_cases hj : P j
  · obtain ⟨e, he⟩ := h j hj; exact ⟨e, fun _ => he⟩
  · exact ⟨zero m, fun h => absurd h hj⟩
 exact Classical.axiomOfChoice this
theorem rt_sz (W : Wy G S R) {m l : Nat} {T : Tw m} {u : Tw l} {ρu : Nat → El K} (hT : TOk G S m T ρ) (hu : TOk G S l u ρu) : ∀ i, i < l → (∀ j, j < i → ∃ e : El m, ev G ρ m e = ρu j) → ∀ e : El m, ev G ρ m e = ρu i → Sz (zM R (i + 1)) (toL m e) := fun i => by
 have hGr := red_real W.g
 have hm := W.le hT
 induction i using Nat.strongRecOn with
 | _ i ih =>
  intro hi hj e he
  obtain ⟨σ, hσ⟩ := choose (P := (· < i)) hj
  obtain ⟨x, _, x2, x3⟩ := Tw.at (t := u) hi
  have hx := x2 R (W.t hu)
  obtain ⟨x3, _⟩ := x3 hu.h
  have hs : ∀ j, j < i → Sz (zM R i) (toL m (σ j)) := fun j h => (ih j h (by omega) (fun j' h' => hj j' (by omega)) _ (hσ j h)).mono (zM_le h)
  have hsz := (ev_sz (W.t hT) (a := x) hs hx).mono (imB_mono (cB_le' hm) (Nat.le_refl _) (Nat.le_refl _))
  have hee : mul m T e e = ev T σ i x := ev_inj hGr hT.h hT.r (by rw [ev_mul hT.h, he, x3, ev_ev hT.h hσ])
  exact (Sz.rootS (W.t hT) hT.r hsz hee).mono (by have := gC_le (r := R) hm; show _ ≤ zM R i + imB (cB R 3) (zM R i) i R + gC R 3; omega)
theorem ext_step (hG : red K G) {m : Nat} {T : Tw m} (hT : TOk G S m T ρ) {g : El K} (hg : g ∈ S) (h1 : sgn K G g = 1) {e : El m} (he : ev G ρ m e = mul K G g g) : ∃ (m' : Nat) (T' : Tw m') (ρ' : Nat → El K), TOk G S m' T' ρ' ∧ Beg m T m' T' ∧ (∀ i, i < m → ρ' i = ρ i) ∧ ∃ e' : El m', ev G ρ' m' e' = g := by
 have hGr := red_real hG
 have L := ring K G
 have Sg := sgn_ok hGr
 by_cases hs : isSq m T e
 · obtain ⟨y, hy⟩ := hs
   refine ⟨m, T, ρ, hT, Beg.rf, fun _ _ => rfl, ?_⟩
   have h2 : mul K G (ev G ρ m y) (ev G ρ m y) = mul K G g g := by rw [← ev_mul hT.h, hy, he]
   by_cases h0 : 0 ≤ sgn K G (ev G ρ m y)
   · exact ⟨y, sq_pos hG h2 h0 (by rw [h1]; decide)⟩
   · refine ⟨neg m y, sq_pos hG ?_ (by rw [ev_neg, Sg.sn]; omega) (by rw [h1]; decide)⟩
     rw [ev_neg, L.mn, L.nm, L.nn, h2]
 · refine ⟨m + 1, tsn T e, _, hT.snoc hGr hs hg he.symm h1, Beg.snoc, fun i hi => if_neg (by omega), root (m + 1) m, ?_⟩
   rw [ev_root (by omega)]
   exact if_pos rfl
theorem ev_lift {m m' k : Nat} {T : Tw m} {T' : Tw m'} {ρ' : Nat → El K} (hB : Beg m T m' T') (ha : ∀ i, i < m → ρ' i = ρ i) {g : El K} (h : ∃ e : El m, ev G ρ m e = g) : ∃ e : El m', ev G ρ' m' e = g := by
 obtain ⟨e, he⟩ := h
 obtain ⟨b, hb⟩ := Lf.ex hB.le e
 exact ⟨b, by rw [hb.ev hB.le, ev_congr ha, he]⟩
theorem ext_ex (hG : red K G) {m l : Nat} {T : Tw m} {u : Tw l} {ρu : Nat → El K} (hT : TOk G S m T ρ) (hu : TOk G S l u ρu) : ∀ i, i ≤ l → ∃ (m' : Nat) (T' : Tw m') (ρ' : Nat → El K), TOk G S m' T' ρ' ∧ Beg m T m' T' ∧ (∀ i, i < m → ρ' i = ρ i) ∧ ∀ j, j < i → ∃ e : El m', ev G ρ' m' e = ρu j := fun i => by
 induction i with
 | zero => exact fun _ => ⟨m, T, ρ, hT, Beg.rf, fun _ _ => rfl, fun j hj => absurd hj (Nat.not_lt_zero _)⟩
 | succ i ih =>
  intro hi
  obtain ⟨m1, T1, ρ1, a1, a2, a3, a4⟩ := ih (by omega)
  obtain ⟨σ, hσ⟩ := choose (P := (· < i)) a4
  obtain ⟨x, _, _, x3⟩ := Tw.at (t := u) (show i < l by omega)
  obtain ⟨x3, x4⟩ := x3 hu.h
  obtain ⟨m2, T2, ρ2, b1, b2, b3, b4⟩ := ext_step hG a1 (hu.s i (by omega)) x4 (e := ev T1 σ i x) (by rw [ev_ev a1.h hσ, x3])
  refine ⟨m2, T2, ρ2, b1, a2.tr b2, fun j hj => by rw [b3 j (by have := a2.le; omega), a3 j hj], fun j hj => ?_⟩
  by_cases e : j = i
  · rw [e]; exact b4
  · exact ev_lift (k := 0) b2 b3 (a4 j (by omega))
def Fl (G : Tw K) (S : List (El K)) (N : List Nm) (m : Nat) (T : Tw m) (ρ : Nat → El K) : Prop := TOk G S m T ρ ∧ ∀ z ∈ N, ∀ ρz, TOk G S z.k z.t ρz → ∀ j, j < z.k → ∃ e : El m, ev G ρ m e = ρz j
theorem Fl.ex (hG : red K G) {m : Nat} {T : Tw m} (hT : TOk G S m T ρ) : ∀ {N : List Nm}, (∀ z ∈ N, ∃ ρz, TOk G S z.k z.t ρz) → ∃ (m' : Nat) (T' : Tw m') (ρ' : Nat → El K), Fl G S N m' T' ρ' ∧ Beg m T m' T' ∧ (∀ i, i < m → ρ' i = ρ i)
 | [], _ => ⟨m, T, ρ, ⟨hT, fun z h => nomatch h⟩, Beg.rf, fun _ _ => rfl⟩
 | z :: N, h => by
  obtain ⟨m1, T1, ρ1, ⟨a1, a2⟩, a3, a4⟩ := Fl.ex hG hT (N := N) fun z hz => h z (List.mem_cons_of_mem _ hz)
  obtain ⟨ρz, hz⟩ := h z (List.mem_cons_self ..)
  obtain ⟨m2, T2, ρ2, b1, b2, b3, b4⟩ := ext_ex hG a1 hz z.k (Nat.le_refl _)
  refine ⟨m2, T2, ρ2, ⟨b1, fun y hy ρy hy1 j hj => ?_⟩, a3.tr b2, fun i hi => by rw [b3 i (by have := a3.le; omega), a4 i hi]⟩
  rcases List.mem_cons.1 hy with e | hy
  · subst e
    rw [hy1.h.uniq hG hz.h j hj]; exact b4 j hj
  · exact ev_lift (k := 0) b2 b3 (a2 y hy ρy hy1 j hj)
def Gs (G : Tw K) (S : List (El K)) (N : List Nm) (b : Nat) (v : El K) : Prop := ∀ (m : Nat) (T : Tw m) (ρ : Nat → El K), Fl G S N m T ρ → ∃ a : El m, ev G ρ m a = v ∧ Sz b (toL m a)
variable {N : List Nm} {b c : Nat} {v w : El K}
theorem Gs.mono (h : Gs G S N b v) (hb : b ≤ c) : Gs G S N c v := fun m T ρ hF => let ⟨a, h1, h2⟩ := h m T ρ hF; ⟨a, h1, h2.mono hb⟩
theorem Gs.add (h : Gs G S N b v) (k : Gs G S N c w) : Gs G S N (b + c + 1) (Tow.add K v w) := fun m T ρ hF => by
 obtain ⟨x, h1, h2⟩ := h m T ρ hF
 obtain ⟨y, k1, k2⟩ := k m T ρ hF
 exact ⟨Tow.add m x y, by rw [ev_add, h1, k1], by rw [toL_add]; exact h2.add k2⟩
theorem Gs.neg (h : Gs G S N b v) : Gs G S N b (Tow.neg K v) := fun m T ρ hF => by
 obtain ⟨x, h1, h2⟩ := h m T ρ hF
 exact ⟨Tow.neg m x, by rw [ev_neg, h1], by rw [toL_neg]; exact h2.neg⟩
theorem Gs.mul (W : Wy G S R) (h : Gs G S N b v) (k : Gs G S N c w) : Gs G S N (b + c + cB R 3) (Tow.mul K G v w) := fun m T ρ hF => by
 obtain ⟨x, h1, h2⟩ := h m T ρ hF
 obtain ⟨y, k1, k2⟩ := k m T ρ hF
 exact ⟨Tow.mul m T x y, by rw [ev_mul hF.1.h, h1, k1], (h2.mul (W.t hF.1) k2).mono (by have := cB_le' (r := R) (W.le hF.1); omega)⟩
theorem Gs.rat {q : Rat} (h : Qs p q) : Gs G S N (p + 1) (Tow.rat K q) := fun m T ρ hF => ⟨Tow.rat m q, ev_rat, Sz.rat m h⟩
theorem Gs.sz (hG : red K G) (hN : ∀ z ∈ N, ∃ ρz, TOk G S z.k z.t ρz) (h : Gs G S N b v) {m : Nat} {T : Tw m} (hT : TOk G S m T ρ) {a : El m} (ha : ev G ρ m a = v) : Sz b (toL m a) := by
 obtain ⟨m', T', ρ', h1, h2, h3⟩ := Fl.ex hG hT hN
 obtain ⟨x, x1, x2⟩ := h m' T' ρ' h1
 obtain ⟨y, hy⟩ := Lf.ex h2.le a
 have e : y = x := ev_inj (red_real hG) h1.1.h h1.1.r (by rw [hy.ev h2.le, ev_congr h3, ha, x1])
 rw [← e, hy] at x2
 exact Sz.left x2
theorem NOk.re (W : Wy G S R) (hN : ∀ z ∈ N, ∃ ρz, TOk G S z.k z.t ρz) {x : Nm} (hx : NOk G S r p x v) (h : Gs G S N b v) : NOk G S R b x v := by
 obtain ⟨ρx, h1, h2⟩ := hx.ex
 exact ⟨⟨ρx, h1, h2⟩, W.t h1, h.sz W.g hN h1 h2⟩
end
section
theorem imB_up {c z p : Nat} : ∀ {i j : Nat}, i ≤ j → imB c z i p ≤ imB c z j p
 | i, 0, h => by rw [show i = 0 by omega]; exact Nat.le_refl _
 | i, j + 1, h => by
  by_cases e : i = j + 1
  · rw [e]; exact Nat.le_refl _
  · exact Nat.le_trans (imB_up (show i ≤ j by omega)) (by show _ ≤ 2 * imB c z j p + z + c + 1; omega)
def wR : Nat := 15346
def wE : Nat := 31691534
def jW (p : Nat) : Nat := 8 * p + 73803682
def oW (p : Nat) : Nat := 16 * p + 147714794
theorem wC : cB wR 3 = 107429 := by decide +kernel
theorem wZ : zM wR 3 = 10435952 := by decide +kernel
theorem wR_eq : wR = 15346 := rfl
theorem wE_eq : wE = 31691534 := rfl
theorem wQ : qB wR 3 wE ≤ 4398046511104 ∧ qB wR 3 wR ≤ 4398046511104 ∧ vB wR 3 (wE + gC wR 3) ≤ 4398046511104 ∧ vB wR 3 wR ≤ 4398046511104 := by decide +kernel
theorem wV : vB wR 3 (oW 4000000000) ≤ 4398046511104 := by decide +kernel
theorem jW_eq {p : Nat} : imB (cB wR 3) (zM wR 3) 3 p = jW p := by
 show 2 * (2 * (2 * (p + 1) + zM wR 3 + cB wR 3 + 1) + zM wR 3 + cB wR 3 + 1) + zM wR 3 + cB wR 3 + 1 = 8 * p + 73803682
 rw [wC, wZ]; omega
theorem jW_im {m i p : Nat} (hm : m ≤ 3) (hi : i ≤ 3) : imB (cB wR m) (zM wR 3) i p ≤ jW p := by
 rw [← jW_eq]
 exact Nat.le_trans (imB_mono (cB_le' hm) (Nat.le_refl _) (Nat.le_refl _)) (imB_up hi)
theorem wE_im {m i : Nat} (hm : m ≤ 3) (hi : i ≤ 2) : imB (cB wR m) (zM wR 3) i wR ≤ wE := by
 refine Nat.le_trans (Nat.le_trans (imB_mono (cB_le' hm) (Nat.le_refl _) (Nat.le_refl _)) (imB_up hi)) ?_
 show 2 * (2 * (wR + 1) + zM wR 3 + cB wR 3 + 1) + zM wR 3 + cB wR 3 + 1 ≤ 31691534
 rw [wC, wZ, wR_eq]
 decide
variable {K : Nat} {G : Tw K} {S : List (El K)} {p : Nat}
end
end Go.Tow
namespace Go.Proofs.YtpgcfjpkilabfaaGreatDoor.R9
open Go Go.Vm Go.Num Go.Tow Go.Proofs.YtpgcfjpkilabfaaGreatDoor
theorem _root_.Go.Tow.RtV.sig {K : Nat} {G : Tw K} {m z j : Nat} {rs : List (List Rat)} {ρ ρu : Nat → Tow.El K} (h : RtV G m z j rs ρ ρu) : ∃ σ : Nat → Tow.El m, Rts m z j rs σ ∧ ∀ i, i < j → ev G ρ m (σ i) = ρu i := by
 have : ∀ i, ∃ b : Tow.El m, i < j → (∃ (n : Nat) (s : Tow.El n), n ≤ m ∧ rs[i]? = some (toL n s) ∧ Lf s b ∧ Sz z (toL m b)) ∧ ev G ρ m b = ρu i := fun i => by
  by_cases hi : i < j
  · obtain ⟨n, s, h1, h2, h3, h4⟩ := h i hi
    obtain ⟨b, hb⟩ := Lf.ex h1 s
    exact ⟨b, fun _ => ⟨⟨n, s, h1, h2, hb, hb.sz h3⟩, by rw [hb.ev h1, h4]⟩⟩
  · exact ⟨zero m, fun h => absurd h hi⟩
 obtain ⟨σ, hσ⟩ := Classical.axiomOfChoice this
 exact ⟨σ, fun i hi => (hσ i hi).1, fun i hi => (hσ i hi).2⟩
theorem root_sz (m : Nat) : Sz 3 (toL (m + 1) (root (m + 1) m)) := by
 rw [root_top]
 exact ((Sz.zero m).append (Sz.rat m (x := 1) (p := 1) ⟨show (1 : Rat).num.natAbs < 2 ^ 1 by decide +kernel, show ((1 : Rat).den : Int).natAbs < 2 ^ 1 by decide +kernel⟩)).mono (by omega)
section
variable {K : Nat} {G : Tw K} {S : List (Tow.El K)} {k l : Nat} {t : Tw k} {u : Tw l} {ρ ρu : Nat → Tow.El K}
def ExQ (G : Tw K) (S : List (Tow.El K)) (l k : Nat) (t : Tw k) (ρ ρu : Nat → Tow.El K) (f : D → D → AV) (v : AV) : Prop := ∃ (m : Nat) (T : Tw m) (rs : List (List Rat)) (ρ' : Nat → Tow.El K), v = f (dt T) (dts rs) ∧
 TOk G S m T ρ' ∧ Beg k t m T ∧ (∀ i, i < k → ρ' i = ρ i) ∧ RtV G m (zM wR 3) l rs ρ' ρu ∧ ((∀ i, i < l → ∃ e : Tow.El k, ev G ρ k e = ρu i) → toT m T = toT k t)
def ExI (G : Tw K) (S : List (Tow.El K)) (l k : Nat) (t : Tw k) (ρ ρu : Nat → Tow.El K) (x : Nat × (Σ m, Tw m) × List (List Rat)) : Prop := x.1 ≤ l ∧ x.2.2.length = x.1 ∧ ∃ ρ' : Nat → Tow.El K, TOk G S x.2.1.1 x.2.1.2 ρ' ∧ Beg k t x.2.1.1 x.2.1.2 ∧ (∀ i, i < k → ρ' i = ρ i) ∧ RtV G x.2.1.1 (zM wR 3) x.1 x.2.2 ρ' ρu ∧ ((∀ i, i < l → ∃ e : Tow.El k, ev G ρ k e = ρu i) → toT x.2.1.1 x.2.1.2 = toT k t)
theorem ExI.sq (W : Wy G S wR) (hu : TOk G S l u ρu) {i m : Nat} {T : Tw m} {rs : List (List Rat)} {x : Tow.El i} (h : ExI G S l k t ρ ρu (i, ⟨m, T⟩, rs)) (hil : i < l) {σ : Nat → Tow.El m} {ρ' : Nat → Tow.El K} (hT : TOk G S m T ρ') (hB : Beg k t m T) (ha : ∀ i, i < k → ρ' i = ρ i) (hrt : RtV G m (zM wR 3) i rs ρ' ρu) (hc : (∀ i, i < l → ∃ e : Tow.El k, ev G ρ k e = ρu i) → toT m T = toT k t) (s2 : ∀ j, j < i → ev G ρ' m (σ j) = ρu j) (hev : ev G ρ' m (ev T σ i x) = mul K G (ρu i) (ρu i)) (x4 : sgn K G (ρu i) = 1) {y : Tow.El m} (h1 : mul m T y y = ev T σ i x) (h2 : 0 ≤ sgn m T y) : ExI G S l k t ρ ρu (i + 1, ⟨m, T⟩, rs ++ [toL m y]) := by
 have hG := W.g
 have hGr := red_real hG
 have hl3 := W.le hu
 obtain ⟨_, hrl, _⟩ := h
 have hrl : rs.length = i := hrl
 have hy : ev G ρ' m y = ρu i := sq_pos hG (by rw [← ev_mul hT.h, h1, hev]) (by rw [ev_sgn hGr hT.h]; exact h2) (by rw [x4]; decide)
 exact ⟨hil, by simp [hrl], ρ', hT, hB, ha, hrt.snoc hrl (Nat.le_refl _) ((rt_sz W hT hu i hil (fun j hj => ⟨σ j, s2 j hj⟩) y hy).mono (zM_le (by omega))) hy, hc⟩
theorem ExI.new (W : Wy G S wR) (hu : TOk G S l u ρu) {i m : Nat} {T : Tw m} {rs : List (List Rat)} {x : Tow.El i} (h : ExI G S l k t ρ ρu (i, ⟨m, T⟩, rs)) (hil : i < l) {σ : Nat → Tow.El m} {ρ' : Nat → Tow.El K} (hT : TOk G S m T ρ') (hB : Beg k t m T) (ha : ∀ i, i < k → ρ' i = ρ i) (hrt : RtV G m (zM wR 3) i rs ρ' ρu) (hev : ev G ρ' m (ev T σ i x) = mul K G (ρu i) (ρu i)) (x4 : sgn K G (ρu i) = 1) (h2 : ¬ isSq m T (ev T σ i x)) : ExI G S l k t ρ ρu (i + 1, ⟨m + 1, tsn T (ev T σ i x)⟩, rs ++ [toL (m + 1) (root (m + 1) m)]) := by
 have hG := W.g
 have hGr := red_real hG
 obtain ⟨_, hrl, _⟩ := h
 have hrl : rs.length = i := hrl
 have hT' := hT.snoc hGr h2 (hu.s i hil) (a := ev T σ i x) hev.symm x4
 refine ⟨hil, by simp [hrl], _, hT', hB.tr Beg.snoc, fun j hj => ?_, ?_, fun hh => ?_⟩
 · have := hB.le
   show (if j = m then ρu i else ρ' j) = ρ j
   rw [if_neg (by omega), ha j hj]
 · refine (hrt.mono (Nat.le_succ _) (Nat.le_refl _) (fun j hj => if_neg (by omega))).snoc hrl (Nat.le_refl _) ((root_sz m).mono (by rw [wZ]; decide)) ?_
   rw [ev_root (by omega)]; exact if_pos rfl
 · obtain ⟨b, hb⟩ := hh i hil
   obtain ⟨b', hb'⟩ := Lf.ex hB.le b
   refine absurd ⟨b', ev_inj hGr hT.h hT.r ?_⟩ h2
   rw [ev_mul hT.h, hb'.ev hB.le, ev_congr ha, hb, hev]
def ExB (m : Nat) : Prop := qB wR m wE ≤ 4398046511104 ∧ qB wR m wR ≤ 4398046511104 ∧ vB wR m (wE + gC wR m) ≤ 4398046511104 ∧ vB wR m wR ≤ 4398046511104
theorem exB {m : Nat} (hm : m ≤ 3) : ExB m := by
 obtain ⟨q1, q2, q3, q4⟩ := wQ
 have p1 := qB_le (r := wR) (p := wE) hm
 have p2 := qB_le (r := wR) (p := wR) hm
 have p3 := gC_le (r := wR) hm
 have p4 := vB_mono (r := wR) (k := m) (show wE + gC wR m ≤ wE + gC wR 3 by omega)
 have p5 := vB_le (r := wR) (s := wE + gC wR 3) hm
 have p6 := vB_le (r := wR) (s := wR) hm
 exact ⟨by omega, by omega, by omega, by omega⟩
theorem ExI.rad (W : Wy G S wR) (hu : TOk G S l u ρu) {i m : Nat} {T : Tw m} {rs : List (List Rat)} {ρ' : Nat → Tow.El K} (hil : i < l) (hT : TOk G S m T ρ') (hrt : RtV G m (zM wR 3) i rs ρ' ρu) : ∃ (x : Tow.El i) (σ : Nat → Tow.El m), (toT l u)[i]? = some (toL i x) ∧ Sz wR (toL i x) ∧ Rts m (zM wR 3) i rs σ ∧ (∀ j, j < i → ev G ρ' m (σ j) = ρu j) ∧ ev G ρ' m (ev T σ i x) = mul K G (ρu i) (ρu i) ∧ sgn K G (ρu i) = 1 ∧ Sz wE (toL m (ev T σ i x)) := by
 have hl3 := W.le hu
 have hm3 := W.le hT
 obtain ⟨x, x1, x2, x3⟩ := Tw.at (t := u) hil
 have x2 := x2 wR (W.t hu)
 obtain ⟨x3, x4⟩ := x3 hu.h
 obtain ⟨σ, s1, s2⟩ := hrt.sig
 exact ⟨x, σ, x1, x2, s1, s2, by rw [ev_ev hT.h s2, x3], x4, (ev_sz (W.t hT) (a := x) (fun i' h' => (s1 i' h').elim fun _ h => h.elim fun _ h => h.2.2.2) x2).mono (wE_im hm3 (by omega))⟩
end
end Go.Proofs.YtpgcfjpkilabfaaGreatDoor.R9
namespace Go.Proofs.YtpgcfjpkilabfaaGreatDoor
open Go Go.Vm Go.Num Go.Tow
abbrev dN (x : Nm) : D := .st (.pr (dt x.t) (de x.a))
abbrev dNs (l : List Nm) : D := .sl 2 (l.map dN)
end Go.Proofs.YtpgcfjpkilabfaaGreatDoor
namespace Go.Proofs.YtpgcfjpkilabfaaGreatDoor.R9
open Go Go.Vm Go.Num Go.Tow Go.Proofs.YtpgcfjpkilabfaaGreatDoor
section
variable {K : Nat} {G : Tw K} {S : List (Tow.El K)} {r p : Nat} {x y : Nm} {vx vy : Tow.El K}
def CmP (G : Tw K) (S : List (Tow.El K)) (x y : Nm) (m : Nat) (T : Tw m) : Prop := ∃ ρ, TOk G S m T ρ ∧ ∀ z ∈ [x, y], ∀ ρz, TOk G S z.k z.t ρz → ∀ j, j < z.k → ∃ e : Tow.El m, ev G ρ m e = ρz j
theorem CmP.mk (hG : red K G) {ρx ρy : Nat → Tow.El K} (hx1 : TOk G S x.k x.t ρx) (hy1 : TOk G S y.k y.t ρy) {m : Nat} {T : Tw m} {ρ : Nat → Tow.El K} (h1 : TOk G S m T ρ) (h3 : ∀ j, j < x.k → ∃ e : Tow.El m, ev G ρ m e = ρx j) (h4 : ∀ j, j < y.k → ∃ e : Tow.El m, ev G ρ m e = ρy j) : CmP G S x y m T := ⟨_, h1, fun z hz ρz hρ j hj => by
 rcases List.mem_cons.1 hz with rfl | hz
 · obtain ⟨e, he⟩ := h3 j hj; exact ⟨e, by rw [he]; exact hx1.h.uniq hG hρ.h j hj⟩
 · obtain rfl := List.mem_singleton.1 hz
   obtain ⟨e, he⟩ := h4 j hj; exact ⟨e, by rw [he]; exact hy1.h.uniq hG hρ.h j hj⟩⟩
theorem beg_ag (hG : red K G) {k m : Nat} {t : Tw k} {T : Tw m} {ρ ρ' : Nat → Tow.El K} (h : Beg k t m T) (h1 : TOk G S k t ρ) (h2 : TOk G S m T ρ') : ∀ i, i < k → ρ' i = ρ i := (h.hom h2.h).uniq hG h1.h
theorem rts {k : Nat} {ρ : Nat → Tow.El K} (j : Nat) (hj : j < k) : ∃ e : Tow.El k, ev G ρ k e = ρ j := ⟨root _ j, ev_root hj⟩
theorem beg_rt (hG : red K G) {k m : Nat} {t : Tw k} {T : Tw m} {ρ ρ' : Nat → Tow.El K} (h : Beg k t m T) (h1 : TOk G S k t ρ) (h2 : TOk G S m T ρ') (j : Nat) (hj : j < k) : ∃ e : Tow.El m, ev G ρ' m e = ρ j := by
 obtain ⟨e, he⟩ := rts (G := G) (k := m) (ρ := ρ') j (Nat.lt_of_lt_of_le hj h.le)
 exact ⟨e, by rw [he]; exact beg_ag hG h h1 h2 j hj⟩
theorem CmP.ext (hG : red K G) {ρx ρy : Nat → Tow.El K} (hx1 : TOk G S x.k x.t ρx) (hy1 : TOk G S y.k y.t ρy) {m z : Nat} {T : Tw m} {rs : List (List Rat)} {ρ' : Nat → Tow.El K} (g1 : TOk G S m T ρ') (g2 : Beg x.k x.t m T) (g5 : RtV G m z y.k rs ρ' ρy) : CmP G S x y m T := .mk hG hx1 hy1 g1 (beg_rt hG g2 hx1 g1) fun j hj => by
 obtain ⟨n, s, s1, _, _, s4⟩ := g5 j hj
 obtain ⟨b, hb⟩ := Lf.ex s1 s
 exact ⟨b, by rw [hb.ev s1, s4]⟩
theorem both (hx : NOk G S r p x vx) (hy : NOk G S r p y vy) (i : Nat) (hi : i < 2) : ∃ (z : Nm) (v : Tow.El K) (ρz : Nat → Tow.El K), [x, y][i]? = some z ∧ [vx, vy][i]? = some v ∧ TOk G S z.k z.t ρz ∧ ev G ρz z.k z.a = v ∧ Sz p (toL z.k z.a) := by
 have : i = 0 ∨ i = 1 := by omega
 rcases this with rfl | rfl
 · obtain ⟨ρ, h1, h2⟩ := hx.ex; exact ⟨x, vx, ρ, rfl, rfl, h1, h2, hx.p⟩
 · obtain ⟨ρ, h1, h2⟩ := hy.ex; exact ⟨y, vy, ρ, rfl, rfl, h1, h2, hy.p⟩
def JnR (G : Tw K) (S : List (Tow.El K)) (p : Nat) (vx vy : Tow.El K) (m : Nat) (T : Tw m) (a b : Tow.El m) : Prop := ∃ ρ, TOk G S m T ρ ∧ ev G ρ m a = vx ∧ ev G ρ m b = vy ∧ Sz (jW p) (toL m a) ∧ Sz (jW p) (toL m b)
def JnI (G : Tw K) (p m : Nat) (ρ : Nat → Tow.El K) (vx vy : Tow.El K) (s : Nat × List (Tow.El m)) : Prop := s.1 ≤ 2 ∧ s.2.length = s.1 ∧ ∀ i, i < s.1 → ∃ a v, s.2[i]? = some a ∧ [vx, vy][i]? = some v ∧ ev G ρ m a = v ∧ Sz (jW p) (toL m a)
theorem JnI.step {m : Nat} {ρ : Nat → Tow.El K} {j : Nat} {bs : List (Tow.El m)} {v : Tow.El K} (h : JnI G p m ρ vx vy (j, bs)) (hj : j < 2) (z2 : [vx, vy][j]? = some v) {b : Tow.El m} (h1 : ev G ρ m b = v) (h2 : Sz (jW p) (toL m b)) : JnI G p m ρ vx vy (j + 1, bs ++ [b]) := by
 obtain ⟨_, hjl, has⟩ := h
 have hjl : bs.length = j := hjl
 refine ⟨hj, by simp [hjl], fun i hi => ?_⟩
 by_cases e : i = j
 · subst e
   exact ⟨b, v, by rw [List.getElem?_append_right (by omega), hjl, Nat.sub_self]; rfl, z2, h1, h2⟩
 · obtain ⟨a, w, g1, g2⟩ := has i (by have : i < j + 1 := hi; show i < j; omega)
   exact ⟨a, w, by rw [List.getElem?_append_left (by omega), g1], g2⟩
theorem JnI.done {m : Nat} {T : Tw m} {ρ : Nat → Tow.El K} {bs : List (Tow.El m)} (hT : TOk G S m T ρ) (h : JnI G p m ρ vx vy (2, bs)) : ∃ a b, bs = [a, b] ∧ JnR G S p vx vy m T a b := by
 obtain ⟨_, hjl, has⟩ := h
 match bs, hjl with
 | [a, b], _ =>
  obtain ⟨a', v, a1, a2, a3, a4⟩ := has 0 (show 0 < 2 by decide)
  obtain ⟨b', w, b1, b2, b3, b4⟩ := has 1 (show 1 < 2 by decide)
  cases a1; cases a2; cases b1; cases b2
  exact ⟨a, b, rfl, ρ, hT, a3, b3, a4, b4⟩
theorem img (W : Wy G S wR) {m l : Nat} {T : Tw m} {u : Tw l} {ρ ρz : Nat → Tow.El K} (hT : TOk G S m T ρ) (hu : TOk G S l u ρz) {rs : List (List Rat)} {σ : Nat → Tow.El m} (s1 : Rts m (zM wR 3) l rs σ) {a : Tow.El l} (ha : Sz p (toL l a)) : Sz (jW p) (toL m (ev T σ l a)) := (ev_sz (W.t hT) (fun i h => (s1 i h).elim fun _ h => h.elim fun _ h => h.2.2.2) ha).mono (jW_im (W.le hT) (W.le hu))
theorem jW_ge {p : Nat} : p ≤ jW p := by unfold jW; omega
end
open Go Go.Vm Go.Num Go.Tow Go.Proofs.YtpgcfjpkilabfaaGreatDoor
abbrev n0 : D := .st (.pr (dts []) (dqs []))
theorem fit0 {g : Hp} {K : Hpl} : Fit g K (.st (.pr .nil .nil)) (.d n0) := .sd (.pd (.nil rfl) (.nil rfl))
section
variable {K : Nat} {G : Tw K} {S : List (Tow.El K)} {r p : Nat} {x y : Nm} {vx vy : Tow.El K}
def OpR (G : Tw K) (S : List (Tow.El K)) (p : Nat) (w : Tow.El K) (v : AV) : Prop := ∃ z : Nm, v = .tup (.pr (.d (dN z)) (.d (.int .i64 0))) ∧ NOk G S wR p z w
def RtR (x : Nm) (v : AV) : Prop := ∃ z : Nm, v = .tup (.pr (.d (dN z)) (.d (.int .i64 0))) ∧ ((∃ y, z = ⟨x.k, x.t, y⟩ ∧ Tow.mul x.k x.t y y = x.a ∧ 0 ≤ sgn x.k x.t y) ∨ (z = ⟨x.k + 1, tsn x.t x.a, root (x.k + 1) x.k⟩ ∧ 0 ≤ sgn x.k x.t x.a ∧ ¬ isSq x.k x.t x.a))
theorem FromRat_ok {q : Rat} : C0 143 [.d (dq q)] (· = .d (dN ⟨0, (), q⟩)) := by
 refine En Tryz.func143 fun _ _ _ => ?_
 exact R1 rfl (.sd (.pd (.nil rfl) (.lit rfl)))
end
end Go.Proofs.YtpgcfjpkilabfaaGreatDoor.R9
namespace Go.Vm
open Go
section
variable {tb : Nat → Option TI}
end
section
variable {c : Cx} {s : St}
variable {p : Pl}
end
end Go.Vm
namespace Go.Proofs.YtpgcfjpkilabfaaGreatDoor.R9
open Go Go.Vm Go.Num Go.Tow Go.Proofs.YtpgcfjpkilabfaaGreatDoor
end Go.Proofs.YtpgcfjpkilabfaaGreatDoor.R9
namespace Go.Tow
open Go Go.Num Go.Proofs.YtpgcfjpkilabfaaGreatDoor
end Go.Tow
namespace Go.Proofs.YtpgcfjpkilabfaaGreatDoor.R9
open Go Go.Vm Go.Num Go.Tow Go.Proofs.YtpgcfjpkilabfaaGreatDoor
section
section
variable {K : Nat} {G : Tw K} {S : List (Tow.El K)} {r p : Nat} {x : Nm} {v : Tow.El K}
end
end
section
end
end Go.Proofs.YtpgcfjpkilabfaaGreatDoor.R9
namespace Go.Tow
open Go Go.Num Go.Proofs.YtpgcfjpkilabfaaGreatDoor
variable {K : Nat} {G : Tw K} {ρ : Nat → El K} {S : List (El K)} {r p : Nat} {x : Nm} {v : El K}
end Go.Tow
namespace Go.Proofs.YtpgcfjpkilabfaaGreatDoor
open Go Go.Vm Go.Num Go.Tow
end Go.Proofs.YtpgcfjpkilabfaaGreatDoor
namespace Go.Proofs.YtpgcfjpkilabfaaGreatDoor.R9
open Go Go.Vm Go.Num Go.Tow Go.Proofs.YtpgcfjpkilabfaaGreatDoor
end Go.Proofs.YtpgcfjpkilabfaaGreatDoor.R9
namespace Go.Vm
open Go Go.ChangeShapes Go.WideShapes Go.ChangeAt Go.RowKit
end Go.Vm
namespace Go.Proofs.YtpgcfjpkilabfaaGreatDoor
open Go Go.Vm Go.Num
theorem mapE {α : Type} {f : α → D} {l : List D} (h : ∀ y ∈ l, ∃ x, y = f x) : ∃ m : List α, l = m.map f := by
 induction l with
 | nil => exact ⟨[], rfl⟩
 | cons y l ih =>
  obtain ⟨x, hx⟩ := h y (List.mem_cons_self ..)
  obtain ⟨m, hm⟩ := ih fun z hz => h z (List.mem_cons_of_mem _ hz)
  exact ⟨x :: m, by rw [hx, hm]; rfl⟩
open Go Go.Vm Go.Num Go.ChangeShapes Go.WideShapes Go.ChangeAt Go.RowKit
abbrev laidL : List (String × DataW Unit) := [("math/bits.deBruijn32tab", Rows.laid_math_bits_deBruijn32tab), ("math/bits.deBruijn64tab", Rows.laid_math_bits_deBruijn64tab), ("internal/strconv.uint64pow10", Rows.laid_internal_strconv_uint64pow10)]
def tens : List Int := (List.range 20).map fun i => ((10 ^ i : Nat) : Int)
theorem tens_at : ∀ i, i < 20 → tens.getD i 0 = ((10 ^ i : Nat) : Int) := by decide
theorem gTens : Tryz.prog.globalNamed "internal/strconv.uint64pow10" = some 1 := by kernel_rfl
theorem gTensT : (Tryz.prog.globals[1]?).map (·.type) = some 323 := by kernel_rfl
theorem gb_of {W : World} (h : laidMetH Tryz.prog laidL W) : Gb.g Tryz.prog (gw0 W) := by
 rw [Go.MakeChecks.laidMetH_plain Tryz.prog laidL W (by kernel_rfl)] at h
 have h3 : laidMet Tryz.prog (("internal/strconv.uint64pow10", Lib.tabData .u64 tens) :: []) W := h.tail.tail
 have ht := Lib.tabIs_of_head gTens gTensT Tryz.underlying323 Tryz.underlying156 (by kernel_rfl) (by kernel_rfl) h3
 exact fun i hi => ⟨by rw [show (gw0 W).w = W from rfl, ht.cell gTens i (by rw [show tens.length = 20 from rfl]; exact hi), tens_at i hi], fun h => h⟩
def lay (vs : List (Nat × Array Value)) (w : World) : World := { w with heap := vs.foldl (fun h p => h.modify p.1 fun | .cells _ t frozen => .cells p.2 t frozen | o => o) w.heap }
def u8s (l : List Nat) : Array Value := (l.map fun (n : Nat) => Value.int .u8 n).toArray
def tabs : List (Nat × Array Value) := [(1, (tens.map fun z => Value.int .u64 z).toArray),
 (2, u8s [0, 1, 28, 2, 29, 14, 24, 3, 30, 22, 20, 15, 25, 17, 4, 8, 31, 27, 13, 23, 21, 19, 16, 7, 26, 12, 18, 6, 11, 5, 10, 9]),
 (3, u8s [0, 1, 56, 2, 57, 49, 28, 3, 61, 58, 42, 50, 38, 29, 17, 4, 62, 47, 59, 36, 45, 43, 51, 22, 53, 39, 33, 30, 24, 18, 12, 5, 63, 55, 48, 27, 60, 41, 37, 16, 46, 35, 44, 21, 52, 32, 23, 11, 54, 26, 40, 15, 34, 20, 31, 10, 25, 14, 19, 9, 13, 8, 7, 6])]
noncomputable def laidWorld (os : Os) : World := lay tabs (World.holding Tryz.prog os ⟨#[], #[], []⟩)
theorem laid_met (os : Os) (args : Array Value) : laidMet Tryz.prog laidL ((laidWorld os).forCall (fun _ _ => 0) ⟨#[], args, []⟩).memory :=
 laidMet_of_run' 8 (by kernel_rfl) (by kernel_rfl)
end Go.Proofs.YtpgcfjpkilabfaaGreatDoor
namespace Go.Vm
open Go
section
variable {c : Cx} {s : St} {p : Pl}
theorem nxRaw {o : Oper} {v : AV} {us : Hpl} (h : nxO c.tb c.n s = some (p, o)) (hc : isCall o = false) (hdr : p.dr = false) (hr : Raw c.P o (sem p.E p.H) (v, us)) (k : p.nx' c v us) : StP c s := by
 obtain ⟨hw, hd⟩ := nxO_w h
 refine nxO_ok h (.inl ⟨hw, (Wb_eff' hc).2 (.inr ⟨hdr, (v, us), hr, ?_⟩)⟩)
 unfold aft
 rw [sem_put, ← hd]; exact Pl.nx'_eq.1 k
noncomputable def nxAm (tb : Nat → Option TI) (n : Nat) (s : St) : Option (Pl × Oper × Operand × Operand × TypeId × TypeId × TI × Nat × Int) := match nxO tb n s with
 | some (p, o) => match o.op, p.dr with
  | .call ⟨.builtin .append, ⟨[x, y]⟩, ⟨[T, T']⟩⟩, false => match getE (look p.E) x, getE (look p.E) y, tb T, tb T' with
   | some .nil, some (.d (.int .i64 m)), some ti, some ⟨.int _ _, _, _, _⟩ => match look p.H (o.dst.getD 0), ti.z, Nat.ble ti.eb 128 with
    | none, .sl sz _, true => some (p, o, x, y, T, T', ti, sz, m)
    | _, _, _ => none
   | _, _, _, _ => none
  | _, _ => none
 | none => none
end
theorem run_am {P : Program} (w : World) (t tn ty e : TypeId) (i : TypeInfo) (z : Value) (k kn : IntKind) (ht : P.underlying t = some (.slice e)) (htn : P.underlying tn = some (.int kn)) (hi : P.info? e = some i) (hz : i.zero = some z) (q : Option Addr)
 (n : Nat) (h0 : 0 < n) (hs : 0 < i.size) (h63 : (n : Int) ≤ 9223372036854775807) (h48 : n * i.bytes ≤ 281474976710656) :
 (Builtin.append_ #[t, tn] ty #[.slice q 0 0, .int k n]).run P w =
  .ok (.slice (some ⟨w.heap.size, 0, none⟩) n (grownCap w n 0 e)) (w.drew.alloc (.cells (Builtin.zeroCells z.cells n ++ Builtin.zeroCells z.cells (grownCap w n 0 e - n)) e)) := by
 cases q with
 | none => exact Go.Lib.run_append_nil_zeros w t tn ty e i z k kn ht htn hi hz n h0 hs h63 h48
 | some a =>
  have hn : n ≠ 0 := by omega
  have hw : IntKind.i64.wrap (n : Int) = n := by rw [IntKind.wrap_i64]; omega
  have h63' : ¬ (9223372036854775807 < (n : Int)) := by omega
  have h48' : ¬ (281474976710656 < Builtin.nextslicecap n 0 * i.bytes) := by rw [nextslicecap_zero h0]; omega
  have h48i : ¬ (281474976710656 < (n : Int) * (i.bytes : Int)) := by
   rw [← Int.natCast_mul]
   omega
  have hneg : ¬ ((n : Int) < 0) := by omega
  have hns : ¬ (n * i.size = 0) := Nat.mul_ne_zero hn (by omega)
  simp [Builtin.append_, run_underlying ht, run_underlying htn, sizeOf, typeInfo, zeroValue, hi, hz, asInt, asIntOf, hw, hn, hneg, hns, h63', h48', h48i, Question.forced, Builtin.firstCells, loadCells, loadCellsFrom, newRow, grownCap]
section
variable {c : Cx} {s : St} {p : Pl}
theorem ApM {o : Oper} {x y : Operand} {T T' : TypeId} {ti : TI} {sz : Nat} {m : Int} (n : Nat) (h : nxAm c.tb c.n s = some (p, o, x, y, T, T', ti, sz, m)) (h0 : 0 < n) (hr : n ≤ 1099511627776) (k : p.nx' c (.own (o.dst.getD 0) sz 0 n) [(o.dst.getD 0, .arr sz [])]) (hm : m = (n : Int) := by first | exact rfl | omega) : StP c s := by
 subst hm
 unfold nxAm at h
 split at h <;> try cases h
 rename_i p' o' ho
 split at h <;> try cases h
 rename_i x' y' T1 T2 hop hdr
 split at h <;> try cases h
 rename_i m' ti1 kn _ e' eb' ar' hx hy hti hti'
 split at h <;> cases h
 rename_i hd hb hz
 refine nxRaw ho (by unfold isCall; rw [hop]; rfl) hdr (fun N W θ ρ _ hO hN hB hv => ?_) k
 obtain ⟨hk, _⟩ := c.hT _ _ hti
 obtain ⟨t, u1, _, u3⟩ := hk.u
 rw [hz] at u3
 obtain ⟨E, e, hsz, hez, ii, v0, i1, i2, i3, i4, i5⟩ := u3
 subst e
 obtain ⟨hk', _⟩ := c.hT _ _ hti'
 obtain ⟨t', u1', _, u3'⟩ := hk'.u
 have u3' : t' = .int kn := u3'
 subst u3'
 obtain ⟨q, ex⟩ := V_nil (hv _ _ hx)
 obtain ⟨ey, _⟩ := V_int (hv _ _ hy)
 have hsp : 0 < ii.size := by rw [i2]; exact D.size_pos _
 have hbb : n * ii.bytes ≤ 281474976710656 := by rw [i3]; have := Nat.mul_le_mul hr (Nat.le_of_ble_eq_true hb); omega
 have hrun := run_am (P := c.P) W.w T T' o.type E ii v0 .i64 kn u1 u1' i1 i4 q n h0 hsp (by omega) hbb
 have hge := grownCap_ge W.w n 0 E
 have hlt : grownCap W.w n 0 E < 9223372036854775808 := by
  have := Nat.mod_lt (W.w.tape W.w.drawn (.appendCap n 0 E)) (show 0 < 2 ^ 63 - n by omega)
  simp only [grownCap, Question.cut] at *
  omega
 have hzs : v0.cells.size = sz := by rw [hsz, ← D.zc_len, ← i5]; simp
 obtain ⟨W', θ', e1, e2, e3⟩ := own_new (W := W.tick) (θ := θ) (g := (sem p.E p.H).2) (dd := o.dst.getD 0) (E := E) (sz := sz) (xs := []) (cs := []) (c := grownCap W.w n 0 E) (zs := (Builtin.zeroCells v0.cells n ++ Builtin.zeroCells v0.cells (grownCap W.w n 0 E - n)).toList) (Stp.tick hO).obs hN hB hd (fun i x h => by simp at h) (by simp) (by simp) hlt (by
  rw [List.nil_append, Array.length_toList, Array.size_append, size_zeroCells, size_zeroCells, hzs, ← Nat.add_mul]
  congr 1
  omega)
 obtain ⟨cs, ⟨b, pp, k1, k2, k3, k4, k5⟩, k6⟩ := e3
 subst k4
 have k6 : Value.slice (some ⟨W.tick.size, 0, none⟩) 0 (grownCap W.w n 0 E) = .slice pp 0 ((θ' (o.dst.getD 0)).2 - 0) := k6
 injection k6 with k6 k7 k8
 have k5 := k5 (.inl rfl)
 rw [← k6] at k5
 injection k5 with k5
 injection k5 with k5
 have k5 : W.size = b := k5
 subst k5
 refine ⟨W', θ', .value (.slice (some ⟨W.size, 0, none⟩) n (grownCap W.w n 0 E)), ?_, (Stp.tick hO).trans e2, .inr ⟨_, rfl, own_V (xs := []) k1 (by omega) (by omega) k3⟩, fun i hi => ⟨_, by subst hi; exact upd_self _ _ _⟩⟩
 have h1 : execOp ρ o = (Builtin.append_ #[T, T'] o.type #[ρ x, ρ y] >>= fun v => pure (.value v)) := by
  simp [execOp, hop, resolve, invoke, builtin]
 rw [h1, Sem.run_bind, ex, ey, hrun, e1]
 have fin : ∀ {a b : Array Value}, a = b → (Result.ok (Next.value (.slice (some ⟨W.size, 0, none⟩) n (grownCap W.w n 0 E))) (W.w.drew.alloc (.cells a E)) : Result Next) = .ok (.value (.slice (some ⟨W.size, 0, none⟩) n (grownCap W.w n 0 E))) (W.tick.w.alloc (.cells b E)) := by
  rintro a b rfl; rfl
 exact fin (by simp)
noncomputable def nxKp (tb : Nat → Option TI) (n : Nat) (s : St) : Option Pl := match nxA tb n s with
 | some (p, o, [.nil]) => match o.op with
  | .call ⟨.builtin .cap, _, ⟨[T]⟩⟩ => match tb T with
   | some ⟨.sl _ _, _, _, _⟩ => some p
   | _ => none
  | _ => none
 | _ => none
theorem Kp (h : nxKp c.tb c.n s = some p) (k : p.nx c (.d (.int .i64 0))) : StP c s := by
 unfold nxKp at h
 split at h <;> try cases h
 rename_i p' o hA
 split at h <;> try cases h
 rename_i asx T ho
 split at h <;> cases h
 rename_i ht
 refine nxA_ok (us := []) hA ?_ (Pl.nx_nil k)
 rw [ho]
 simp [F, Fp, ht]
theorem Sn {h' : Int} (h : nxS c.tb c.n s = some (p, .nil, none, some h')) (k : p.nx c .nil) (hh : h' = 0 := by exact rfl) : StP c s := nxS_ok h (by subst hh; rfl) k
noncomputable def nxK' (tb : Nat → Option TI) (n : Nat) (s : St) : Option (Pl × FuncId × List AV) := match nxO tb n s with
 | some (p, o) => match o.op with
  | .call ⟨.value x, asx, tys⟩ => match callee (look p.E) x, getEs (look p.E) asx.toList with
   | some (f, ex), some vs => some (p, f, vs ++ ex)
   | _, _ => none
  | _ => none
 | none => none
theorem CoN {f : FuncId} {asx : List AV} {Q : AV → Ob → Prop} (h : nxK' c.tb c.n s = some (p, f, asx)) (hc : CO c.P f asx Q) (k : ∀ v ob, Q v ob → p.nx' c (v.rnf (rnL [(1000000, p.d.getD 0)])) [(p.d.getD 0, ob.rnf (rnL [(1000000, p.d.getD 0)]))])
 (hk : (chkC asx [] [] (p.d.getD 0) p.H && !p.dr) = true := by exact rfl) : StP c s := by
 rw [Bool.and_eq_true, Bool.not_eq_true'] at hk
 obtain ⟨hk, hdr⟩ := hk
 have hk' := hk
 simp only [chkC, Bool.and_eq_true, Bool.not_eq_true'] at hk'
 obtain ⟨⟨⟨⟨⟨k1, k2⟩, k3⟩, k4⟩, k5⟩, k6⟩ := hk'
 have hid : ∀ {a : AV}, a.rnf (rnL []) = a := by
  intro a
  induction a with
  | st a ih => simp only [AV.rnf, ih]
  | tup a ih => simp only [AV.rnf, ih]
  | fm f a ih => simp only [AV.rnf, ih]
  | pr a c iha ihc => simp only [AV.rnf, iha, ihc]
  | _ => rfl
 have hmap : asx.map (AV.rnf (rnL [])) = asx := by rw [show AV.rnf (rnL []) = id from funext fun a => hid, List.map_id]
 unfold nxK' at h
 split at h <;> try cases h
 rename_i p' o ho
 obtain ⟨hw, hd⟩ := nxO_w ho
 split at h <;> try cases h
 rename_i x as' tys he
 split at h <;> cases h
 rename_i ex vs hvs hf
 have kk : ∀ v ob, Q v ob → WL c.P c.tb p.dr p.L (J c p.K) p.l (S.put ((sem p.E p.H).1, upds (sem p.E p.H).2 [(p.d.getD 0, ob.rnf (rnL [(1000000, p.d.getD 0)]))]) o.dst (v.rnf (rnL [(1000000, p.d.getD 0)]))) := fun v ob hv => by
  have := Pl.nx'_eq.1 (k v ob hv)
  have this : WL c.P c.tb p.dr p.L (J c p.K) p.l (sem (putE p.E p.d _) (_ ++ p.H)) := this
  rw [← hd, sem_put]
  exact this
 refine nxO_ok ho (.inl ⟨hw, ?_⟩)
 unfold Wb
 rw [he]
 refine ⟨_, _, _, hf, hvs, ?_⟩
 rw [hdr] at kk ⊢
 obtain ⟨a1, a2⟩ := chkC_cs hc hk (hasK_none k2) (g := look p.H) (fun o x hx => by simp [look] at hx)
 rw [hmap] at a2
 refine ⟨_, _, .inr rfl, ⟨a1, a2⟩, ?_⟩
 rintro v g' ⟨v0, H', d1, ⟨ob, rfl, d2⟩, rfl, rfl⟩
 have := kk v0 ob d2
 simpa [rfH, rnL] using this
end
def AV.nl (o sz : Nat) : AV → AV
 | .nil => .gr o sz []
 | .st a => .st (a.nl o sz)
 | .pr a c => .pr (a.nl o sz) (c.nl o sz)
 | a => a
theorem nl_C {W : GW} {θ : Loc} {o sz : Nat} (h0 : θ o = (none, 0)) : ∀ {a : AV} {cs : List Value}, AV.C W θ a cs → AV.C W θ (a.nl o sz) cs := by
 intro a
 induction a with
 | st a ih => intro cs h; exact ih h
 | pr a c iha ihc => intro cs ⟨u, v, h, h1, h2⟩; exact ⟨u, v, h, iha h1, ihc h2⟩
 | nil => intro cs ⟨p, h⟩; exact ⟨p, by rw [h, h0]; rfl, .inl (by rw [h0]), by simp, by rw [h0]; decide, .inl rfl⟩
 | _ => intro cs h; exact h
theorem nl_ids {o sz i : Nat} : ∀ {a : AV}, (a.nl o sz).ids i → i = o ∨ a.ids i := by
 intro a
 induction a with
 | st a ih => exact ih
 | pr a c iha ihc => exact fun h => h.elim (fun h => (iha h).imp id .inl) fun h => (ihc h).imp id .inr
 | nil => exact .inl
 | _ => exact .inr
section
variable {c : Cx} {s : St} {p : Pl}
theorem nvS {K : List Kt} {E : Env} {H : Hpl} (q o' sz : Nat) {a : AV} (hv : look H q = some (.var a)) (hb : (Nat.blt o' 1000000 && !hasK H o') = true) (k : J c K (sem E ((q, .var (a.nl o' sz)) :: (o', .tok 0 sz) :: H))) : J c K (sem E H) := by
 simp only [Bool.and_eq_true, Bool.not_eq_true'] at hb
 have hb1 := nltb hb.1
 have hn : look H o' = none := hasK_none hb.2
 have hq : q ≠ o' := fun e => by rw [e, hn] at hv; cases hv
 rintro x w ⟨s0, W, θ, hw, hs, hθ, rfl⟩
 have st := Stp.new0 (d := o') hs.obs hb1 hn (x := .tok 0 sz) ⟨by simp, by simp, .inl (by simp)⟩ (fun i h => h)
 have h1 := hs.step0 st
 refine k x w ⟨_, W, _, hw, ?_, fun i hi => (st.hi i hi).trans (hθ i hi), rfl⟩
 rw [show sem E ((q, Ob.var (a.nl o' sz)) :: (o', Ob.tok 0 sz) :: H) = (look E, upd (upd (look H) o' (.tok 0 sz)) q (.var (a.nl o' sz))) from by rw [look_upd, look_upd]]
 have hq1 : upd (look H) o' (.tok 0 sz) q = some (.var a) := by rw [upd_ne hq]; exact hv
 have hdom : ∀ {i : Nat} {y : Ob}, upd (look H) o' (.tok 0 sz) i = some y → ∃ z, upd (upd (look H) o' (.tok 0 sz)) q (.var (a.nl o' sz)) i = some z := fun {i y} hy => by
  by_cases e : i = q
  · subst e; exact ⟨_, upd_self _ _ _⟩
  · exact ⟨y, by rw [upd_ne e]; exact hy⟩
 refine ⟨h1.fm, h1.rel, ⟨fun i y hy => ?_, fun i y b hy hl hb => ?_, fun i j y y' b hy hy' hl hl' b1 b2 => ?_, fun i y j hy hj => ?_⟩, fun t v i ht hi => ?_⟩
 · rcases upd_some hy with ⟨e1, e2⟩ | ⟨e1, e2⟩
   · subst e1; subst e2
     obtain ⟨b, cs, T, r1, r2, r3, r4⟩ := h1.obs.r _ _ hq1
     exact ⟨b, cs, T, r1, r2, nl_C (by simp) r3, r4⟩
   · exact h1.obs.r _ _ e2
 · rcases upd_some hy with ⟨e1, e2⟩ | ⟨e1, e2⟩
   · subst e1; exact h1.obs.new _ _ b hq1 rfl hb
   · exact h1.obs.new _ _ b e2 hl hb
 · rcases upd_some hy with ⟨e1, e2⟩ | ⟨e1, e2⟩ <;> rcases upd_some hy' with ⟨f1, f2⟩ | ⟨f1, f2⟩
   · rw [e1, f1]
   · subst e1; exact h1.obs.dis _ _ _ _ b hq1 f2 rfl hl' b1 b2
   · subst f1; exact h1.obs.dis _ _ _ _ b e2 hq1 hl rfl b1 b2
   · exact h1.obs.dis _ _ _ _ b e2 f2 hl hl' b1 b2
 · rcases upd_some hy with ⟨e1, e2⟩ | ⟨e1, e2⟩
   · subst e2
     rcases nl_ids (a := a) hj with h | h
     · exact hdom (y := .tok 0 sz) (by rw [h]; exact upd_self _ _ _)
     · obtain ⟨z, hz⟩ := h1.obs.ids _ _ j hq1 h
       exact hdom hz
   · obtain ⟨z, hz⟩ := h1.obs.ids _ _ j e2 hj
     exact hdom hz
 · obtain ⟨z, hz⟩ := h1.ids t v i ht hi
   exact hdom hz
theorem Nv {K : List Kt} {E : Env} {H : Hpl} (q o' sz : Nat) {a : AV} (h : nxJ c.tb c.n s = some (K, E, H)) (k : StP c (.j [] K E ((q, .var (a.nl o' sz)) :: (o', .tok 0 sz) :: H))) (hv : look H q = some (.var a) := by exact rfl) (hb : (Nat.blt o' 1000000 && !hasK H o') = true := by exact rfl) : StP c s := by
 unfold nxJ at h
 split at h <;> cases h
 rename_i hr
 exact go 1000 hr (nvS q o' sz hv hb k)
end
end Go.Vm
namespace Go.Proofs.YtpgcfjpkilabfaaGreatDoor
open Go Go.Vm Go.Num Go.Tow
theorem clone_q_own {l : List Rat} (h0 : 0 < l.length) (hl : l.length ≤ 1048576) : CA0 278 [.d (dqs l)] 4 (l.map dq) := by
 refine EnW Tryz.func278 fun _ _ _ _ => ?_
 refine Ub rfl (fun h => ?_) ?_
 · exact absurd h (by intro e; have : l.length = 0 := by simpa using congrArg List.length e
                      omega)
 refine ApL (l.map dq) rfl rfl (by simpa using h0) (by simpa using Nat.le_trans hl (by decide)) ?_
 exact Rw [(7, 1000000)] [(1000000, .arr 4 (l.map dq))] rfl (.one (.rf rfl) rfl rfl) ⟨_, rfl, rfl, rfl⟩
theorem clone_q_ok {l : List Rat} (h0 : 0 < l.length) (hl : l.length ≤ 1048576) : C0 278 [.d (dqs l)] (· = .d (dqs l)) := (clone_q_own h0 hl).data
theorem grow_q_ok {n : Nat} (h0 : 0 < n) (hn : n ≤ 1048576) : CA0 394 [.nil, .d (.int .i64 n)] 4 [] := by
 refine EnW Tryz.func394 fun _ _ _ _ => ?_
 refine No rfl (by omega) ?_
 refine Kp rfl ?_
 refine Ar 0 rfl ?_
 refine Ar n rfl ?_
 refine Yes rfl (by omega) ?_
 refine Kp rfl ?_
 refine Sn rfl ?_
 refine ApM n rfl h0 (by omega) ?_
 refine Sw 0 0 rfl (by omega) (by omega) ?_
 exact Rw [(22, 1000000)] [(1000000, .arr 4 [])] rfl (.one (.rf rfl) rfl rfl) ⟨_, rfl, rfl, rfl⟩
theorem fitE {c c' : Bool} (h : c = c') {g : Hp} {K : Hpl} : FitT g K (.b c) (.b c') := by
 subst h; exact .one (.rf rfl) (fun _ _ e => by cases e) (fun _ _ e => by cases e)
theorem dc_congr {p q : Prop} (h : p ↔ q) : dc p = dc q := by rw [show p = q from propext h]
namespace P8
theorem Sqrt_neg {n : Int} (hn : n < 0) (hl : (dig n.natAbs).length ≤ 274877906944) : C0 397 [.d (dz n)] (· = .tup (.pr (.d (dS false [])) (.d (.int .i64 7)))) := by
 refine En Tryz.func397 fun _ _ _ => ?_
 refine Ce rfl (Sign_ok (z := n) (by omega)) ?_
 refine Yes rfl (by rcases cmpI_tri n 0 with ⟨g1, g2⟩ | ⟨g1, g2⟩ | ⟨g1, g2⟩ <;> omega) ?_
 exact RTt rfl (.cons (.sd (.pd (.bd rfl) (.nil rfl))) fitI)
theorem root_ok {n : Int} (hl : (dig n.natAbs).length ≤ 274877906944) : C0 393 [.d (dz n)] fun v => ∃ b l, v = .tup (.pr (.d (dS b l)) (.b (dc (0 ≤ n ∧ sqN n.natAbs)))) ∧ (0 ≤ n → dS b l = dz (rt n.natAbs : Int)) := by
 have hs := @Sqrt_ok n.natAbs hl
 refine En Tryz.func393 fun _ _ _ => ?_
 by_cases hn : 0 ≤ n
 · have e : ((n.natAbs : Nat) : Int) = n := by omega
   rw [e] at hs
   have hr := (rt_spec n.natAbs).1
   have h3 : rt n.natAbs ≤ rt n.natAbs * rt n.natAbs := Nat.le_mul_self _
   have l1 := len_mono (show rt n.natAbs ≤ n.natAbs by omega)
   have l2 := len_mono hr
   refine Ce rfl hs ?_
   refine Dw rfl ?_
   refine Yes rfl rfl ?_
   refine Ce rfl (Mul_ok (by rw [Int.natAbs_natCast]; omega) (by rw [Int.natAbs_natCast]; omega)) ?_
   refine Ce rfl (Cmp_ok (by rw [← Int.natCast_mul, Int.natAbs_natCast]; omega) (by omega)) ?_
   refine Rt rfl (.tup (.cons (.rf rfl) (fitE (dc_congr ?_)))) ⟨_, _, rfl, fun _ => rfl⟩
   unfold sqN
   rcases cmpI_tri ((rt n.natAbs : Int) * (rt n.natAbs : Int)) n with ⟨g1, g2⟩ | ⟨g1, g2⟩ | ⟨g1, g2⟩ <;> rw [← Int.natCast_mul] at g1 <;> rw [← Int.natCast_mul] at g2 ⊢ <;> omega
 · refine Ce rfl (Sqrt_neg (by omega) hl) ?_
   refine Dw rfl ?_
   refine No rfl (by decide) ?_
   exact Rt rfl (.tup (.cons (.rf rfl) (fitN fun h => hn h.1))) ⟨_, _, rfl, fun h => absurd h hn⟩
theorem Sqrt_q_ok {x : Rat} {p : Nat} (hx : Qs p x) (hp : p ≤ 4398046511104) : C0 375 [.d (dq x)] fun v => ∃ b l b' l', v = .tup (.pr (.d (R2.dR b l b' l')) (.b (dc (∃ y : Rat, y * y = x)))) ∧ ((∃ y : Rat, y * y = x) → ∃ y : Rat, y * y = x ∧ R2.dR b l b' l' = dq y) := by
 have h1 := hx.n.len2 hp
 have h2 := hx.d.len2 hp
 have hi := sqQ_iff (q := x)
 refine En Tryz.func375 fun _ _ _ => ?_
 refine Ca rfl (root_ok (n := x.num) (by omega)) fun v hv => ?_
 obtain ⟨b, l, rfl, hb⟩ := hv
 refine Ca rfl (root_ok (n := (x.den : Int)) (by omega)) fun v hv => ?_
 obtain ⟨b', l', rfl, hb'⟩ := hv
 have z : ∀ {c g K}, (c = false ∧ ¬ ∃ y : Rat, y * y = x) → FitT g K (.pr (.st (.pr (.st (.pr (.b false) .nil)) (.st (.pr (.b false) .nil)))) (.b c)) (.pr (.d (R2.dR false [] false [])) (.b (dc (∃ y : Rat, y * y = x)))) := fun ⟨h0, h⟩ => by
  subst h0; exact .cons (.sd (.pd (.sd (.pd (.bd rfl) (.nil rfl))) (.sd (.pd (.bd rfl) (.nil rfl))))) (fitN h)
 refine By rfl (fun h => ?_) fun h => ?_
 · have h : ¬ (0 ≤ x.num ∧ sqN x.num.natAbs) := by simpa only [dc_not, dc_iff] using h
   have no : ¬ ∃ y : Rat, y * y = x := fun e => h ⟨(hi.1 e).1, (hi.1 e).2.1⟩
   exact Rt rfl (.tup (z ⟨rfl, no⟩)) ⟨false, [], false, [], rfl, fun e => absurd e no⟩
 have h : 0 ≤ x.num ∧ sqN x.num.natAbs := by simpa [dc_not, dc_iff] using h
 refine By rfl (fun k => ?_) fun k => ?_
 · have k : ¬ (0 ≤ (x.den : Int) ∧ sqN (x.den : Int).natAbs) := by simpa only [dc_not, dc_iff] using k
   have no : ¬ ∃ y : Rat, y * y = x := fun e => k ⟨by omega, by rw [Int.natAbs_natCast]; exact (hi.1 e).2.2⟩
   exact Rt rfl (.tup (z ⟨rfl, no⟩)) ⟨false, [], false, [], rfl, fun e => absurd e no⟩
 have k : 0 ≤ (x.den : Int) ∧ sqN (x.den : Int).natAbs := by simpa [dc_not, dc_iff] using k
 rw [Int.natAbs_natCast] at k
 obtain ⟨y, y1, y2, y3⟩ := sqQ_some (q := x) h.1 h.2 k.2
 refine Rt rfl (.tup (.cons (.rf rfl) (fitY ⟨y, y3⟩))) ⟨_, _, _, _, rfl, fun _ => ⟨y, y3, ?_⟩⟩
 have e1 := hb h.1
 have e2 := hb' k.1
 rw [Int.natAbs_natCast] at e2
 show D.st (.pr (dS b l) (dS b' l')) = D.st (.pr (dz _) (dz _))
 rw [e1, e2, y1, y2]
theorem half_ok {k r p : Nat} {t : Tw k} {a : Tow.El k} (hT : TS r k t) (ha : Sz p (toL k a)) (hk : k ≤ 16) (hp : p + 3 + cB r k ≤ 4398046511104) (hr : r ≤ 4398046511104) : C0 379 [.d (dt t), .d (de a)] (· = .d (de (mul k t a (rat k (1 / 2))))) := by
 refine En Tryz.func379 fun _ _ _ => ?_
 refine Ce rfl (qFrac_ok (a := 1) (b := 2) (by decide) (by decide)) ?_
 rw [half_dq]
 refine Ce rfl (tFromRat_ok (x := 1 / 2) (p := 3) hT hk hr ⟨show (1 / 2 : Rat).num.natAbs < 2 ^ 3 by decide +kernel, show ((1 / 2 : Rat).den : Int).natAbs < 2 ^ 3 by decide +kernel⟩ (by decide)) ?_
 refine Ce rfl (tMul_ok hT ha Sz.half hk (by omega) hr) ?_
 exact R0
theorem concat_D {a b : List D} (h0 : 0 < a.length + b.length) (hl : a.length + b.length ≤ 1048576) : C0 376 [.d (.sl 1 [.sl 4 a, .sl 4 b])] (· = .d (.sl 4 (a ++ b))) := by
 refine En Tryz.func376 fun _ _ _ => ?_
 refine Lo (fun (x : Nat × Nat) => [(0, .d (.sl 1 [.sl 4 a, .sl 4 b])), (2, .nil), (3, .d (.int .i64 x.2)), (9, .d (.sl 1 [.sl 4 a, .sl 4 b])), (10, .d (.int .i64 2)), (11, .d (.int .i64 x.1))]) (fun _ => []) (fun x => x = (0, 0) ∨ x = (1, a.length) ∨ x = (2, a.length + b.length)) (fun x => 2 - x.1) (0, 0) [] rfl (.inl rfl) (fun x hI => ?_)
 rcases hI with rfl | rfl | rfl
 · refine Yes rfl (show ((0 : Nat) : Int) < 2 by decide) ?_
   refine Ix 0 rfl (u := .sl 4 a) rfl ?_
   refine Ar a.length rfl ?_ (wr (by omega) (by simp only [inK]; omega))
   refine No rfl (by omega) ?_
   refine Ar (1 : Nat) rfl ?_
   exact Bk (1, a.length) [] rfl (.inr (.inl rfl)) (show 1 < 2 by decide)
 · refine Yes rfl (show ((1 : Nat) : Int) < 2 by decide) ?_
   refine Ix 1 rfl (u := .sl 4 b) rfl ?_
   refine Ar (a.length + b.length : Nat) rfl ?_ (wr (by omega) (by simp only [inK]; omega))
   refine No rfl (by omega) ?_
   refine Ar (2 : Nat) rfl ?_
   exact Bk (2, a.length + b.length) [] rfl (.inr (.inr rfl)) (show 0 < 1 by decide)
 refine No rfl (show ¬ ((2 : Nat) : Int) < 2 by decide) ?_
 refine CoN rfl (grow_q_ok (n := a.length + b.length) (by omega) hl) (fun v ob hv => ?_)
 obtain ⟨rfl, rfl⟩ := hv
 refine Lo (fun (x : Nat × List D) => [(0, .d (.sl 1 [.sl 4 a, .sl 4 b])), (2, .nil), (6, .own 24 4 0 x.2.length), (25, .d (.sl 1 [.sl 4 a, .sl 4 b])), (26, .d (.int .i64 2)), (27, .d (.int .i64 x.1))]) (fun x => [(24, .arr 4 x.2)]) (fun x => x = (0, []) ∨ x = (1, a) ∨ x = (2, a ++ b)) (fun x => 2 - x.1) (0, []) [] rfl (.inl rfl) (fun x hI => ?_)
 rcases hI with rfl | rfl | rfl
 · refine Yes rfl (show ((0 : Nat) : Int) < 2 by decide) ?_
   refine Ix 0 rfl (u := .sl 4 a) rfl ?_
   refine ApO a rfl rfl rfl rfl (by omega) ?_
   refine Ar (1 : Nat) rfl ?_
   exact Bk (1, a) [(24, 90), (33, 24)] rfl (.inr (.inl rfl)) (show 1 < 2 by decide)
 · refine Yes rfl (show ((1 : Nat) : Int) < 2 by decide) ?_
   refine Ix 1 rfl (u := .sl 4 b) rfl ?_
   refine ApO (a ++ b) rfl rfl rfl (by simp) (by simp; omega) ?_
   refine Ar (2 : Nat) rfl ?_
   exact Bk (2, a ++ b) [(24, 90), (33, 24)] rfl (.inr (.inr rfl)) (show 0 < 1 by decide)
 refine No rfl (show ¬ ((2 : Nat) : Int) < 2 by decide) ?_
 exact R1 rfl (.own rfl (by simp) (by rw [List.drop_zero]; exact List.take_of_length_le (by simp)))
theorem concat_el {k : Nat} {x y : Tow.El k} (hk : k ≤ 16) : C0 376 [.d (.sl 1 [de x, de y])] (· = .d (de (pr x y))) := by
 have := concat_D (a := (toL k x).map dq) (b := (toL k y).map dq) (by simp [toL_length]; have := Nat.two_pow_pos k; omega) (by simp [toL_length]; have := p16 hk; omega)
 rwa [← List.map_append] at this
end P8
open Go Go.Num Go.Tow
theorem iS_pos {r : Nat} : ∀ {k p : Nat}, 0 < iS r k p
 | 0, p => Nat.succ_pos p
 | k + 1, p => by have := iS_pos (r := r) (k := k) (p := nS r k p); show 0 < p + iS r k (nS r k p) + cB r k; omega
theorem iS_ge {r : Nat} : ∀ {k p : Nat}, p ≤ iS r k p
 | 0, p => Nat.le_succ p
 | k + 1, p => by show p ≤ p + iS r k (nS r k p) + cB r k; omega
theorem iB_ge2 {r : Nat} : ∀ {k p : Nat}, p ≤ iB r k p
 | 0, p => Nat.le_succ p
 | k + 1, p => by show p ≤ 2 * (p + iB r k (nB r k p) + cB r k); omega
end Go.Proofs.YtpgcfjpkilabfaaGreatDoor
namespace Go.Proofs.YtpgcfjpkilabfaaGreatDoor.P8
open Go Go.Vm Go.Num Go.Tow Go.Proofs.YtpgcfjpkilabfaaGreatDoor
def SqP (k : Nat) (t : Tw k) (a : Tow.El k) (v : AV) : Prop := ∃ w : List D, w.length ≤ 2 ^ k ∧ v = .tup (.pr (.d (.sl 4 w)) (.b (dc (isSq k t a)))) ∧ (isSq k t a → ∃ x, mul k t x x = a ∧ D.sl 4 w = de x)
theorem tFromRat_z {k r : Nat} {t : Tw k} (hT : TS r k t) (hk : k ≤ 16) (hr : r ≤ 4398046511104) : C0 226 [.d (dt t), .d (dq ((0 : Int) : Rat))] (· = .d (de (zero k))) := by
 have := tFromRat_ok (x := ((0 : Int) : Rat)) (p := 1) hT hk hr (Qs.int Zs.zero (Nat.le_refl 1)) (by decide)
 rwa [show ((0 : Int) : Rat) = 0 from rfl, rat_zero] at this
theorem square_ok {k : Nat} : ∀ {r p : Nat} {t : Tw k} {a : Tow.El k}, TS r k t → Sz p (toL k a) → red k t → k ≤ 16 → qB r k p ≤ 4398046511104 → r ≤ 4398046511104 → C0 334 [.d (dt t), .d (de a)] (SqP k t a) := by
 induction k with
 | zero =>
  intro r p t a hT ha hR hk hq hr
  have hq : p ≤ 4398046511104 := hq
  have key : ∀ y : Rat, Qs p y → C0 334 [.d (dts []), .d (dqs [y])] fun v => ∃ w : List D, w.length ≤ 2 ^ 0 ∧ v = .tup (.pr (.d (.sl 4 w)) (.b (dc (∃ x : Rat, x * x = y)))) ∧ ((∃ x : Rat, x * x = y) → ∃ x : Rat, x * x = y ∧ D.sl 4 w = dqs [x]) := fun y hy => by
   refine En Tryz.func334 fun _ _ _ => ?_
   refine Yes rfl rfl ?_
   refine Ix 0 rfl (u := dq y) rfl ?_
   refine Ca rfl (Sqrt_q_ok hy (by omega)) fun v hv => ?_
   obtain ⟨b, l, b', l', rfl, hw⟩ := hv
   exact Rt rfl (.tup (.cons (.lit rfl) (.one (.rf rfl) (fun _ _ e => by cases e) (fun _ _ e => by cases e)))) ⟨_, Nat.le_refl _, rfl, fun h => let ⟨y, h1, h2⟩ := hw h; ⟨y, h1, by rw [show dqs [y] = D.sl 4 [dq y] from rfl, ← h2]; rfl⟩⟩
  exact key a (ha.qs (List.mem_singleton.2 rfl))
 | succ k ih =>
  intro r p t a hT ha hR hk hq hr
  have hx : Sz p (toL k a.1) := Sz.left ha
  have hy : Sz p (toL k a.2) := Sz.right ha
  have hlen := toL_length k
  have hk0 := Nat.two_pow_pos k
  have hpk := p16 (show k ≤ 16 by omega)
  have hz := ha.normS hT
  have L := ring k t.1
  have hqq : p + vB r (k + 1) p + vB r (k + 1) r + nB r k p + qB r k (sX r k p) + iB r k (sX r k p + gC r k) + iS r k (sX r k p + gC r k) + iB r k r + 2 * cB r k + 4 ≤ 4398046511104 := hq
  have hX : sX r k p = p + nS r k p + gC r k + cB r k + iS r k r + 4 := rfl
  have hN : nB r k p = 4 * p + 3 * cB r k + r + 1 := rfl
  have hI : 0 < iS r k r := iS_pos
  have q6 := iS_ge (r := r) (k := k) (p := sX r k p + gC r k)
  have q7 := iB_ge2 (r := r) (k := k) (p := sX r k p + gC r k)
  have q1 : qB r k p ≤ qB r k (sX r k p) := qB_mono (by omega)
  have q2 : qB r k (nS r k p) ≤ qB r k (sX r k p) := qB_mono (by omega)
  have q3 : qB r k (p + iS r k r + cB r k) ≤ qB r k (sX r k p) := qB_mono (by omega)
  have q4 : sX r k p ≤ qB r k (sX r k p) := qB_ge
  have hr0 : t.2 ≠ zero k := fun h0 => hR.2.2 ⟨zero k, by rw [h0, L.mz]⟩
  obtain ⟨i, hi⟩ := (red_fld hR.1).2 t.2 hr0
  have him := inv_mul hi
  have hiz := Sz.invS hT.1 hT.2 hi
  have no0 : ∀ {g K}, ¬ isSq (k + 1) t a → FitT g K (.pr .nil (.b false)) (.pr (.d (.sl 4 [])) (.b (dc (isSq (k + 1) t a)))) := fun h => .cons (.nil (sz := 4) rfl) (fitN h)
  refine En Tryz.func334 fun _ _ _ => ?_
  refine No rfl (by show ¬ ((((toT k t.1 ++ [toL k t.2]).map dqs).length : Nat) : Int) = 0; rw [twL]; omega) ?_
  refine Dw rfl ?_
  refine Ar k rfl ?_ (tw1 t (by omega))
  refine Tk k ((toT k t.1).map dqs) rfl rfl (tw_le t) (twT t) ?_
  refine Ar k rfl ?_ (tw1 t (by omega))
  refine Ix k rfl (twU t) ?_
  refine Dw rfl ?_
  refine Ar (2 ^ k : Nat) rfl ?_ (hvq a (by omega))
  refine Tk (2 ^ k) ((toL k a.1).map dq) rfl rfl (hv_le a) (hvT a) ?_
  refine Ar (2 ^ k : Nat) rfl ?_ (hvq a (by omega))
  refine Dp (2 ^ k) ((toL k a.2).map dq) rfl rfl (hv_le a) (hvD a) ?_
  refine Ce rfl (tZero_ok (l := toL k a.2) hy.ps (by omega) (by rw [hlen]; omega)) ?_
  refine By rfl (fun hv => ?_) fun hv => ?_
  · have ev := (eq_zero_iff k a.2).2 hv
    have ea : a = up k a.1 := by show (a.1, a.2) = (a.1, zero k); rw [ev]
    refine Ca rfl (ih hT.1 hx hR.1 (by omega) (by omega) hr) fun v hv => ?_
    obtain ⟨w, hwl, rfl, hw⟩ := hv
    refine By rfl (fun h1 => ?_) fun h1 => ?_
    · obtain ⟨x, hx1, hx2⟩ := hw h1
      injection hx2 with _ hx2
      subst hx2
      have hs : mul (k + 1) t (pr x (zero k)) (pr x (zero k)) = a := (sq_up hx1).trans ea.symm
      refine Ce rfl (qFromInt_ok (z := 0) (by decide)) ?_
      refine Ce rfl (tFromRat_z hT.1 (by omega) hr) ?_
      refine Ce rfl (concat_el (x := x) (y := zero k) (by omega)) ?_
      exact Rt rfl (.tup (.cons (.rf rfl) (fitY ⟨_, hs⟩))) ⟨_, by simp [toL_length], rfl, fun _ => ⟨_, hs, rfl⟩⟩
    · refine Ce rfl (tInv_ok hT.1 hT.2 (by omega) (by omega) hr hi) ?_
      refine No rfl (by decide) ?_
      refine Ce rfl (tMul_ok hT.1 hx hiz (by omega) (by omega) hr) ?_
      refine Ca rfl (ih hT.1 (hx.mul hT.1 hiz) hR.1 (by omega) (by omega) hr) fun v hv => ?_
      obtain ⟨w, hwl, rfl, hw⟩ := hv
      refine Ce rfl (qFromInt_ok (z := 0) (by decide)) ?_
      refine Ce rfl (tFromRat_z hT.1 (by omega) hr) ?_
      refine Ce rfl (concat_D (a := (toL k (zero k)).map dq) (b := w) (by simp [hlen]; omega) (by simp [hlen]; omega)) ?_
      have hiff : isSq k t.1 (mul k t.1 a.1 i) ↔ isSq (k + 1) t a := ⟨fun ⟨x, hx1⟩ => ⟨_, (sq_low him hx1).trans ea.symm⟩, fun e => Classical.byContradiction fun h2 => sq_low_no hR.1 him h1 h2 (ea ▸ e)⟩
      refine Rt rfl (.tup (.cons (.rf rfl) (fitE (dc_congr hiff)))) ⟨_, by simp [hlen]; omega, rfl, fun e => ?_⟩
      obtain ⟨x, hx1, hx2⟩ := hw (hiff.2 e)
      injection hx2 with _ hx2
      subst hx2
      exact ⟨(zero k, x), (sq_low him hx1).trans ea.symm, by rw [← List.map_append]; rfl⟩
  have ev : a.2 ≠ zero k := fun e => hv ((eq_zero_iff k a.2).1 e)
  refine Ce rfl (tNorm_ok hT ha hk (by omega) hr) ?_
  refine Ca rfl (ih hT.1 hz hR.1 (by omega) (by omega) hr) fun v hv => ?_
  obtain ⟨w, hwl, rfl, hw⟩ := hv
  refine By rfl (fun h1 => ?_) fun h1 => ?_
  · have no : ¬ isSq (k + 1) t a := fun e => by
     exact h1 (sq_norm e)
    exact Rt rfl (.tup (.cons (.nil (sz := 4) rfl) (fitN no))) ⟨[], Nat.zero_le _, rfl, fun e => absurd e no⟩
  obtain ⟨m, hm, hm2⟩ := hw (Classical.not_not.1 h1)
  injection hm2 with _ hm2
  subst hm2
  have hm : mul k t.1 m m = Tow.norm k t a := hm
  have hmz := hz.rootS hT.1 hR.1 hm
  refine Ce rfl (tAdd_ok hT.1 hx hmz (by omega) (by omega) hr) ?_
  refine Ce rfl (tSub_ok hT.1 hx hmz (by omega) (by omega) hr) ?_
  refine Lo (fun (x : Nat) => [(4, .nil), (5, .b false), (8, .d (dt t.1)), (11, .d (de a.2)), (117, .lit 1 [de (Tow.add k a.1 m), de (Tow.add k a.1 (Tow.neg k m))]), (118, .d (.int .i64 2)), (119, .d (.int .i64 x))]) (fun _ => []) (fun x => x = 0 ∨ (x = 1 ∧ ¬ isSq k t.1 (mul k t.1 (rat k (1 / 2)) (Tow.add k a.1 m))) ∨ (x = 2 ∧ ¬ isSq k t.1 (mul k t.1 (rat k (1 / 2)) (Tow.add k a.1 m)) ∧ ¬ isSq k t.1 (mul k t.1 (rat k (1 / 2)) (Tow.add k a.1 (Tow.neg k m))))) (fun x => 2 - x) 0 [] rfl (.inl rfl) (fun x hI => ?_)
  have step : ∀ (mm : Tow.El k), mul k t.1 mm mm = Tow.norm k t a → Sz (nS r k p + gC r k) (toL k mm) → Sz (3 + (p + (nS r k p + gC r k) + 1) + cB r k) (toL k (mul k t.1 (Tow.add k a.1 mm) (rat k (1 / 2)))) ∧ mul k t.1 (Tow.add k a.1 mm) (rat k (1 / 2)) = mul k t.1 (rat k (1 / 2)) (Tow.add k a.1 mm) := fun mm _ hs => ⟨by
   rw [L.mc]; exact Sz.half.mul hT.1 (by rw [toL_add]; exact hx.add hs), L.mc _ _⟩
  have q5 : qB r k (3 + (p + (nS r k p + gC r k) + 1) + cB r k) ≤ qB r k (sX r k p) := qB_mono (by omega)
  refine By rfl (fun h2 => ?_) fun h2 => ?_
  · obtain ⟨mm, e1, e2, e3, next⟩ : ∃ mm, [de (Tow.add k a.1 m), de (Tow.add k a.1 (Tow.neg k m))][x]? = some (de (Tow.add k a.1 mm)) ∧ mul k t.1 mm mm = Tow.norm k t a ∧ Sz (nS r k p + gC r k) (toL k mm) ∧ (¬ isSq k t.1 (mul k t.1 (rat k (1 / 2)) (Tow.add k a.1 mm)) → (x + 1 = 0 ∨ (x + 1 = 1 ∧ ¬ isSq k t.1 (mul k t.1 (rat k (1 / 2)) (Tow.add k a.1 m))) ∨ (x + 1 = 2 ∧ ¬ isSq k t.1 (mul k t.1 (rat k (1 / 2)) (Tow.add k a.1 m)) ∧ ¬ isSq k t.1 (mul k t.1 (rat k (1 / 2)) (Tow.add k a.1 (Tow.neg k m)))))) := by
     rcases hI with rfl | ⟨rfl, g1⟩ | ⟨rfl, g1, g2⟩
     · exact ⟨m, rfl, hm, hmz, fun h => .inr (.inl ⟨rfl, h⟩)⟩
     · exact ⟨Tow.neg k m, rfl, by rw [L.mn, L.nm, L.nn, hm], neg_sz hmz, fun h => .inr (.inr ⟨rfl, g1, h⟩)⟩
     · omega
    refine Ix x rfl e1 ?_
    obtain ⟨s1, s2⟩ := step mm e2 e3
    refine Ce rfl (half_ok hT.1 (a := Tow.add k a.1 mm) (p := p + (nS r k p + gC r k) + 1) (by rw [toL_add]; exact hx.add e3) (by omega) (by omega) hr) ?_
    refine Ca rfl (ih hT.1 s1 hR.1 (by omega) (by omega) hr) fun v hv => ?_
    obtain ⟨w, hwl, rfl, hw⟩ := hv
    refine By rfl (fun h3 => ?_) fun h3 => ?_
    · have h3 : ¬ isSq k t.1 (mul k t.1 (Tow.add k a.1 mm) (rat k (1 / 2))) := by simpa only [dc_not, dc_iff] using h3
      rw [s2] at h3
      refine Ar (x + 1 : Nat) rfl ?_
      exact Bk (x + 1) [] rfl (next h3) (by omega)
    · have h3 : isSq k t.1 (mul k t.1 (Tow.add k a.1 mm) (rat k (1 / 2))) := by simpa [dc_not, dc_iff] using h3
      obtain ⟨w, hw1, hw2⟩ := hw h3
      injection hw2 with _ hw2
      subst hw2
      rw [s2] at hw1
      have hw0 := sq_w0 hR ev e2 hw1
      have hwz : Sz (3 + (p + (nS r k p + gC r k) + 1) + cB r k + gC r k) (toL k w) := (s2 ▸ s1).rootS hT.1 hR.1 hw1
      have hw2 : Tow.add k w w ≠ zero k := fun e => hw0 (by
       have e3 : mul k t.1 (rat k (1 / 2)) (Tow.add k w w) = w := by rw [L.md, ← L.dm, half_add, L.om]
       rw [← e3, e, L.mz])
      obtain ⟨j, hj⟩ := (red_fld hR.1).2 _ hw2
      have hdz : Sz (sX r k p + gC r k) (toL k (Tow.add k w w)) := by rw [toL_add]; exact hwz.dbl.mono (by omega)
      have hjz := Sz.invS hT.1 hdz hj
      have hs := sq_hi e2 hw1 (inv_mul hj)
      refine Ce rfl (tZero_ok (l := toL k w) hwz.ps (by omega) (by rw [hlen]; omega)) ?_
      refine No rfl (fun e => hw0 ((eq_zero_iff k w).2 e)) ?_
      refine Ce rfl (tAdd_ok hT.1 hwz hwz (by omega) (by omega) hr) ?_
      refine Ce rfl (tInv_ok hT.1 hdz (by omega) (by omega) hr hj) ?_
      refine Ce rfl (tMul_ok hT.1 hy hjz (by omega) (by omega) hr) ?_
      refine Ce rfl (concat_el (by omega)) ?_
      exact Rt rfl (.tup (.cons (.rf rfl) (fitY ⟨_, hs⟩))) ⟨_, by simp [toL_length], rfl, fun _ => ⟨_, hs, rfl⟩⟩
  · have no : ¬ isSq (k + 1) t a := fun e => by
     rcases hI with rfl | ⟨rfl, g1⟩ | ⟨rfl, g1, g2⟩
     · omega
     · omega
     · obtain ⟨w, _, h6 | h6⟩ := sq_hi_no hR.1 ev hm e
       · exact g1 ⟨w, h6⟩
       · exact g2 ⟨w, h6⟩
    exact Rt rfl (.tup (.cons (.nil (sz := 4) rfl) (fitN no))) ⟨[], Nat.zero_le _, rfl, fun e => absurd e no⟩
theorem positive_ok {k r p : Nat} {t : Tw k} {a : Tow.El k} (hT : TS r k t) (ha : Sz p (toL k a)) (hR : red k t) (hk : k ≤ 16) (hq : qB r k p ≤ 4398046511104) (hv : vB r k (p + gC r k) ≤ 4398046511104) (hr : vB r k r ≤ 4398046511104) :
 C0 281 [.d (dt t), .d (de a)] fun v => ∃ w : D, v = .tup (.pr (.d w) (.b (dc (isSq k t a)))) ∧ (isSq k t a → ∃ x, mul k t x x = a ∧ 0 ≤ sgn k t x ∧ w = de x) := by
 have L := ring k t
 have S := sgn_ok (red_real hR)
 have := vB_ge (r := r) k (p + gC r k)
 have hr2 := vB_ge (r := r) k r
 refine En Tryz.func281 fun _ _ _ => ?_
 refine Ca rfl (square_ok hT ha hR hk hq (by omega)) fun v hv => ?_
 obtain ⟨w, _, rfl, hw⟩ := hv
 refine By rfl (fun h => ?_) fun h => ?_
 · exact Rt rfl (.tup (.cons (.nil (sz := 4) rfl) (fitN h))) ⟨_, rfl, fun e => absurd e h⟩
 have h := Classical.not_not.1 h
 obtain ⟨x, hx, hx2⟩ := hw h
 injection hx2 with _ hx2
 subst hx2
 have hz := ha.rootS hT hR hx
 refine Ce rfl (Sign_el hT hz (red_real hR) hk hv hr (by omega)) ?_
 refine By rfl (fun h1 => ?_) fun h1 => ?_
 · refine Ce rfl (tNeg_ok hT hz hk (by omega) (by omega)) ?_
   exact Rt rfl (.tup (.cons (.rf rfl) (fitY h))) ⟨_, rfl, fun _ => ⟨Tow.neg k x, by rw [L.mn, L.nm, L.nn, hx], by rw [S.sn]; omega, rfl⟩⟩
 · exact Rt rfl (.tup (.cons (.rf rfl) (fitY h))) ⟨_, rfl, fun _ => ⟨x, hx, by omega, rfl⟩⟩
theorem Reduced_ok {k r : Nat} {t : Tw k} (hT : TS r k t) (hR : red k t) (hk : k ≤ 16) (hq : qB r k r ≤ 4398046511104) (hv : vB r k r ≤ 4398046511104) : C0 279 [.d (dt t)] (· = .b true) := by
 have := vB_ge (r := r) k r
 refine En Tryz.func279 fun _ _ _ => ?_
 refine Lo (fun i : Nat => [(0, .d (dt t)), (2, .b false), (7, .d (dt t)), (8, .d (.int .i64 ((toT k t).map dqs).length)), (9, .d (.int .i64 i))]) (fun _ => []) (fun i => i ≤ k) (fun i => k - i) 0 [] rfl (by omega) (fun i hi => ?_)
 refine By rfl (fun h => ?_) fun h => ?_ <;> simp only [lt', toT_length] at h
 · obtain ⟨w, x, h1, h2, h3, h4, h5⟩ := Tw.take (t := t) (i := i) (by omega)
   have hx := h3 r hT
   obtain ⟨h6, h7, h8⟩ := h5 hR
   have q1 := qB_le (r := r) (p := r) (show i ≤ k by omega)
   have v1 := vB_le (r := r) (s := r) (show i ≤ k by omega)
   refine Ix i rfl (mp h2) ?_
   refine Tk i ((toT i w).map dqs) rfl rfl (by rw [lt', toT_length]; omega) (by rw [← List.map_take, h1]) ?_
   refine Ce rfl (tFormed_el hx.1 hx.2 (by omega) (by omega) (by omega)) ?_
   refine No rfl (by simp) ?_
   refine Tk i ((toT i w).map dqs) rfl rfl (by rw [lt', toT_length]; omega) (by rw [← List.map_take, h1]) ?_
   refine Ce rfl (Sign_el hx.1 hx.2 (red_real h6) (by omega) (by omega) (by omega) (by omega)) ?_
   refine No rfl (fun e => e (by rcases sgn_tri w x with h | h | h <;> omega)) ?_
   refine Tk i ((toT i w).map dqs) rfl rfl (by rw [lt', toT_length]; omega) (by rw [← List.map_take, h1]) ?_
   refine Ca rfl (square_ok hx.1 hx.2 h6 (by omega) (by omega) (by omega)) fun v hv => ?_
   obtain ⟨d, _, rfl, hd⟩ := hv
   refine No rfl h8 ?_
   refine Ar (i + 1 : Nat) rfl ?_
   exact Bk (i + 1) [] rfl (show i + 1 ≤ k by omega) (by show k - (i + 1) < k - i; omega)
 · exact R0
theorem clone_ok {l : List (List Rat)} (hl : l.length ≤ 1048576) (h : ∀ x ∈ l, 0 < x.length ∧ x.length ≤ 1048576) : CA0 282 [.d (dts l)] 1 (l.map dqs) := by
 have hll : (l.map dqs).length = l.length := by simp
 refine EnW Tryz.func282 fun _ _ _ _ => ?_
 refine Mk l.length rfl (by omega) ?_ (by simp [hll])
 refine Lo (fun i : Nat => [(0, .d (dts l)), (2, .nil), (3, .own 8 1 0 l.length), (9, .d (dts l)), (10, .d (.int .i64 (l.map dqs).length)), (11, .d (.int .i64 i))]) (fun i => [(8, .arr 1 (fl (l.map dqs) (.sl 4 []) i))]) (fun i => i ≤ l.length) (fun i => l.length - i) 0 [] rfl (by omega) (fun i hi => ?_) (by exact ⟨rfl, by rw [← fl_zero hll]; rfl, rfl, rfl, rfl⟩)
 refine By rfl (fun g => ?_) fun g => ?_ <;> simp only [lt'] at g
 · have hu : l[i]? = some l[i] := List.getElem?_eq_getElem (by omega)
   have hm := h _ (List.getElem_mem (l := l) (n := i) (by omega))
   refine Ix i rfl (mp hu) ?_
   refine Ce rfl (clone_q_ok hm.1 hm.2) ?_
   refine Eo i rfl (by omega) ?_
   refine Sto rfl (by rw [fl_len (by omega)]; omega) (fl_set (u := dqs l[i]) (by rw [List.getElem?_map, hu]; rfl)) ?_
   refine Ar (i + 1 : Nat) rfl ?_
   exact Bk (i + 1) [] rfl (show i + 1 ≤ l.length by omega) (by show l.length - (i + 1) < l.length - i; omega)
 · exact Rw [(8, 1000000)] [(1000000, .arr 1 (l.map dqs))] rfl (.one (.rf rfl) rfl rfl) ⟨_, rfl, by rw [hll]; rfl, rfl⟩ (by rw [fl_end (by omega)]; rfl)
theorem Adjoin_ok {k r p : Nat} {t : Tw k} {a : Tow.El k} (hT : TS r k t) (ha : Sz p (toL k a)) (hR : red k t) (hk : k < 8) (hq : qB r k p ≤ 4398046511104) (hq2 : qB r k r ≤ 4398046511104) (hv : vB r k (p + gC r k) ≤ 4398046511104) (hr : vB r k r ≤ 4398046511104) :
 C0 202 [.d (dt t), .d (de a)] (R8.AdjR k t a) := by
 have h0 := vB_ge (r := r) k r
 have h1 := vB_ge (r := r) k (p + gC r k)
 have h2 := vB_mono (r := r) (k := k) (show p ≤ p + gC r k by omega)
 have hlen := toT_length k t
 have e2 : (((toT k t).map dqs).length : Int) = k := by simp [hlen]
 have hle : ∀ x ∈ toT k t, 0 < x.length ∧ x.length ≤ 1048576 := fun x hx => by
  obtain ⟨i, hi, e⟩ := List.mem_iff_getElem.1 hx
  have := (toT_get hT (i := i) (l := x) (by rw [List.getElem?_eq_getElem hi, e])).1
  rw [hlen] at hi
  have h3 := Nat.pow_le_pow_right (n := 2) (by decide) (show i ≤ 8 by omega)
  have := Nat.two_pow_pos i
  omega
 refine En Tryz.func202 fun _ _ _ => ?_
 refine Ce rfl (tFormed_el hT ha (by omega) (by omega) (by omega)) ?_
 refine No rfl (by simp) ?_
 refine Ce rfl (Reduced_ok hT hR (by omega) hq2 hr) ?_
 refine No rfl (by simp) ?_
 refine Ce rfl (Sign_el hT ha (red_real hR) (by omega) (by omega) hr (by omega)) ?_
 refine By rfl (fun h => ?_) fun h => ?_
 · exact Rt rfl (.tup (.cons (.nil rfl) (.cons (.nil rfl) fitI))) (.inl ⟨h, rfl⟩)
 refine Ca rfl (positive_ok hT ha hR (by omega) hq hv hr) fun v hv => ?_
 obtain ⟨w, rfl, hw⟩ := hv
 refine By rfl (fun h1 => ?_) fun h1 => ?_
 · obtain ⟨x, x1, x2, rfl⟩ := hw h1
   refine Ce rfl (clone_ok (by omega) hle).data ?_
   exact Rt rfl (.tup (.cons (.rf rfl) (.cons (.rf rfl) fitI))) (.inr (.inl ⟨x, x1, x2, rfl⟩))
 refine No rfl (by simp only [lt', hlen]; omega) ?_
 refine Cr rfl (clone_ok (by omega) hle) ?_
 refine Ce rfl (clone_q_ok (by rw [toL_length]; exact Nat.two_pow_pos k) (by rw [toL_length]; have := Nat.pow_le_pow_right (n := 2) (by decide) (show k ≤ 8 by omega); omega)) ?_
 refine ApO ((toT k t ++ [toL k a]).map dqs) rfl rfl rfl (by simp) (by simp [hlen]; omega) ?_
 refine Fz 11 9 ((toT k t ++ [toL k a]).map dqs) rfl (by simp) (by rw [List.drop_zero]; exact List.take_of_length_le (by simp)) ?_
 have hrt := tRoot_ok (r := max r p) (t := tsn t a) (i := k) ?_ (by omega) (by omega) (by omega)
 rw [← e2] at hrt
 refine Ce rfl hrt ?_
 exact Rt rfl (.tup (.cons (.rf rfl) (.cons (.rf rfl) fitI))) (.inr (.inr ⟨by omega, h1, hk, rfl⟩))
 exact ⟨hT.mono (by omega), ha.mono (by omega)⟩
end Go.Proofs.YtpgcfjpkilabfaaGreatDoor.P8
namespace Go.Proofs.YtpgcfjpkilabfaaGreatDoor.P9
open Go Go.Vm Go.Num Go.Tow Go.Proofs.YtpgcfjpkilabfaaGreatDoor
section
theorem copyRat_ok {x : Rat} {p : Nat} (hx : Qs p x) (hp : p ≤ 4398046511104) : C0 203 [.d (dq x)] (· = .d (dq x)) := by
 have h1 := hx.n.len2 hp
 have h2 := hx.d.len2 hp
 refine En Tryz.func203 fun _ _ _ => ?_
 refine Dw rfl ?_
 refine Ce rfl (clone_u32_ok (l := dig x.num.natAbs) (by omega)) ?_
 refine Ce rfl (clone_u32_ok (l := dig (x.den : Int).natAbs) (by omega)) ?_
 exact R0
theorem copyList_ok {l : List Rat} {p : Nat} (hl : Ps p l) (hp : p ≤ 4398046511104) (hn : l.length ≤ 1048576) : C0 126 [.d (dqs l)] (· = .d (dqs l)) := by
 have hll : (l.map dq).length = l.length := by simp
 refine En Tryz.func126 fun _ _ _ => ?_
 refine Mk l.length rfl (by omega) ?_ (by simp [hll])
 refine Lo (fun i : Nat => [(0, .d (dqs l)), (2, .nil), (3, .own 8 4 0 l.length), (9, .d (dqs l)), (10, .d (.int .i64 (l.map dq).length)), (11, .d (.int .i64 i))]) (fun i => [(8, .arr 4 (fl (l.map dq) rz i))]) (fun i => i ≤ l.length) (fun i => l.length - i) 0 [] rfl (by omega) (fun i hi => ?_) (by exact ⟨rfl, by rw [← fl_zero hll]; rfl, rfl, rfl, rfl⟩)
 refine By rfl (fun g => ?_) fun g => ?_ <;> simp only [lq] at g
 · obtain ⟨u, hu⟩ := qat (l := l) (k := i) (by omega)
   refine Ix i rfl (mp hu) ?_
   refine Ce rfl (copyRat_ok (hl u (List.mem_of_getElem? hu)) hp) ?_
   refine Eo i rfl (by omega) ?_
   refine Sto rfl (by rw [fl_len (by omega)]; omega) (fl_set (u := dq u) (by rw [List.getElem?_map, hu]; rfl)) ?_
   refine Ar (i + 1 : Nat) rfl ?_
   exact Bk (i + 1) [] rfl (show i + 1 ≤ l.length by omega) (by show l.length - (i + 1) < l.length - i; omega)
 · refine R1 rfl (.own rfl (by rw [fl_len (by omega)]; simp) ?_)
   rw [fl_end (by omega), List.drop_zero]
   exact List.take_of_length_le (by simp)
theorem same1_ok {x y : Rat} {p q : Nat} (hx : Qs p x) (hy : Qs q y) (hp : p + q ≤ 8796093022208) : C0 274 [.d (dq x), .d (dq y)] (· = .b (dc (x = y))) := by
 refine En Tryz.func274 fun _ _ _ => ?_
 refine Ce rfl (qCmp_ok hx hy hp) ?_
 exact R1 rfl (.bp (dc_iff.trans ⟨fun h => Classical.byContradiction fun e => R9.cmpQ_ne.2 e h, fun e => Classical.byContradiction fun h => R9.cmpQ_ne.1 h e⟩))
theorem eqF_q_ok {l m : List Rat} {p q : Nat} (hl : Ps p l) (hm : Ps q m) (hp : p + q ≤ 8796093022208) (hn : l.length ≤ 1048576) : C0 273 [.d (dqs l), .d (dqs m), .d (.raw (.func (.func 274) #[] #[]))] (· = .b (dc (l = m))) := by
 refine En Tryz.func273 fun _ _ _ => ?_
 refine By rfl (fun h => ?_) fun h => ?_ <;> simp only [lq] at h
 · exact R1 rfl (.bp ⟨nofun, fun e => absurd (by rw [e]) h⟩)
 have h : l.length = m.length := by omega
 refine Lo (fun k : Nat => [(0, .d (dqs l)), (1, .d (dqs m)), (2, .d (.raw (.func (.func 274) #[] #[]))), (15, .d (dqs l)), (16, .d (.int .i64 (l.map dq).length)), (17, .d (.int .i64 k))]) (fun _ => []) (fun k => k ≤ l.length ∧ l.take k = m.take k) (fun k => l.length - k) 0 [] rfl ⟨by omega, rfl⟩ fun k ⟨hk, ht⟩ => ?_
 refine By rfl (fun h2 => ?_) fun h2 => ?_ <;> simp only [lq] at h2
 · obtain ⟨x, hx⟩ := qat (l := l) (k := k) (by omega)
   obtain ⟨y, hy⟩ := qat (l := m) (k := k) (by omega)
   refine Ix k rfl (mp hx) ?_
   refine Ix k rfl (mp hy) ?_
   refine Ce rfl (same1_ok (hl x (List.mem_of_getElem? hx)) (hm y (List.mem_of_getElem? hy)) hp) ?_
   refine By rfl (fun h3 => ?_) fun h3 => ?_
   · have h3 : ¬ x = y := by simpa [dc_not, dc_iff] using h3
     exact R1 rfl (.bp ⟨nofun, fun e => by subst e; rw [hx] at hy; injection hy with hy; exact absurd hy h3⟩)
   · have e : x = y := by simpa [dc_not, dc_iff] using h3
     refine Ar (k + 1 : Nat) rfl ?_
     exact Bk (k + 1) [] rfl ⟨by omega, by rw [List.take_add_one, List.take_add_one, hx, hy, ht, e]⟩ (by show l.length - (k + 1) < l.length - k; omega)
 · rw [List.take_of_length_le (by omega), List.take_of_length_le (by omega)] at ht
   exact R1 rfl (.bp ⟨fun _ => ht, fun _ => rfl⟩)
theorem sameElement_ok {l m : List Rat} {p q : Nat} (hl : Ps p l) (hm : Ps q m) (hp : p + q ≤ 8796093022208) (hn : l.length ≤ 1048576) : C0 196 [.d (dqs l), .d (dqs m)] (· = .b (dc (l = m))) := by
 refine En Tryz.func196 fun _ _ _ => ?_
 refine Ce rfl (eqF_q_ok hl hm hp hn) ?_
 exact R0
theorem eqF_t_ok {T U : List (List Rat)} {p q : Nat} (hT : Pt p T) (hU : Pt q U) (hp : p + q ≤ 8796093022208) (hl : T.length ≤ 16) : C0 272 [.d (dts T), .d (dts U), .d (.raw (.func (.func 196) #[] #[]))] (· = .b (dc (T = U))) := by
 refine En Tryz.func272 fun _ _ _ => ?_
 refine By rfl (fun h => ?_) fun h => ?_ <;> simp only [lt'] at h
 · exact R1 rfl (.bp ⟨nofun, fun e => absurd (by rw [e]) h⟩)
 have h : T.length = U.length := by omega
 refine Lo (fun k : Nat => [(0, .d (dts T)), (1, .d (dts U)), (2, .d (.raw (.func (.func 196) #[] #[]))), (15, .d (dts T)), (16, .d (.int .i64 (T.map dqs).length)), (17, .d (.int .i64 k))]) (fun _ => []) (fun k => k ≤ T.length ∧ T.take k = U.take k) (fun k => T.length - k) 0 [] rfl ⟨by omega, rfl⟩ fun k ⟨hk, ht⟩ => ?_
 refine By rfl (fun h2 => ?_) fun h2 => ?_ <;> simp only [lt'] at h2
 · obtain ⟨x, hx⟩ : ∃ x, T[k]? = some x := ⟨_, List.getElem?_eq_getElem (by omega)⟩
   obtain ⟨y, hy⟩ : ∃ y, U[k]? = some y := ⟨_, List.getElem?_eq_getElem (by omega)⟩
   obtain ⟨x1, x2⟩ := hT k x hx
   obtain ⟨y1, y2⟩ := hU k y hy
   have := p16 (show k ≤ 16 by omega)
   refine Ix k rfl (mp hx) ?_
   refine Ix k rfl (mp hy) ?_
   refine Ce rfl (sameElement_ok x2 y2 hp (by omega)) ?_
   refine By rfl (fun h3 => ?_) fun h3 => ?_
   · have h3 : ¬ x = y := by simpa [dc_not, dc_iff] using h3
     exact R1 rfl (.bp ⟨nofun, fun e => by subst e; rw [hx] at hy; injection hy with hy; exact absurd hy h3⟩)
   · have e : x = y := by simpa [dc_not, dc_iff] using h3
     refine Ar (k + 1 : Nat) rfl ?_
     exact Bk (k + 1) [] rfl ⟨by omega, by rw [List.take_add_one, List.take_add_one, hx, hy, ht, e]⟩ (by show T.length - (k + 1) < T.length - k; omega)
 · rw [List.take_of_length_le (by omega), List.take_of_length_le (by omega)] at ht
   exact R1 rfl (.bp ⟨fun _ => ht, fun _ => rfl⟩)
theorem begins_ok {T U : List (List Rat)} {p q : Nat} (hT : Pt p T) (hU : Pt q U) (hp : p + q ≤ 8796093022208) (hl : T.length ≤ 16) : C0 195 [.d (dts T), .d (dts U)] (· = .b (dc (T.take U.length = U))) := by
 refine En Tryz.func195 fun _ _ _ => ?_
 refine By rfl (fun h => ?_) fun h => ?_ <;> simp only [lt'] at h
 · have hq : Pt p (T.take U.length) := fun i r hi => by
    rw [List.getElem?_take] at hi
    split at hi
    · exact hT i r hi
    · cases hi
   refine Tk U.length ((T.take U.length).map dqs) rfl rfl (by simp only [lt']; omega) (by rw [List.map_take]) ?_ (by simp only [lt'])
   refine Ce rfl (eqF_t_ok hq hU hp (by rw [List.length_take]; omega)) ?_
   exact R0
 · exact R1 rfl (.bp ⟨nofun, fun e => absurd (congrArg List.length e) (by rw [List.length_take]; omega)⟩)
theorem pad_ok {T : List (List Rat)} {l : List Rat} (h0 : 0 < l.length) (hT : T.length ≤ 16) (hl : l.length ≤ 2 ^ T.length) : C0 201 [.d (dts T), .d (dqs l)] (· = .d (dqs (l ++ List.replicate (2 ^ T.length - l.length) 0))) := by
 have hp := p16 hT
 obtain ⟨n, hn⟩ : ∃ n, n = 2 ^ T.length := ⟨_, rfl⟩
 rw [← hn] at hp hl ⊢
 refine En Tryz.func201 fun _ _ _ => ?_
 refine Cr rfl (clone_q_own h0 (by omega)) ?_
 refine Lo (fun k : Nat => [(0, .d (dts T)), (5, .own 7 4 0 ((l ++ List.replicate k 0).map dq).length)]) (fun k => [(7, .arr 4 ((l ++ List.replicate k 0).map dq))]) (fun k => l.length + k ≤ n) (fun k => n - k) 0 [] rfl (by omega) (fun k hk => ?_) (by exact ⟨by simp; rfl, by simp; rfl, rfl, rfl, rfl⟩)
 refine Ar n rfl ?_ (by rw [hn]; simp only [lt']; exact shl_one (by omega))
 refine By rfl (fun h => ?_) fun h => ?_ <;> simp only [lq, List.length_append, List.length_replicate] at h
 · refine Ce rfl (qFromInt_ok (z := 0) (by decide)) ?_
   refine ApO ((l ++ List.replicate (k + 1) 0).map dq) rfl rfl rfl (by rw [List.replicate_succ']; simp) (by simp; omega) ?_
   exact Bk (k + 1) [(7, 90), (17, 7)] rfl (show l.length + (k + 1) ≤ n by omega) (by show n - (k + 1) < n - k; omega)
 · refine R1 rfl (.own rfl (by omega) ?_)
   rw [List.drop_zero, show n - l.length = k by omega]
   exact List.take_of_length_le (by simp)
theorem pad_el {k m : Nat} {s : Tow.El k} {b : Tow.El m} {T : Tw m} (h : Lf s b) (hk : k ≤ m) (hm : m ≤ 16) : C0 201 [.d (dt T), .d (de s)] (· = .d (de b)) := by
 have := pad_ok (T := toT m T) (l := toL k s) (by rw [toL_length]; exact Nat.two_pow_pos k) (by rw [toT_length]; omega) (by rw [toL_length, toT_length]; exact Nat.pow_le_pow_right (by decide) hk)
 rw [toT_length, toL_length, ← h] at this
 exact this
abbrev dE (T rs : List (List Rat)) : D := .st (.pr (dts T) (dts rs))
theorem image_ok {k R z : Nat} {T : Tw k} {rs : List (List Rat)} {σ : Nat → Tow.El k} (hT : TS R k T) (hk : k ≤ 16) (hR : R ≤ 4398046511104) : ∀ {j p : Nat} {a : Tow.El j}, R9.Rts k z j rs σ → Sz p (toL j a) → j ≤ 16 → imB (cB R k) z j p ≤ 4398046511104 →
 C0 277 [.d (dE (toT k T) rs), .d (de a)] (· = .d (de (ev T σ j a))) := by
 intro j
 induction j with
 | zero =>
  intro p a _ ha hj hb
  have hb : p + 1 ≤ 4398046511104 := hb
  have key : ∀ y : Rat, Qs p y → C0 277 [.d (dE (toT k T) rs), .d (dqs [y])] (· = .d (de (rat k y))) := fun y hy => by
   refine En Tryz.func277 fun _ _ _ => ?_
   refine Yes rfl rfl ?_
   refine Dw rfl ?_
   refine Ix 0 rfl (u := dq y) rfl ?_
   refine Ce rfl (tFromRat_ok hT hk hR hy (by omega)) ?_
   exact R0
  exact key a (ha.qs (List.mem_singleton.2 rfl))
 | succ j ih =>
  intro p a hr ha hj hb
  have hb' : 2 * imB (cB R k) z j p + z + cB R k + 1 ≤ 4398046511104 := hb
  have hr' : R9.Rts k z j rs σ := fun i hi => hr i (by omega)
  have hpj := p16 (show j ≤ 16 by omega)
  have hp0 := Nat.two_pow_pos j
  have hpp := imB_ge (c := cB R k) (z := z) (p := p) (j := j)
  have hs : ∀ i, i < j → Sz z (toL k (σ i)) := fun i hi => (hr' i hi).elim fun _ h => h.elim fun _ h => h.2.2.2
  have h1 := ev_sz hT (a := a.1) hs (Sz.left ha)
  have h2 := ev_sz hT (a := a.2) hs (Sz.right ha)
  obtain ⟨m, s, m1, m2, m3, m4⟩ := hr j (by omega)
  refine En Tryz.func277 fun _ _ _ => ?_
  refine No rfl (by show ¬ ((((toL j a.1 ++ toL j a.2).map dq).length : Nat) : Int) = 1; rw [hvL]; omega) ?_
  refine Ar (2 ^ j : Nat) rfl ?_ (hvq a (by omega))
  refine Lo (fun i : Nat => [(1, .d (de a)), (2, .ptr 2 0), (4, .nil), (5, .d (.int .i64 (2 ^ j : Nat))), (6, .d (.int .i64 i))]) (fun _ => [(2, .var (.d (dE (toT k T) rs)))]) (fun i => i ≤ j) (fun i => j - i) 0 [] rfl (by omega) fun i hi => ?_
  refine Ar (i + 1 : Nat) rfl ?_
  refine Ar (2 ^ (i + 1) : Nat) rfl ?_ (shl_one (by omega))
  refine By rfl (fun h => ?_) fun h => ?_
  · have h : ((2 ^ (i + 1) : Nat) : Int) < (((toL j a.1 ++ toL j a.2).map dq).length : Nat) := h
    rw [hvL, ← Nat.pow_succ'] at h
    have h : i + 1 < j + 1 := (Nat.pow_lt_pow_iff_right (by decide : 1 < 2)).1 (by omega)
    refine Ar (i + 1 : Nat) rfl ?_
    exact Bk (i + 1) [] rfl (show i + 1 ≤ j by omega) (by show j - (i + 1) < j - i; omega)
  · have h : ¬ ((2 ^ (i + 1) : Nat) : Int) < (((toL j a.1 ++ toL j a.2).map dq).length : Nat) := h
    rw [hvL, ← Nat.pow_succ'] at h
    have h : ¬ i + 1 < j + 1 := fun e => h (by have := (Nat.pow_lt_pow_iff_right (by decide : 1 < 2)).2 e; omega)
    obtain rfl : i = j := by omega
    refine Dw rfl ?_
    refine Tk (2 ^ i) ((toL i a.1).map dq) rfl rfl (hv_le a) (hvT a) ?_
    refine Ce rfl (ih hr' (Sz.left ha) (by omega) (by omega)) ?_
    refine Dp (2 ^ i) ((toL i a.2).map dq) rfl rfl (hv_le a) (hvD a) ?_
    refine Ce rfl (tZero_ok (l := toL i a.2) (Sz.right ha).ps (by omega) (by rw [toL_length]; omega)) ?_
    refine By rfl (fun hv => ?_) fun hv => ?_
    · have hv : a.2 = zero i := (eq_zero_iff i a.2).2 hv
      have e : ev T σ i a.1 = ev T σ (i + 1) a := by
       have L := ring k T
       show _ = Tow.add k (ev T σ i a.1) (mul k T (ev T σ i a.2) (σ i))
       rw [hv, ev_zero, L.mc, L.mz, L.az]
      exact R1 rfl (.eq (congrArg de e))
    · refine Dw rfl ?_
      refine Dp (2 ^ i) ((toL i a.2).map dq) rfl rfl (hv_le a) (hvD a) ?_
      refine Ce rfl (ih hr' (Sz.right ha) (by omega) (by omega)) ?_
      refine Ix i rfl (mp m2) ?_
      refine Ce rfl (pad_el (T := T) m3 m1 hk) ?_
      refine Ce rfl (tMul_ok hT h2 m4 hk (by omega) hR) ?_
      refine Ce rfl (tAdd_ok hT h1 (h2.mul hT m4) hk (by omega) hR) ?_
      exact R0
section
variable {K : Nat} {G : Tw K} {S : List (Tow.El K)} {k l : Nat} {t : Tw k} {u : Tw l} {ρ ρu : Nat → Tow.El K}
theorem extend_ok (W : Wy G S wR) (ht : TOk G S k t ρ) (hu : TOk G S l u ρu) : C0 276 [.d (dt t), .d (dt u)] (R9.ExQ G S l k t ρ ρu fun T rs => .tup (.pr (.d (.st (.pr T rs))) (.d (.int .i64 0)))) := by
 have hl3 : l ≤ 3 := W.le hu
 refine En Tryz.func276 fun _ _ _ => ?_
 refine Nv 6 7 1 rfl ?_
 refine Lo (fun (x : Nat × (Σ m, Tw m) × List (List Rat)) => [(4, .ptr 4 0), (5, .d (.int .i64 0)), (6, .ptr 6 0), (14, .d (dt u)), (15, .d (.int .i64 ((toT l u).map dqs).length)), (16, .d (.int .i64 x.1))]) (fun x => [(4, .var (.st (.pr .nil .nil))), (6, .var (.st (.pr (.d (dt x.2.1.2)) (.gr 7 1 (x.2.2.map dqs))))), (7, .tok (x.2.2.map dqs).length 1)])
  (R9.ExI G S l k t ρ ρu) (fun x => l - x.1) (0, ⟨k, t⟩, []) [] rfl ⟨Nat.zero_le _, rfl, ρ, ht, Beg.rf, fun _ _ => rfl, fun i hi => by omega, fun _ => rfl⟩ (fun (i, ⟨m, T⟩, rs) hI => ?_)
 have hI' := hI
 obtain ⟨hi, hrl, ρ', hT, hB, ha, hrt, hc⟩ := hI
 simp only at hi hrl hT hB ha hrt hc
 have hm3 : m ≤ 3 := W.le hT
 have hz := W.t hT
 refine By rfl (fun h => ?_) fun h => ?_ <;> simp only [lt', toT_length] at h
 · have hil : i < l := by omega
   obtain ⟨x, σ, x1, x2, s1, s2, hev, x4, hsz⟩ := R9.ExI.rad W hu hil hT hrt
   obtain ⟨q1, q2, q3, q4⟩ := R9.exB hm3
   have hE := wE_im hm3 (show i ≤ 2 by omega)
   have hR := wR_eq
   have hE' := wE_eq
   have hlen : (rs.map dqs).length ≤ 3 := by rw [List.length_map]; omega
   refine Ix i rfl (mp x1) ?_
   refine Dw rfl ?_
   refine Ce rfl (image_ok (k := m) (T := T) hz (by omega) (by omega) s1 x2 (by omega) (by omega)) ?_
   refine Ca rfl (P8.Adjoin_ok (k := m) (t := T) hz hsz hT.r (by omega) q1 q2 q3 q4) fun v hv => ?_
   rcases hv with ⟨h1, rfl⟩ | ⟨y, h1, h2, rfl⟩ | ⟨h1, h2, h3, rfl⟩
   · have := ev_sgn (red_real W.g) hT.h (a := ev T σ i x)
     rw [hev, (sgn_ok (red_real W.g)).sm, x4] at this
     omega
   · refine No rfl (by simp) ?_
     refine ApG ((rs ++ [toL m y]).map dqs) rfl (by simp) (by simp at hlen ⊢; omega) ?_
     refine Ar (i + 1 : Nat) rfl ?_
     exact Bk (i + 1, ⟨m, T⟩, rs ++ [toL m y]) [(7, 90), (39, 7)] rfl (hI'.sq W hu hil hT hB ha hrt hc s2 hev x4 h1 h2) (by show l - (i + 1) < l - i; omega)
   · refine No rfl (by simp) ?_
     refine ApG ((rs ++ [toL (m + 1) (root (m + 1) m)]).map dqs) rfl (by simp) (by simp at hlen ⊢; omega) ?_
     refine Ar (i + 1 : Nat) rfl ?_
     exact Bk (i + 1, ⟨m + 1, tsn T (ev T σ i x)⟩, rs ++ [toL (m + 1) (root (m + 1) m)]) [(7, 90), (39, 7)] rfl (hI'.new W hu hil hT hB ha hrt hev x4 h2) (by show l - (i + 1) < l - i; omega)
 · obtain rfl : i = l := by omega
   exact Rt rfl (.tup (.cons (.sd (.pd (.rf rfl) (.gr rfl))) fitI)) ⟨m, T, rs, ρ', rfl, hT, hB, ha, hrt, hc⟩
end
end
section
theorem detach_ok {x : Nm} {r p : Nat} (hr : TS r x.k x.t) (hp : Sz p (toL x.k x.a)) (hk : x.k ≤ 16) (h1 : r ≤ 4398046511104) (h2 : p ≤ 4398046511104) : C0 58 [.d (dN x)] (· = .d (dN x)) := by
 have hpk := p16 hk
 refine En Tryz.func58 fun _ _ _ => ?_
 refine Ce rfl (copyList_ok hp.ps h2 (by rw [toL_length]; omega)) ?_
 refine Nv 3 7 1 rfl ?_
 refine Lo (fun (i : Nat) => [(2, .ptr 2 0), (3, .ptr 3 0), (11, .d (dt x.t)), (12, .d (.int .i64 ((toT x.k x.t).map dqs).length)), (13, .d (.int .i64 i))]) (fun i => [(2, .var (.st (.pr .nil .nil))), (3, .var (.st (.pr (.gr 7 1 (((toT x.k x.t).take i).map dqs)) (.d (de x.a))))), (7, .tok (((toT x.k x.t).take i).map dqs).length 1)])
  (fun i => i ≤ x.k) (fun i => x.k - i) 0 [] rfl (Nat.zero_le _) (fun i hi => ?_)
 refine By rfl (fun h => ?_) fun h => ?_ <;> simp only [lt', toT_length] at h
 · obtain ⟨w, y, y1, y2, y3, _⟩ := Tw.take (t := x.t) (i := i) (by omega)
   have hy := (y3 r hr).2
   refine Ix i rfl (mp y2) ?_
   refine Dw rfl ?_
   refine Ce rfl (copyList_ok hy.ps h1 (by rw [toL_length]; have := p16 (show i ≤ 16 by omega); omega)) ?_
   refine ApG (((toT x.k x.t).take (i + 1)).map dqs) rfl (by rw [List.take_add_one, y2]; simp) (by simp [toT_length]; omega) ?_
   refine Ar (i + 1 : Nat) rfl ?_
   exact Bk (i + 1) [(7, 90), (22, 7)] rfl (show i + 1 ≤ x.k by omega) (by show x.k - (i + 1) < x.k - i; omega)
 · have e : (toT x.k x.t).take i = toT x.k x.t := List.take_of_length_le (by rw [toT_length]; omega)
   refine R1 rfl (.sd (.pd (.gr ?_) (.rf rfl)))
   rw [e]
theorem one_zero : ∀ {k : Nat}, rat k 1 ≠ zero k
 | 0, h => by have h : (1 : Rat) = 0 := h; exact absurd h (by decide)
 | k + 1, h => one_zero (k := k) (congrArg Prod.fst h)
theorem inv_zero {k : Nat} {t : Tw k} {a : Tow.El k} (h : a = zero k) : Tow.inv k t a = none := by
 cases e : Tow.inv k t a with
 | none => rfl
 | some i =>
  have := inv_mul e
  rw [h, (ring k t).mz] at this
  exact absurd this.symm one_zero
section
variable {K : Nat} {G : Tw K} {S : List (Tow.El K)} {r p : Nat} {x y : Nm} {vx vy : Tow.El K}
theorem common_ok (W : Wy G S wR) (hx : NOk G S r p x vx) (hy : NOk G S r p y vy) : C0 275 [.d (dNs [x, y])] fun v => ∃ m T, v = .tup (.pr (.d (dt T)) (.d (.int .i64 0))) ∧ R9.CmP G S x y m T := by
 have hG := W.g
 have hR := wR_eq
 obtain ⟨ρx, hx1, hx2⟩ := hx.ex
 obtain ⟨ρy, hy1, hy2⟩ := hy.ex
 have hx3 := W.le hx1
 have hy3 := W.le hy1
 have hxr := W.t hx1
 have hyr := W.t hy1
 refine En Tryz.func275 fun _ _ _ => ?_
 refine Nd 4 1 rfl ?_
 refine Lo (fun (s : Nat × (Σ m, Tw m)) => [(2, .nil), (3, .d (.int .i64 0)), (4, .d (dt s.2.2)), (9, .d (dNs [x, y])), (10, .d (.int .i64 2)), (11, .d (.int .i64 s.1))]) (fun _ => []) (fun s => (s.1 = 0 ∧ s.2 = ⟨0, ()⟩) ∨ (s.1 = 1 ∧ s.2 = ⟨x.k, x.t⟩) ∨ (s.1 = 2 ∧ R9.CmP G S x y s.2.1 s.2.2)) (fun s => 2 - s.1) (0, ⟨0, ()⟩) [] rfl (.inl ⟨rfl, rfl⟩) (fun (i, ⟨m, T⟩) hI => ?_)
 simp only at hI
 rcases hI with ⟨rfl, e⟩ | ⟨rfl, e⟩ | ⟨rfl, hP⟩
 · cases e
   refine Yes rfl (show ((0 : Nat) : Int) < 2 by decide) ?_
   refine Ix 0 rfl (u := dN x) rfl ?_
   refine Ce rfl (begins_ok (T := []) (U := toT x.k x.t) (p := 1) (fun i r h => by simp at h) (TS.pt hxr) (by omega) (by decide)) ?_
   refine By rfl (fun h => ?_) fun h => ?_
   · obtain ⟨kx, tx, ax⟩ := x
     have h : [] = toT kx tx := by simpa using h
     obtain rfl : kx = 0 := by have := congrArg List.length h; rw [toT_length] at this; exact this.symm
     refine Ar (0 + 1 : Nat) rfl ?_
     exact Bk (1, ⟨0, tx⟩) [] rfl (.inr (.inl ⟨rfl, rfl⟩)) (show 1 < 2 by decide)
   · refine Ce rfl (begins_ok (U := []) (q := 1) (TS.pt hxr) (fun i r h => by simp at h) (by omega) (by rw [toT_length]; omega)) ?_
     refine Yes rfl (by simp) ?_
     refine Ar (0 + 1 : Nat) rfl ?_
     exact Bk (1, ⟨x.k, x.t⟩) [] rfl (.inr (.inl ⟨rfl, rfl⟩)) (show 1 < 2 by decide)
 · cases e
   have last : ∀ h : (toT x.k x.t).take (toT y.k y.t).length = toT y.k y.t, R9.CmP G S x y x.k x.t := fun h => .mk hG hx1 hy1 hx1 R9.rts (R9.beg_rt hG (show Beg y.k y.t x.k x.t from h) hy1 hx1)
   refine Yes rfl (show ((1 : Nat) : Int) < 2 by decide) ?_
   refine Ix 1 rfl (u := dN y) rfl ?_
   refine Ce rfl (begins_ok (T := toT x.k x.t) (U := toT y.k y.t) (TS.pt hxr) (TS.pt hyr) (by omega) (by rw [toT_length]; omega)) ?_
   refine By rfl (fun h => ?_) fun h => ?_
   · refine Ar (1 + 1 : Nat) rfl ?_
     exact Bk (2, ⟨x.k, x.t⟩) [] rfl (.inr (.inr ⟨rfl, last h⟩)) (show 0 < 1 by decide)
   refine Ce rfl (begins_ok (T := toT y.k y.t) (U := toT x.k x.t) (TS.pt hyr) (TS.pt hxr) (by omega) (by rw [toT_length]; omega)) ?_
   refine By rfl (fun h1 => ?_) fun h1 => ?_
   · have hb : Beg x.k x.t y.k y.t := h1
     refine Ar (1 + 1 : Nat) rfl ?_
     exact Bk (2, ⟨y.k, y.t⟩) [] rfl (.inr (.inr ⟨rfl, .mk hG hx1 hy1 hy1 (R9.beg_rt hG hb hx1 hy1) R9.rts⟩)) (show 0 < 1 by decide)
   · refine Ca rfl (extend_ok W hx1 hy1) fun v hv => ?_
     obtain ⟨m, T, rs, ρ', rfl, g1, g2, g3, g5, g6⟩ := hv
     refine No rfl (by simp) ?_
     refine Ar (1 + 1 : Nat) rfl ?_
     exact Bk (2, ⟨m, T⟩) [] rfl (.inr (.inr ⟨rfl, .ext hG hx1 hy1 g1 g2 g5⟩)) (show 0 < 1 by decide)
 · refine No rfl (show ¬ ((2 : Nat) : Int) < 2 by decide) ?_
   exact Rt rfl (.tup (.cons (.rf rfl) fitI)) ⟨m, T, rfl, hP⟩
theorem Join_ok (W : Wy G S wR) (hx : NOk G S r p x vx) (hy : NOk G S r p y vy) (hp : p ≤ 4000000000) : C0 197 [.d (dNs [x, y])] fun v => ∃ m T a b, v = .tup (.pr (.d (dNs [⟨m, T, a⟩, ⟨m, T, b⟩])) (.d (.int .i64 0))) ∧ R9.JnR G S p vx vy m T a b := by
 have hc := common_ok W hx hy
 have hG := W.g
 have hR := wR_eq
 have hJ : jW p = 8 * p + 73803682 := rfl
 refine En Tryz.func197 fun _ _ _ => ?_
 refine Ca rfl hc fun v hv => ?_
 obtain ⟨m, T, rfl, hP⟩ := hv
 obtain ⟨ρ, hT, hcon⟩ := hP
 have hTr := W.t hT
 have hm3 := W.le hT
 refine No rfl (by decide) ?_
 refine Nl 6 6 2 rfl ?_
 refine Lo (fun (s : Nat × List (Tow.El m)) => [(2, .nil), (3, .d (.int .i64 0)), (4, .d (dt T)), (6, .gr 6 2 (s.2.map fun a => dN ⟨m, T, a⟩)), (20, .d (dNs [x, y])), (21, .d (.int .i64 2)), (22, .d (.int .i64 s.1))]) (fun s => [(6, .tok (s.2.map fun a => dN ⟨m, T, a⟩).length 2)])
  (R9.JnI G p m ρ vx vy) (fun s => 2 - s.1) (0, []) [] rfl ⟨Nat.zero_le _, rfl, fun i hi => absurd hi (Nat.not_lt_zero _)⟩ (fun (j, bs) hI => ?_)
 have hI' := hI
 obtain ⟨hj, hjl, has⟩ := hI
 simp only at hj hjl has
 refine By rfl (fun h => ?_) fun h => ?_
 · have h : (j : Int) < 2 := h
   obtain ⟨z, v, ρz, z1, z2, z3, z4, z6⟩ := R9.both hx hy j (by omega)
   have z5 := W.t z3
   have hzu : ([x, y].map dN)[j]? = some (dN z) := by rw [List.getElem?_map, z1]; rfl
   have hzm := hcon z (List.mem_of_getElem? z1) ρz z3
   have hz3 := W.le z3
   have hpj : p ≤ jW p := R9.jW_ge
   refine Ix j rfl hzu ?_
   refine Ce rfl (begins_ok (T := toT m T) (U := toT z.k z.t) (TS.pt hTr) (TS.pt z5) (by omega) (by rw [toT_length]; omega)) ?_
   refine By rfl (fun h1 => ?_) fun h1 => ?_
   · have hb : Beg z.k z.t m T := h1
     obtain ⟨b, hlb⟩ := Lf.ex hb.le z.a
     have hv1 : ev G ρ m b = v := by rw [hlb.ev hb.le, ev_congr (R9.beg_ag hG hb z3 hT), z4]
     refine Ce rfl (pad_el (T := T) hlb hb.le (by omega)) ?_
     refine Ce rfl (detach_ok (x := ⟨_, T, b⟩) hTr ((hlb.sz z6).mono hpj) (show _ ≤ 16 from by show m ≤ 16; omega) (by omega) (by omega)) ?_
     refine ApG ((bs ++ [b]).map fun a => dN ⟨m, T, a⟩) rfl (by simp) (by simp; omega) ?_
     refine Ar (j + 1 : Nat) rfl ?_
     exact Bk (j + 1, bs ++ [b]) [(6, 90), (56, 6)] rfl (hI'.step (by omega) z2 hv1 ((hlb.sz z6).mono hpj)) (by show 2 - (j + 1) < 2 - j; omega)
   · refine Ca rfl (extend_ok W hT z3) fun v' hv => ?_
     obtain ⟨m', T', rs, ρ', rfl, g1, g2, g3, g5, g6⟩ := hv
     obtain rfl : m' = m := by have := congrArg List.length (g6 hzm); rwa [toT_length, toT_length] at this
     obtain rfl : T = T' := (toT_inj (g6 hzm)).symm
     have g5 : RtV G m' (zM wR 3) z.k rs ρ ρz := g5.mono (Nat.le_refl _) (Nat.le_refl _) (fun i hi => (g3 i hi).symm)
     obtain ⟨σ, s1, s2⟩ := g5.sig
     have hbd := jW_im (p := p) hm3 hz3
     refine No rfl (by simp) ?_
     refine Ce rfl (image_ok hTr (by omega) (by omega) s1 z6 (by omega) (by omega)) ?_
     refine Ce rfl (detach_ok (x := ⟨_, T, ev T σ z.k z.a⟩) hTr (R9.img W hT z3 s1 z6) (show _ ≤ 16 from by show m' ≤ 16; omega) (by omega) (by omega)) ?_
     refine ApG ((bs ++ [ev T σ z.k z.a]).map fun a => dN ⟨m', T, a⟩) rfl (by simp) (by simp; omega) ?_
     refine Ar (j + 1 : Nat) rfl ?_
     exact Bk (j + 1, bs ++ [ev T σ z.k z.a]) [(6, 90), (56, 6)] rfl (hI'.step (by omega) z2 (by rw [ev_ev hT.h s2, z4]) (R9.img W hT z3 s1 z6)) (by show 2 - (j + 1) < 2 - j; omega)
 · have h : ¬ (j : Int) < 2 := h
   obtain rfl : j = 2 := by omega
   obtain ⟨a, b, rfl, hJ⟩ := hI'.done hT
   exact Rt rfl (.tup (.cons (.gr rfl) fitI)) ⟨m, T, a, b, rfl, hJ⟩
def OpF (f : FuncId) (p : Nat) (g : (m : Nat) → Tw m → Tow.El m → Tow.El m → Tow.El m) : Prop := ∀ (m : Nat) (T : Tw m) (a b : Tow.El m), m ≤ 3 → TS wR m T → Sz (jW p) (toL m a) → Sz (jW p) (toL m b) → C0 f [.d (dt T), .d (de a), .d (de b)] (· = .d (de (g m T a b)))
theorem combine_ok {f : FuncId} {g : (m : Nat) → Tw m → Tow.El m → Tow.El m → Tow.El m} (hf : OpF f p g) (W : Wy G S wR) (hx : NOk G S r p x vx) (hy : NOk G S r p y vy) (hp : p ≤ 4000000000) : C0 204 [.d (dN x), .d (dN y), .d (fnD f)] fun v => ∃ m T a b, v = .tup (.pr (.d (dN ⟨m, T, g m T a b⟩)) (.d (.int .i64 0))) ∧ R9.JnR G S p vx vy m T a b := by
 refine En Tryz.func204 fun _ _ _ => ?_
 refine Ca rfl (Join_ok W hx hy hp) fun v hv => ?_
 obtain ⟨m, T, a, b, rfl, h⟩ := hv
 obtain ⟨ρ, h1, h3, h4, h5, h6⟩ := id h
 have h2 := W.t h1
 have hm := W.le h1
 refine No rfl (by simp) ?_
 refine Ix 0 rfl (u := dN ⟨m, T, a⟩) rfl ?_
 refine Dw rfl ?_
 refine Ix 0 rfl (u := dN ⟨m, T, a⟩) rfl ?_
 refine Ix 1 rfl (u := dN ⟨m, T, b⟩) rfl ?_
 refine Ce rfl (hf m T a b hm h2 h5 h6) ?_
 exact Rt rfl (.tup (.cons (.rf rfl) fitI)) ⟨m, T, a, b, rfl, h⟩
theorem Add_ok (W : Wy G S wR) (hx : NOk G S r p x vx) (hy : NOk G S r p y vy) (hp : p ≤ 4000000000) : C0 118 [.d (dN x), .d (dN y)] (R9.OpR G S (oW p) (Tow.add K vx vy)) := by
 have hO : oW p = 16 * p + 147714794 := rfl
 have hJ : jW p = 8 * p + 73803682 := rfl
 have hC := wC
 have hR := wR_eq
 refine En Tryz.func118 fun _ _ _ => ?_
 refine Ca rfl (combine_ok (g := fun m T a b => Tow.add m a b) (fun m T a b hm h2 h5 h6 => tAdd_ok h2 h5 h6 (by omega) (by omega) (by omega)) W hx hy hp) fun v hv => ?_
 obtain ⟨m, T, a, b, rfl, ρ, h1, h3, h4, h5, h6⟩ := hv
 have h2 := W.t h1
 exact Rt rfl (.tup (.cons (.rf rfl) fitI)) ⟨⟨m, T, Tow.add m a b⟩, rfl, ⟨ρ, h1, by rw [← h3, ← h4]; exact ev_add⟩, h2, by rw [toL_add]; exact (h5.add h6).mono (by omega)⟩
theorem Mul_ok (W : Wy G S wR) (hx : NOk G S r p x vx) (hy : NOk G S r p y vy) (hp : p ≤ 4000000000) : C0 129 [.d (dN x), .d (dN y)] (R9.OpR G S (oW p) (Tow.mul K G vx vy)) := by
 have hO : oW p = 16 * p + 147714794 := rfl
 have hJ : jW p = 8 * p + 73803682 := rfl
 have hC := wC
 have hR := wR_eq
 refine En Tryz.func129 fun _ _ _ => ?_
 refine Ca rfl (combine_ok (g := fun m T a b => Tow.mul m T a b) (fun m T a b hm h2 h5 h6 => tMul_ok h2 h5 h6 (by omega) (by have := cB_le' (r := wR) hm; omega) (by omega)) W hx hy hp) fun v hv => ?_
 obtain ⟨m, T, a, b, rfl, ρ, h1, h3, h4, h5, h6⟩ := hv
 have h2 := W.t h1
 have hm := W.le h1
 have hc := cB_le' (r := wR) hm
 exact Rt rfl (.tup (.cons (.rf rfl) fitI)) ⟨⟨m, T, Tow.mul m T a b⟩, rfl, ⟨ρ, h1, by rw [← h3, ← h4]; exact ev_mul h1.h⟩, h2, (h5.mul h2 h6).mono (by omega)⟩
theorem Sub_ok (W : Wy G S wR) (hx : NOk G S r p x vx) (hy : NOk G S r p y vy) (hp : p ≤ 4000000000) : C0 178 [.d (dN x), .d (dN y)] (R9.OpR G S (oW p) (Tow.add K vx (Tow.neg K vy))) := by
 have hO : oW p = 16 * p + 147714794 := rfl
 have hJ : jW p = 8 * p + 73803682 := rfl
 have hC := wC
 have hR := wR_eq
 refine En Tryz.func178 fun _ _ _ => ?_
 refine Ca rfl (combine_ok (g := fun m T a b => Tow.add m a (Tow.neg m b)) (fun m T a b hm h2 h5 h6 => tSub_ok h2 h5 h6 (by omega) (by omega) (by omega)) W hx hy hp) fun v hv => ?_
 obtain ⟨m, T, a, b, rfl, ρ, h1, h3, h4, h5, h6⟩ := hv
 have h2 := W.t h1
 exact Rt rfl (.tup (.cons (.rf rfl) fitI)) ⟨⟨m, T, Tow.add m a (Tow.neg m b)⟩, rfl, ⟨ρ, h1, by rw [← h3, ← h4, ← ev_neg]; exact ev_add⟩, h2, by rw [toL_add]; exact (h5.add (neg_sz h6)).mono (by omega)⟩
theorem Neg_ok (hx : NOk G S r p x vx) (hk : x.k ≤ 16) (hr : r ≤ 4398046511104) (hp : p ≤ 4398046511104) : C0 22 [.d (dN x)] (· = .d (dN ⟨x.k, x.t, Tow.neg x.k x.a⟩)) := by
 refine En Tryz.func22 fun _ _ _ => ?_
 refine Ce rfl (detach_ok hx.r hx.p hk hr hp) ?_
 refine Ce rfl (tNeg_ok hx.r hx.p hk hp hr) ?_
 exact R0
theorem Sign_ok (hG : red K G) (hx : NOk G S r p x vx) (hk : x.k ≤ 16) (hv : vB r x.k p ≤ 4398046511104) (hr : vB r x.k r ≤ 4398046511104) : C0 214 [.d (dN x)] (· = .d (.int .i64 (sgn K G vx))) := by
 obtain ⟨ρ, h1, h2⟩ := hx.ex
 have := vB_ge (r := r) x.k r
 refine En Tryz.func214 fun _ _ _ => ?_
 refine Ce rfl (Sign_el hx.r hx.p (red_real h1.r) hk hv hr (by omega)) ?_
 rw [hx.sgn (red_real hG)]
 exact R0
theorem FromRat_ok {q : Rat} {p : Nat} (hq : Qs p q) (hp : p ≤ 4398046511104) : C0 116 [.d (dq q)] (· = .d (dN ⟨0, (), q⟩)) := by
 refine En Tryz.func116 fun _ _ _ => ?_
 refine Ce rfl (copyRat_ok hq hp) ?_
 exact R1 rfl (.sd (.pd (.nil rfl) (.lit rfl)))
theorem FromInt_ok {z : Int} (h : -9223372036854775808 ≤ z ∧ z < 9223372036854775808) : C0 55 [.d (.int .i64 z)] (· = .d (dN ⟨0, (), (z : Rat)⟩)) := by
 refine En Tryz.func55 fun _ _ _ => ?_
 refine Ce rfl (qFromInt_ok h) ?_
 refine Ce rfl (FromRat_ok (q := (z : Rat)) (p := 64) (Qs.int (by unfold Zs; omega) (by omega)) (by decide)) ?_
 exact R0
end
end
end Go.Proofs.YtpgcfjpkilabfaaGreatDoor.P9
namespace Go.Tow
open Go Go.Num Go.Proofs.YtpgcfjpkilabfaaGreatDoor
variable {K : Nat} {G : Tw K} {S : List (El K)} {N : List Nm} {n m : Nat} {x y z : Nm} {v w : El K} {r p : Nat}
structure Wn (G : Tw K) (S : List (El K)) (N : List Nm) : Prop where
 w : Wy G S wR
 h : ∀ z ∈ N, ∃ ρz, TOk G S z.k z.t ρz
def gB (n : Nat) : Nat := n * 20000000 - 107430
structure Gd (G : Tw K) (S : List (El K)) (N : List Nm) (n : Nat) (x : Nm) (v : El K) : Prop where
 o : NOk G S wR (gB n) x v
 g : Gs G S N (gB n) v
 n : 1 ≤ n
theorem gB_le (h : n ≤ m) : gB n ≤ gB m := by unfold gB; omega
theorem Gd.mono (h : Gd G S N n x v) (hm : n ≤ m) : Gd G S N m x v := ⟨h.o.mono (Nat.le_refl _) (gB_le hm), h.g.mono (gB_le hm), Nat.le_trans h.n hm⟩
theorem Gd.neg (h : Gd G S N n x v) : Gd G S N n ⟨x.k, x.t, Tow.neg x.k x.a⟩ (Tow.neg K v) := ⟨h.o.neg, h.g.neg, h.n⟩
theorem Gd.add (W : Wn G S N) (hx : Gd G S N n x v) (hy : Gd G S N m y w) (hz : NOk G S r p z (Tow.add K v w)) : Gd G S N (n + m) z (Tow.add K v w) := by
 have h := (hx.g.add hy.g).mono (show _ ≤ gB (n + m) by have := hx.n; have := hy.n; unfold gB; omega)
 exact ⟨hz.re W.w W.h h, h, Nat.le_trans hx.n (Nat.le_add_right ..)⟩
theorem Gd.mul (W : Wn G S N) (hx : Gd G S N n x v) (hy : Gd G S N m y w) (hz : NOk G S r p z (Tow.mul K G v w)) : Gd G S N (n + m) z (Tow.mul K G v w) := by
 have h := (hx.g.mul W.w hy.g).mono (show _ ≤ gB (n + m) by rw [wC]; have := hx.n; have := hy.n; unfold gB; omega)
 exact ⟨hz.re W.w W.h h, h, Nat.le_trans hx.n (Nat.le_add_right ..)⟩
theorem Gd.rat (W : Wn G S N) {q : Rat} (h : Qs 64 q) : Gd G S N 1 ⟨0, (), q⟩ (Tow.rat K q) := by
 have h0 : NOk G S 0 65 ⟨0, (), q⟩ (Tow.rat K q) := ⟨⟨fun _ => zero _, ⟨trivial, trivial, fun i hi => absurd hi (Nat.not_lt_zero _)⟩, rfl⟩, trivial, Sz.rat 0 h⟩
 have hg : Gs G S N (gB 1) (Tow.rat K q) := (Gs.rat h).mono (by decide)
 exact ⟨h0.re W.w W.h hg, hg, Nat.le_refl _⟩
theorem Gd.le (W : Wn G S N) (h : Gd G S N n x v) : x.k ≤ 3 := h.o.le (red_real W.w.g) W.w.s
theorem Gd.op (h : Gd G S N n x v) (hn : n ≤ 190) : NOk G S wR 3799892570 x v := h.o.mono (Nat.le_refl _) (by unfold gB; omega)
theorem vB_gB (W : Wn G S N) (h : Gd G S N n x v) (hn : n ≤ 800) : vB wR x.k (gB n) ≤ 4398046511104 := Nat.le_trans (Nat.le_trans (vB_le (h.le W)) (vB_mono (show gB n ≤ oW 4000000000 by unfold gB oW; omega))) wV
theorem vB_wR (W : Wn G S N) (h : Gd G S N n x v) : vB wR x.k wR ≤ 4398046511104 := Nat.le_trans (vB_le (h.le W)) wQ.2.2.2
end Go.Tow
namespace Go.Proofs.YtpgcfjpkilabfaaGreatDoor
open Go Go.Vm Go.Num Go.Tow
section
variable {K : Nat} {G : Tw K} {S : List (Tow.El K)} {N : List Nm} {n m : Nat} {x y z : Nm} {v w : Tow.El K}
def OpG (G : Tw K) (S : List (Tow.El K)) (N : List Nm) (n : Nat) (w : Tow.El K) (r : AV) : Prop := ∃ z : Nm, r = .tup (.pr (.d (dN z)) (.d (.int .i64 0))) ∧ Gd G S N n z w
def OnG (G : Tw K) (S : List (Tow.El K)) (N : List Nm) (n : Nat) (w : Tow.El K) (r : AV) : Prop := ∃ z : Nm, r = .d (dN z) ∧ Gd G S N n z w
theorem P9.Add_g (W : Wn G S N) (hx : Gd G S N n x v) (hy : Gd G S N m y w) (hn : n ≤ 190) (hm : m ≤ 190) : C0 118 [.d (dN x), .d (dN y)] (OpG G S N (n + m) (Tow.add K v w)) := (P9.Add_ok W.w (hx.op hn) (hy.op hm) (by decide)).mono fun _ ⟨z, e, h⟩ => ⟨z, e, hx.add W hy h⟩
theorem P9.Mul_g (W : Wn G S N) (hx : Gd G S N n x v) (hy : Gd G S N m y w) (hn : n ≤ 190) (hm : m ≤ 190) : C0 129 [.d (dN x), .d (dN y)] (OpG G S N (n + m) (Tow.mul K G v w)) := (P9.Mul_ok W.w (hx.op hn) (hy.op hm) (by decide)).mono fun _ ⟨z, e, h⟩ => ⟨z, e, hx.mul W hy h⟩
theorem P9.Neg_g (W : Wn G S N) (hx : Gd G S N n x v) (hn : n ≤ 190) : C0 22 [.d (dN x)] (OnG G S N n (Tow.neg K v)) := (P9.Neg_ok hx.o (by have := hx.le W; omega) (by decide) (by unfold gB; omega)).mono fun _ e => ⟨_, e, hx.neg⟩
theorem P9.Sign_g (W : Wn G S N) (hx : Gd G S N n x v) (hn : n ≤ 800) : C0 214 [.d (dN x)] (· = .d (.int .i64 (sgn K G v))) := P9.Sign_ok W.w.g hx.o (by have := hx.le W; omega) (vB_gB W hx hn) (vB_wR W hx)
end
end Go.Proofs.YtpgcfjpkilabfaaGreatDoor
namespace Go.Tow
open Go
abbrev V2 (K : Nat) := El K × El K
section
variable {K : Nat} {G : Tw K} {p q : V2 K}
def vdot (G : Tw K) (p q : V2 K) : El K := add K (mul K G p.1 q.1) (mul K G p.2 q.2)
end
end Go.Tow
namespace Go.Proofs.YtpgcfjpkilabfaaGreatDoor
open Go Go.Vm Go.Num Go.Tow
section
structure Vn where
 x : Nm
 y : Nm
abbrev dV (v : Vn) : D := .st (.pr (dN v.x) (dN v.y))
abbrev dVs (l : List Vn) : D := .sl 4 (l.map dV)
abbrev n00 : Nm := ⟨0, (), ((0 : Int) : Rat)⟩
structure Gv {K : Nat} (G : Tw K) (S : List (Tow.El K)) (N : List Nm) (n : Nat) (v : Vn) (p : V2 K) : Prop where
 x : Gd G S N n v.x p.1
 y : Gd G S N n v.y p.2
def IsB (r : AV) : Prop := ∃ c : Bool, r = .b c
section
variable {K : Nat} {G : Tw K} {S : List (Tow.El K)} {N : List Nm} {n m : Nat} {x y z : Nm} {a b v w : Tow.El K} {u s : Vn} {p q : V2 K}
def VeG (G : Tw K) (S : List (Tow.El K)) (N : List Nm) (n : Nat) (p : V2 K) (r : AV) : Prop := ∃ v : Vn, r = .d (dV v) ∧ Gv G S N n v p
def VoG (G : Tw K) (S : List (Tow.El K)) (N : List Nm) (n : Nat) (p : V2 K) (r : AV) : Prop := ∃ v : Vn, r = .tup (.pr (.d (dV v)) (.d (.int .i64 0))) ∧ Gv G S N n v p
end
end
section
section
variable {K : Nat} {G : Tw K} {S : List (Tow.El K)} {N : List Nm} {n m : Nat} {x y z : Nm} {a b : Tow.El K} {u s : Vn} {p q : V2 K}
theorem R13.Make_ok {i j : Rat} : C0 87 [.d (dq i), .d (dq j)] (· = .d (dV ⟨⟨0, (), i⟩, ⟨0, (), j⟩⟩)) := by
 refine En Tryz.func87 fun _ _ _ => ?_
 refine Dw rfl ?_
 refine Ce rfl R9.FromRat_ok ?_
 refine Ce rfl R9.FromRat_ok ?_
 exact R0
theorem R13.Whole_ok {i j : Int} (hi : -9223372036854775808 ≤ i ∧ i < 9223372036854775808) (hj : -9223372036854775808 ≤ j ∧ j < 9223372036854775808) : C0 39 [.d (.int .i64 i), .d (.int .i64 j)] (· = .d (dV ⟨⟨0, (), (i : Rat)⟩, ⟨0, (), (j : Rat)⟩⟩)) := by
 refine En Tryz.func39 fun _ _ _ => ?_
 refine Ce rfl (R2.FromInt_ok hi) ?_
 refine Ce rfl (R2.FromInt_ok hj) ?_
 refine Ce rfl R13.Make_ok ?_
 exact R0
abbrev cal : Ob := .var (.d (.st (.int .i64 0)))
end
end
section
section
variable {K : Nat} {G : Tw K} {S : List (Tow.El K)} {N : List Nm} {n m : Nat} {x y z : Nm} {a b : Tow.El K} {u s : Vn} {p q : V2 K} {f g : Int}
end
end
open Go Go.Vm Go.Num Go.Tow
section
variable {K : Nat} {G : Tw K} {S : List (Tow.El K)} {N : List Nm} {n m : Nat} {x y z : Nm} {a b : Tow.El K} {u s : Vn} {p q : V2 K} {f g : Int}
namespace P13
end P13
namespace P19
def Trm (x : Nm) : Prop := C0 192 [.d (dN x)] (· = .d (dN x))
end P19
end
end Go.Proofs.YtpgcfjpkilabfaaGreatDoor
namespace Go.Vm
open Go
section
variable {c : Cx} {s : St} {p : Pl}
noncomputable def nxAr (tb : Nat → Option TI) (n : Nat) (s : St) : Option (Pl × Nat × Nat × Int × Nat × Nat) := match nxA tb n s with
 | some (p, o, [.ptr q off, .d (.int _ j)]) => match o.op with
  | .indexAddr T _ _ => match tb T with
   | some ⟨.st _, e, _, ar⟩ => some (p, q, off, j, e.size, ar)
   | _ => none
  | _ => none
 | _ => none
theorem Ia (i : Nat) {q off sz ar : Nat} {j : Int} (h : nxAr c.tb c.n s = some (p, q, off, j, sz, ar)) (hi : i < ar) (kk : p.nx c (.ptr q (off + i * sz))) (hj : j = (i : Int) := by first | exact rfl | omega) : StP c s := by
 subst hj
 unfold nxAr at h
 split at h <;> try cases h
 rename_i p' o q1 off1 k1 j1 hA
 split at h <;> try cases h
 rename_i T x y ho
 split at h <;> try cases h
 rename_i z e eb ht
 refine nxA_ok (v := .ptr q (off + i * e.size)) (us := []) hA ?_ (Pl.nx_nil kk)
 rw [ho]
 simp [F, Fp, ht, hi]
end
end Go.Vm
namespace Go.Proofs.YtpgcfjpkilabfaaGreatDoor
open Go Go.Vm Go.Num Go.Tow
end Go.Proofs.YtpgcfjpkilabfaaGreatDoor
namespace Go.Proofs.YtpgcfjpkilabfaaGreatDoor.P9
open Go Go.Vm Go.Num Go.Tow Go.Proofs.YtpgcfjpkilabfaaGreatDoor
end Go.Proofs.YtpgcfjpkilabfaaGreatDoor.P9
namespace Go.Proofs.YtpgcfjpkilabfaaGreatDoor
open Go Go.Vm Go.Num Go.Tow
section
variable {K : Nat} {G : Tw K} {S : List (Tow.El K)} {N : List Nm} {n m k : Nat} {x y z : Nm} {a b v w : Tow.El K} {u s t : Vn} {p q r : V2 K}
def vsub {K : Nat} (p q : V2 K) : V2 K := (Tow.add K p.1 (Tow.neg K q.1), Tow.add K p.2 (Tow.neg K q.2))
def vplus {K : Nat} (p q : V2 K) : V2 K := (Tow.add K p.1 q.1, Tow.add K p.2 q.2)
theorem P9.Sub_g (W : Wn G S N) (hx : Gd G S N n x v) (hy : Gd G S N m y w) (hn : n ≤ 190) (hm : m ≤ 190) : C0 178 [.d (dN x), .d (dN y)] (OpG G S N (n + m) (Tow.add K v (Tow.neg K w))) := (P9.Sub_ok W.w (hx.op hn) (hy.op hm) (by decide)).mono fun _ ⟨z, e, h⟩ => ⟨z, e, hx.add W hy.neg h⟩
theorem toL_eq {K : Nat} {a b : Tow.El K} : toL K a = toL K b ↔ a = b := ⟨toL_inj, fun e => by rw [e]⟩
theorem P9.Equal_g (W : Wn G S N) (hx : Gd G S N n x v) (hy : Gd G S N m y w) (hn : n ≤ 190) (hm : m ≤ 190) : C0 114 [.d (dN x), .d (dN y)] (· = .b (dc (v = w))) := by
 have hG := W.w.g
 have hR := wR_eq
 have hx' := hx.op hn
 have hy' := hy.op hm
 obtain ⟨ρx, hx1, hx2⟩ := hx'.ex
 obtain ⟨ρy, hy1, hy2⟩ := hy'.ex
 have hx3 := W.w.le hx1
 have hy3 := W.w.le hy1
 have hxr := W.w.t hx1
 have hyr := W.w.t hy1
 have hpx := p16 (show x.k ≤ 16 by omega)
 have hJ : jW 3799892570 = 8 * 3799892570 + 73803682 := rfl
 have hj : C0 197 [.d (dNs [x, y])] fun v' => ∃ m T a b, v' = .tup (.pr (.d (dNs [⟨m, T, a⟩, ⟨m, T, b⟩])) (.d (.int .i64 0))) ∧ R9.JnR G S 3799892570 v w m T a b := P9.Join_ok W.w hx' hy' (by decide)
 have fin : ∀ {k : Nat} {T : Tw k} {a b : Tow.El k} {ρ : Nat → Tow.El K}, TOk G S k T ρ → ev G ρ k a = v → ev G ρ k b = w → (dc (toL k a = toL k b) = true ↔ v = w) := fun {k T a b ρ} h1 h2 h3 => by
  rw [dc_iff, toL_eq, ← h2, ← h3]
  exact ⟨fun e => by rw [e], fun e => ev_inj (red_real hG) h1.h h1.r e⟩
 refine En Tryz.func114 fun _ _ _ => ?_
 refine Ce rfl (P9.begins_ok (T := toT x.k x.t) (U := toT y.k y.t) (TS.pt hxr) (TS.pt hyr) (by omega) (by rw [toT_length]; omega)) ?_
 refine By rfl (fun h1 => ?_) fun h1 => ?_
 · refine Ce rfl (P9.begins_ok (T := toT y.k y.t) (U := toT x.k x.t) (TS.pt hyr) (TS.pt hxr) (by omega) (by rw [toT_length]; omega)) ?_
   refine By rfl (fun h2 => ?_) fun h2 => ?_
   · refine Ce rfl (P9.sameElement_ok hx'.p.ps hy'.p.ps (by omega) (by rw [toL_length]; omega)) ?_
     refine R1 rfl (.bp ?_)
     have e1 : (toT x.k x.t).take (toT y.k y.t).length = toT y.k y.t := h1
     have e2 : (toT y.k y.t).take (toT x.k x.t).length = toT x.k x.t := h2
     have l1 := congrArg List.length e1
     have l2 := congrArg List.length e2
     rw [List.length_take, toT_length, toT_length] at l1 l2
     obtain ⟨kx, tx, ax⟩ := x
     obtain ⟨ky, ty, ay⟩ := y
     have l1 : min ky kx = ky := l1
     have l2 : min kx ky = kx := l2
     obtain rfl : kx = ky := by omega
     have e3 : toT kx tx = toT kx ty := by
      have e1 : (toT kx tx).take (toT kx ty).length = toT kx ty := e1
      rwa [toT_length, List.take_of_length_le (by rw [toT_length]; omega)] at e1
     obtain rfl := toT_inj e3
     have hy2 : ev G ρx kx ay = w := by rw [← hy2]; exact ev_congr fun i hi => Hom.uniq hG hx1.h hy1.h i hi
     exact fin hx1 hx2 hy2
   · refine Ca rfl hj fun v' hv => ?_
     obtain ⟨m', T, a, b, rfl, ρ, j1, j2, j3, j4, j5⟩ := hv
     have jm := W.w.le j1
     have jp := p16 (show m' ≤ 16 by omega)
     refine Yes rfl (by decide) ?_
     refine Dw rfl ?_
     refine Ix 0 rfl (u := dN ⟨m', T, a⟩) rfl ?_
     refine Ix 1 rfl (u := dN ⟨m', T, b⟩) rfl ?_
     refine Ce rfl (P9.sameElement_ok (l := toL m' a) (m := toL m' b) j4.ps j5.ps (by omega) (by rw [toL_length]; omega)) ?_
     exact R1 rfl (.bp (fin j1 j2 j3))
 · refine Ca rfl hj fun v' hv => ?_
   obtain ⟨m', T, a, b, rfl, ρ, j1, j2, j3, j4, j5⟩ := hv
   have jm := W.w.le j1
   have jp := p16 (show m' ≤ 16 by omega)
   refine Yes rfl (by decide) ?_
   refine Dw rfl ?_
   refine Ix 0 rfl (u := dN ⟨m', T, a⟩) rfl ?_
   refine Ix 1 rfl (u := dN ⟨m', T, b⟩) rfl ?_
   refine Ce rfl (P9.sameElement_ok (l := toL m' a) (m := toL m' b) j4.ps j5.ps (by omega) (by rw [toL_length]; omega)) ?_
   exact R1 rfl (.bp (fin j1 j2 j3))
theorem P13.both_add (W : Wn G S N) (hu : Gv G S N n u p) (hs : Gv G S N m s q) (hn : n ≤ 190) (hm : m ≤ 190) : C0 117 [.d (dV u), .d (dV s), .d (fnD 118)] (VoG G S N (n + m) (vplus p q)) := by
 refine En Tryz.func117 fun _ _ _ => ?_
 refine Ca rfl (P9.Add_g W hu.x hs.x hn hm) fun v hv => ?_
 obtain ⟨z, rfl, hz⟩ := hv
 refine No rfl (by simp) ?_
 refine Ca rfl (P9.Add_g W hu.y hs.y hn hm) fun v hv => ?_
 obtain ⟨w, rfl, hw⟩ := hv
 refine No rfl (by simp) ?_
 exact Rt rfl (.tup (.cons (.rf rfl) fitI)) ⟨⟨z, w⟩, rfl, hz, hw⟩
theorem P13.both_sub (W : Wn G S N) (hu : Gv G S N n u p) (hs : Gv G S N m s q) (hn : n ≤ 190) (hm : m ≤ 190) : C0 117 [.d (dV u), .d (dV s), .d (fnD 178)] (VoG G S N (n + m) (vsub p q)) := by
 refine En Tryz.func117 fun _ _ _ => ?_
 refine Ca rfl (P9.Sub_g W hu.x hs.x hn hm) fun v hv => ?_
 obtain ⟨z, rfl, hz⟩ := hv
 refine No rfl (by simp) ?_
 refine Ca rfl (P9.Sub_g W hu.y hs.y hn hm) fun v hv => ?_
 obtain ⟨w, rfl, hw⟩ := hv
 refine No rfl (by simp) ?_
 exact Rt rfl (.tup (.cons (.rf rfl) fitI)) ⟨⟨z, w⟩, rfl, hz, hw⟩
theorem P13.Add_g (W : Wn G S N) (hu : Gv G S N n u p) (hs : Gv G S N m s q) (hn : n ≤ 190) (hm : m ≤ 190) : C0 56 [.d (dV u), .d (dV s)] (VoG G S N (n + m) (vplus p q)) := by
 refine En Tryz.func56 fun _ _ _ => ?_
 refine Ca rfl (P13.both_add W hu hs hn hm) fun v hv => ?_
 obtain ⟨r, rfl, hr⟩ := hv
 exact Rt rfl (.tup (.cons (.rf rfl) fitI)) ⟨r, rfl, hr⟩
theorem P13.Sub_g (W : Wn G S N) (hu : Gv G S N n u p) (hs : Gv G S N m s q) (hn : n ≤ 190) (hm : m ≤ 190) : C0 101 [.d (dV u), .d (dV s)] (VoG G S N (n + m) (vsub p q)) := by
 refine En Tryz.func101 fun _ _ _ => ?_
 refine Ca rfl (P13.both_sub W hu hs hn hm) fun v hv => ?_
 obtain ⟨r, rfl, hr⟩ := hv
 exact Rt rfl (.tup (.cons (.rf rfl) fitI)) ⟨r, rfl, hr⟩
theorem P13.Equal_g (W : Wn G S N) (hu : Gv G S N n u p) (hs : Gv G S N m s q) (hn : n ≤ 190) (hm : m ≤ 190) : C0 96 [.d (dV u), .d (dV s)] (· = .b (dc (p = q))) := by
 refine En Tryz.func96 fun _ _ _ => ?_
 refine Ce rfl (P9.Equal_g W hu.x hs.x hn hm) ?_
 refine By rfl (fun h => ?_) fun h => ?_
 · refine Ce rfl (P9.Equal_g W hu.y hs.y hn hm) ?_
   exact R1 rfl (.bp (dc_iff.trans ⟨fun h2 => Prod.ext h h2, fun e => by rw [e]⟩))
 · exact R1 rfl (.bp ⟨nofun, fun e => absurd (by rw [e]) h⟩)
end
end Go.Proofs.YtpgcfjpkilabfaaGreatDoor
namespace Go.Proofs.YtpgcfjpkilabfaaGreatDoor.P15
open Go Go.Vm Go.Num Go.Tow Go.Proofs.YtpgcfjpkilabfaaGreatDoor
section
variable {K : Nat} {G : Tw K} {S : List (Tow.El K)} {N : List Nm} {n m k : Nat} {x y z : Nm} {a b v w : Tow.El K} {u s t : Vn} {p q r : V2 K}
theorem note_ok : CN0 373 [.ptr 1000001 0, .d (.int .i64 0)] [(1000001, cal)] IsB := by
 refine EnW Tryz.func373 fun _ _ _ _ => ?_
 refine Yes rfl (by decide) ?_
 exact Rw [] [(1000001, cal)] rfl (.one (.rf rfl) rfl rfl) ⟨rfl, _, rfl⟩
theorem two_g {f : FuncId} (hf : C0 f [.d (dN x), .d (dN y)] (OpG G S N n w)) : CN0 332 [.ptr 1000001 0, .d (fnD f), .d (dN x), .d (dN y)] [(1000001, cal)] (OnG G S N n w) := by
 refine EnW Tryz.func332 fun _ _ _ _ => ?_
 refine No rfl (by decide) ?_
 refine Ca rfl hf fun v hv => ?_
 obtain ⟨z, rfl, hz⟩ := hv
 refine Cn [] rfl note_ok fun v hv => ?_
 obtain ⟨_, rfl⟩ := hv
 exact Rw [] [(1000001, cal)] rfl (.one (.rf rfl) rfl rfl) ⟨rfl, z, rfl, hz⟩
theorem add_g (W : Wn G S N) (hx : Gd G S N n x v) (hy : Gd G S N m y w) (hn : n ≤ 190) (hm : m ≤ 190) : CN0 269 [.ptr 1000001 0, .d (dN x), .d (dN y)] [(1000001, cal)] (OnG G S N (n + m) (Tow.add K v w)) := by
 refine EnW Tryz.func269 fun _ _ _ _ => ?_
 refine Cn [] rfl (two_g (P9.Add_g W hx hy hn hm)) fun v hv => ?_
 obtain ⟨z, rfl, hz⟩ := hv
 exact Rw [] [(1000001, cal)] rfl (.one (.rf rfl) rfl rfl) ⟨rfl, z, rfl, hz⟩
theorem sub_g (W : Wn G S N) (hx : Gd G S N n x v) (hy : Gd G S N m y w) (hn : n ≤ 190) (hm : m ≤ 190) : CN0 271 [.ptr 1000001 0, .d (dN x), .d (dN y)] [(1000001, cal)] (OnG G S N (n + m) (Tow.add K v (Tow.neg K w))) := by
 refine EnW Tryz.func271 fun _ _ _ _ => ?_
 refine Cn [] rfl (two_g (P9.Sub_g W hx hy hn hm)) fun v hv => ?_
 obtain ⟨z, rfl, hz⟩ := hv
 exact Rw [] [(1000001, cal)] rfl (.one (.rf rfl) rfl rfl) ⟨rfl, z, rfl, hz⟩
theorem mul_g (W : Wn G S N) (hx : Gd G S N n x v) (hy : Gd G S N m y w) (hn : n ≤ 190) (hm : m ≤ 190) : CN0 270 [.ptr 1000001 0, .d (dN x), .d (dN y)] [(1000001, cal)] (OnG G S N (n + m) (Tow.mul K G v w)) := by
 refine EnW Tryz.func270 fun _ _ _ _ => ?_
 refine Cn [] rfl (two_g (P9.Mul_g W hx hy hn hm)) fun v hv => ?_
 obtain ⟨z, rfl, hz⟩ := hv
 exact Rw [] [(1000001, cal)] rfl (.one (.rf rfl) rfl rfl) ⟨rfl, z, rfl, hz⟩
theorem minus_g (W : Wn G S N) (hu : Gv G S N n u p) (hs : Gv G S N m s q) (hn : n ≤ 190) (hm : m ≤ 190) : CN0 194 [.ptr 1000001 0, .d (dV u), .d (dV s)] [(1000001, cal)] (VeG G S N (n + m) (vsub p q)) := by
 refine EnW Tryz.func194 fun _ _ _ _ => ?_
 refine Dw rfl ?_
 refine Cn [] rfl (sub_g W hu.x hs.x hn hm) fun v hv => ?_
 obtain ⟨z, rfl, hz⟩ := hv
 refine Cn [] rfl (sub_g W hu.y hs.y hn hm) fun v hv => ?_
 obtain ⟨w, rfl, hw⟩ := hv
 exact Rw [] [(1000001, cal)] rfl (.one (.rf rfl) rfl rfl) ⟨rfl, ⟨z, w⟩, rfl, hz, hw⟩
theorem square_g (W : Wn G S N) (hu : Gv G S N n u p) (hn : n + n ≤ 190) : CN0 193 [.ptr 1000001 0, .d (dV u)] [(1000001, cal)] (OnG G S N (n + n + (n + n)) (vdot G p p)) := by
 refine EnW Tryz.func193 fun _ _ _ _ => ?_
 refine Dw rfl ?_
 refine Cn [] rfl (mul_g W hu.x hu.x (by omega) (by omega)) fun v hv => ?_
 obtain ⟨z, rfl, hz⟩ := hv
 refine Cn [] rfl (mul_g W hu.y hu.y (by omega) (by omega)) fun v hv => ?_
 obtain ⟨w, rfl, hw⟩ := hv
 refine Cn [] rfl (add_g W hz hw hn hn) fun v hv => ?_
 obtain ⟨z, rfl, hz⟩ := hv
 exact Rw [] [(1000001, cal)] rfl (.one (.rf rfl) rfl rfl) ⟨rfl, z, rfl, hz⟩
abbrev dK (u : Vn) (z : Nm) : D := .st (.pr (dV u) (dN z))
theorem Around_g (W : Wn G S N) (hu : Gv G S N n u p) (hs : Gv G S N m s q) (hx : P19.Trm u.x) (hy : P19.Trm u.y) (h2 : n + m + (n + m) ≤ 190) (hp : p ≠ q) : C0 113 [.d (dV u), .d (dV s)] (fun r => ∃ z, r = .tup (.pr (.d (dK u z)) (.d (.int .i64 0))) ∧ Gd G S N (n + m + (n + m) + (n + m + (n + m))) z (vdot G (vsub q p) (vsub q p))) := by
 refine En Tryz.func113 fun _ _ _ => ?_
 refine Ce rfl (P13.Equal_g W hu hs (by omega) (by omega)) ?_
 refine No rfl hp ?_
 refine Dw rfl ?_
 refine Ce rfl hx ?_
 refine Ce rfl hy ?_
 refine Cn [(1000001, 13)] rfl (minus_g W hs hu (by omega) (by omega)) fun v hv => ?_
 obtain ⟨v, rfl, hv⟩ := hv
 refine Cn [(1000001, 13)] rfl (square_g W hv (by omega)) fun v hv => ?_
 obtain ⟨z, rfl, hz⟩ := hv
 refine No rfl (by decide) ?_
 exact Rt rfl (.tup (.cons (.rf rfl) fitI)) ⟨z, rfl, hz.mono (by omega)⟩
end
end Go.Proofs.YtpgcfjpkilabfaaGreatDoor.P15
namespace Go.Proofs.YtpgcfjpkilabfaaGreatDoor
open Go Go.Vm Go.Num Go.Tow
structure Cv where
 arc : Bool
 A : Vn
 B : Vn
 C : Vn
 cw : Bool
abbrev dC (c : Cv) : D := .st (.pr (.bool c.arc) (.pr (dV c.A) (.pr (dV c.B) (.pr (dV c.C) (.bool c.cw)))))
abbrev dCs' (l : List Cv) : D := .sl 14 (l.map dC)
section
variable {K : Nat} {G : Tw K} {S : List (Tow.El K)} {N : List Nm} {n m k : Nat} {x y z : Nm} {a b v w : Tow.El K} {u s t : Vn} {p q r : V2 K}
namespace P15
theorem Power_g (W : Wn G S N) (hu : Gv G S N n u p) (hz : Gd G S N k z w) (hs : Gv G S N m s q) (h2 : n + m + (n + m) + (n + m + (n + m)) ≤ 190) (hk : k ≤ 190) : C0 213 [.d (dK u z), .d (dV s)] (OpG G S N (m + n + (m + n) + (m + n + (m + n)) + k) (Tow.add K (vdot G (vsub q p) (vsub q p)) (Tow.neg K w))) := by
 refine En Tryz.func213 fun _ _ _ => ?_
 refine Dw rfl ?_
 refine Cn [(1000001, 9)] rfl (minus_g W hs hu (by omega) (by omega)) fun v hv => ?_
 obtain ⟨v, rfl, hv⟩ := hv
 refine Cn [(1000001, 9)] rfl (square_g W hv (by omega)) fun v hv => ?_
 obtain ⟨z, rfl, hz1⟩ := hv
 refine Cn [(1000001, 9)] rfl (sub_g W hz1 hz (by omega) hk) fun v hv => ?_
 obtain ⟨z, rfl, hz2⟩ := hv
 refine No rfl (by decide) ?_
 exact Rt rfl (.tup (.cons (.rf rfl) fitI)) ⟨z, rfl, hz2⟩
theorem Side_g (W : Wn G S N) (hu : Gv G S N n u p) (hz : Gd G S N k z w) (hs : Gv G S N m s q) (h2 : n + m + (n + m) + (n + m + (n + m)) ≤ 190) (hk : k ≤ 190) : C0 121 [.d (dK u z), .d (dV s)] (· = .tup (.pr (.d (.int .i64 (sgn K G (Tow.add K (vdot G (vsub q p) (vsub q p)) (Tow.neg K w))))) (.d (.int .i64 0)))) := by
 refine En Tryz.func121 fun _ _ _ => ?_
 refine Ca rfl (Power_g W hu hz hs h2 hk) fun v hv => ?_
 obtain ⟨z, rfl, hz⟩ := hv
 refine No rfl (by decide) ?_
 refine Ce rfl (P9.Sign_g W hz (by omega)) ?_
 exact RTt rfl (.cons (.rf rfl) fitI)
end P15
namespace P47
theorem Valid_seg {c : Cv} (W : Wn G S N) (ha : c.arc = false) (hu : Gv G S N n c.A p) (hs : Gv G S N m c.B q) (hn : n ≤ 190) (hm : m ≤ 190) : C0 53 [.d (dC c)] (· = .b (dc (p ≠ q))) := by
 obtain ⟨_, A, B, C, cw⟩ := c
 obtain rfl : _ = false := ha
 refine En Tryz.func53 fun _ _ _ => ?_
 refine Yes rfl nofun ?_
 refine Ce rfl (P13.Equal_g W hu hs hn hm) ?_
 exact R1 rfl (.bp (by rw [dc_not, dc_iff]))
theorem around_g {c : Cv} (W : Wn G S N) (hu : Gv G S N n c.C p) (hs : Gv G S N m c.A q) (hx : P19.Trm c.C.x) (hy : P19.Trm c.C.y) (h2 : n + m + (n + m) ≤ 190) (hp : p ≠ q) : C0 120 [.d (dC c)] (fun r => ∃ z, r = .tup (.pr (.d (P15.dK c.C z)) (.d (.int .i64 0))) ∧ Gd G S N (n + m + (n + m) + (n + m + (n + m))) z (vdot G (vsub q p) (vsub q p))) := by
 refine En Tryz.func120 fun _ _ _ => ?_
 refine Ca rfl (P15.Around_g W hu hs hx hy h2 hp) fun v hv => ?_
 obtain ⟨z, rfl, hz⟩ := hv
 exact Rt rfl (.tup (.cons (.rf rfl) fitI)) ⟨z, rfl, hz⟩
theorem full_g {c : Cv} (W : Wn G S N) (ha : c.arc = true) (hu : Gv G S N n c.A p) (hs : Gv G S N m c.B q) (hn : n ≤ 190) (hm : m ≤ 190) : C0 122 [.d (dC c)] (· = .b (dc (p = q))) := by
 obtain ⟨_, A, B, C, cw⟩ := c
 obtain rfl : _ = true := ha
 refine En Tryz.func122 fun _ _ _ => ?_
 refine Yes rfl rfl ?_
 refine Ce rfl (P13.Equal_g W hu hs hn hm) ?_
 exact R0
end P47
end
end Go.Proofs.YtpgcfjpkilabfaaGreatDoor
namespace Go.Vm
open Go
section
section
variable {c : Cx} {s : St} {p : Pl}
noncomputable def nxSc (tb : Nat → Option TI) (n : Nat) (s : St) : Option (Pl × List UInt8 × List UInt8) := match nxA tb n s with
 | some (p, o, [.d (.str a), .d (.str b)]) => match o.op with
  | .binOp op _ _ _ _ => match op with
   | .add => some (p, a, b)
   | _ => none
  | _ => none
 | _ => none
theorem Sc {a b : List UInt8} (t : List UInt8) (h : nxSc c.tb c.n s = some (p, a, b)) (ht : a ++ b = t) (hl : a.length + b.length < 9223372036854775808) (kk : p.nx c (.d (.str t))) : StP c s := by
 subst ht
 unfold nxSc at h
 split at h <;> try cases h
 rename_i hA
 split at h <;> try cases h
 rename_i ho
 split at h <;> cases h
 refine nxA_ok (us := []) hA ?_ (Pl.nx_nil kk)
 rw [ho]
 simp only [F, Fp, Fbin, if_pos hl]
noncomputable def nxSs (tb : Nat → Option TI) (n : Nat) (s : St) : Option (Pl × List UInt8 × Option Int × Option Int) := match nxA tb n s with
 | some (p, o, asx) => match o.op with
  | .slice T _ lo hi mx => match tb T with
   | some ti => match ti.z, slArgs lo hi mx asx with
    | .str _, some (.d (.str s), l, h, none) => some (p, s, l, h)
    | _, _ => none
   | none => none
  | _ => none
 | none => none
theorem nxSs_ok {t : List UInt8} {r : AV} {l h' : Option Int} (h : nxSs c.tb c.n s = some (p, t, l, h')) (hr : slS t l h' = some r) (k : p.nx c r) : StP c s := by
 unfold nxSs at h
 split at h <;> try cases h
 rename_i hA
 split at h <;> try cases h
 rename_i ho
 split at h <;> try cases h
 rename_i ti ht
 split at h <;> cases h
 rename_i hz hs
 refine nxA_ok (us := []) hA ?_ (Pl.nx_nil k)
 rw [ho]
 simp only [F, Fp, ht, hz, hs, hr]
theorem Stk (j : Nat) (zs : List UInt8) {i : Int} {xs : List UInt8} (h : nxSs c.tb c.n s = some (p, xs, none, some i)) (hl : j ≤ xs.length) (hz : xs.take j = zs) (k : p.nx c (.d (.str zs))) (hj : i = j := by first | exact rfl | omega) : StP c s := by
 subst hj; subst hz
 refine nxSs_ok h ?_ k
 rw [slS, if_pos ⟨by omega, by omega⟩]; simp
theorem Sdp (j : Nat) (zs : List UInt8) {i : Int} {xs : List UInt8} (h : nxSs c.tb c.n s = some (p, xs, some i, none)) (hl : j ≤ xs.length) (hz : xs.drop j = zs) (k : p.nx c (.d (.str zs))) (hj : i = j := by first | exact rfl | omega) : StP c s := by
 subst hj; subst hz
 refine nxSs_ok h ?_ k
 rw [slS, if_pos ⟨by omega, by omega⟩]; simp
theorem Smd (i j : Nat) (zs : List UInt8) {i' j' : Int} {xs : List UInt8} (h : nxSs c.tb c.n s = some (p, xs, some i', some j')) (hl : i ≤ j ∧ j ≤ xs.length) (hz : (xs.drop i).take (j - i) = zs) (k : p.nx c (.d (.str zs))) (hi : i' = i := by first | exact rfl | omega) (hj : j' = j := by first | exact rfl | omega) : StP c s := by
 subst hi; subst hj; subst hz
 refine nxSs_ok h ?_ k
 rw [slS, if_pos ⟨by omega, by omega, by omega⟩]; simp
noncomputable def nxBs (tb : Nat → Option TI) (n : Nat) (s : St) : Option (Pl × AV) := match nxA tb n s with
 | some (p, o, [a]) => match o.op with
  | .convert S T _ => match tb S, tb T, isSl a with
   | some ⟨.sl _ _, .int .u8 _, _, _⟩, some ⟨.str _, _, _, _⟩, true => some (p, a)
   | _, _, _ => none
  | _ => none
 | _ => none
theorem Bs (zs : List UInt8) {a : AV} (h : nxBs c.tb c.n s = some (p, a)) (hz : strA a = some zs) (kk : p.nx c (.d (.str zs))) : StP c s := by
 unfold nxBs at h
 split at h <;> try cases h
 rename_i hA
 split at h <;> try cases h
 rename_i ho
 split at h <;> cases h
 rename_i h1 h2 h3
 refine nxA_ok (us := []) hA ?_ (Pl.nx_nil kk)
 rw [ho]
 have : ∀ k z, a ≠ .d (.int k z) := fun k z e => by subst e; cases h3
 cases a with
 | d x => cases x <;> first | exact absurd rfl (this _ _) | simp only [F, Fp, h2, h1, hz]
 | _ => simp only [F, Fp, h2, h1, hz]
end
end
section
theorem comps_atL {W : GW} {z : D} : ∀ {cs : List Value}, (∀ x ∈ z.comps, x.size = 1) → D.At W z cs → AtL W 1 z.comps cs ∧ cs.length = z.comps.length := by
 have one : ∀ {x : D} {cs : List Value}, x.size = 1 → D.At W x cs → AtL W 1 [x] cs ∧ cs.length = 1 := fun {x cs} h1 h =>
  ⟨fun i y hi => by
   cases i with
   | zero => simp at hi; subst hi; exact ⟨cs, h, h1, fun j v hj => by simpa using hj⟩
   | succ i => simp at hi, by rw [D.at_len x h, h1]⟩
 induction z using D.ind with
 | leaf x h1 h2 =>
  intro cs hs h
  have e : x.comps = [x] := by cases x <;> first | rfl | exact absurd rfl (h2 _ _)
  rw [e] at hs ⊢
  exact one (hs x (List.mem_singleton.2 rfl)) h
 | st a _ => intro cs hs h; exact one (hs _ (List.mem_singleton.2 rfl)) h
 | pr a c _ ih =>
  intro cs hs ⟨u, v, e, h1, h2⟩
  have hs : ∀ x ∈ a :: c.comps, x.size = 1 := hs
  obtain ⟨k1, k2⟩ := one (hs a (List.mem_cons_self ..)) h1
  obtain ⟨k3, k4⟩ := ih (fun x hx => hs x (List.mem_cons_of_mem _ hx)) h2
  subst e
  have := k1.app k3 (by rw [k2]; rfl)
  exact ⟨this, by rw [List.length_append, k2, k4]; show _ = (a :: c.comps).length; simp; omega⟩
theorem Stp.vara {N : Nat → Prop} {W : GW} {θ : Loc} {g : Hp} (h : Obs W θ N g) {o d b n sz : Nat} {a : AV} {xs : List D} (ho : g o = some (.var a)) (hb : (θ o).1 = some b) (hB : d < 1000000) (hd : g d = none) (hx : (Ob.arr sz xs).R W (fun i => if i = d then (some b, n) else θ i) d) :
 Stp N W W θ (fun i => if i = d then (some b, n) else θ i) g (upd (upd g o .dead) d (.arr sz xs)) where
 os := _root_.rfl
 out := _root_.rfl
 tape := _root_.rfl
 size := Nat.le_refl _
 same := fun _ _ _ => _root_.rfl
 A := fun _ _ _ _ => Iff.rfl
 le := LeF.refl W
 th := fun i y hy => if_neg fun e => by rw [e, hd] at hy; cases hy
 hi := fun i h => if_neg (by omega)
 obs := by
  have hg : ∀ {i : Nat} {y : Ob}, upd (upd g o .dead) d (.arr sz xs) i = some y → (i = d ∧ y = .arr sz xs) ∨ (i ≠ d ∧ i = o ∧ y = .dead) ∨ (i ≠ d ∧ i ≠ o ∧ g i = some y) := fun {i y} hy => by
   rcases upd_some hy with ⟨e1, e2⟩ | ⟨e1, e2⟩
   · exact .inl ⟨e1, e2⟩
   · rcases upd_some e2 with ⟨f1, f2⟩ | ⟨f1, f2⟩
     · exact .inr (.inl ⟨e1, f1, f2⟩)
     · exact .inr (.inr ⟨e1, f1, f2⟩)
  have hnd : ∀ {i : Nat}, (∃ z, g i = some z) → i ≠ d := fun ⟨z, hz⟩ e => by rw [e, hd] at hz; cases hz
  refine ⟨fun i y hy => ?_, fun i y b' hy hl hb' => ?_, fun i j y y' b' hy hy' hl hl' b1 b2 => ?_, fun i y j hy hj => ?_⟩
  · rcases hg hy with ⟨rfl, rfl⟩ | ⟨_, _, rfl⟩ | ⟨e1, e2, e3⟩
    · exact hx
    · trivial
    · exact (h.r i y e3).keep (LeF.refl W) (if_neg e1) (fun j hj => if_neg (hnd (h.ids i y j e3 hj))) fun _ _ _ => ⟨_root_.rfl, fun _ h => h⟩
  · rcases hg hy with ⟨rfl, rfl⟩ | ⟨_, _, rfl⟩ | ⟨e1, e2, e3⟩
    · rw [if_pos _root_.rfl] at hb'
      exact h.new o _ b' ho _root_.rfl (hb.trans hb')
    · cases hl
    · rw [if_neg e1] at hb'; exact h.new i y b' e3 hl hb'
  · rcases hg hy with ⟨rfl, rfl⟩ | ⟨_, _, rfl⟩ | ⟨e1, e2, e3⟩
    · rcases hg hy' with ⟨rfl, rfl⟩ | ⟨_, _, rfl⟩ | ⟨f1, f2, f3⟩
      · exact _root_.rfl
      · cases hl'
      · rw [if_pos _root_.rfl] at b1; rw [if_neg f1] at b2
        exact absurd (h.dis j o y' _ b' f3 ho hl' _root_.rfl b2 (hb.trans b1)) f2
    · cases hl
    · rcases hg hy' with ⟨rfl, rfl⟩ | ⟨_, _, rfl⟩ | ⟨f1, f2, f3⟩
      · rw [if_pos _root_.rfl] at b2; rw [if_neg e1] at b1
        exact absurd (h.dis i o y _ b' e3 ho hl _root_.rfl b1 (hb.trans b2)) e2
      · cases hl'
      · rw [if_neg e1] at b1; rw [if_neg f1] at b2; exact h.dis i j y y' b' e3 f3 hl hl' b1 b2
  · rcases hg hy with ⟨rfl, rfl⟩ | ⟨_, _, rfl⟩ | ⟨e1, e2, e3⟩
    · exact hj.elim
    · exact hj.elim
    · have hz := h.ids i y j e3 hj
      rw [upd_ne (hnd hz)]
      by_cases e : j = o
      · subst e; exact ⟨_, upd_self _ _ _⟩
      · rw [upd_ne e]; exact hz
 dom := fun i y hy => by
  rw [upd_ne (fun e => by rw [e, hd] at hy; cases hy)]
  by_cases e : i = o
  · subst e; exact ⟨_, upd_self _ _ _⟩
  · exact ⟨y, by rw [upd_ne e]; exact hy⟩
section
variable {c : Cx} {s : St} {p : Pl}
noncomputable def nxVa (tb : Nat → Option TI) (n id t : Nat) (s : St) : Option (List Kt × Env × Hpl × Nat × D) := match runT tb n id 1000 s with
 | .j _ K E H => match look E t with
  | some (.ptr o 0) => match look H o with
   | some (.var (.d (.st z))) => some (K, E, H, o, z)
   | _ => none
  | _ => none
 | _ => none
theorem Va (id t d m : Nat) (xs : List D) {K : List Kt} {E : Env} {H : Hpl} {o : Nat} {z : D} (h : nxVa c.tb c.n id t s = some (K, E, H, o, z)) (hz : z.comps = xs) (hs : ∀ x ∈ xs, x.size = 1) (hm : xs.length = m) (k : StP c (.j [] K ((t, .ap d m) :: E) ((d, .arr 1 xs) :: (o, .dead) :: H)))
 (hd : (Nat.blt d 1000000 && !hasK H d && Nat.blt m 1000000) = true := by exact rfl) : StP c s := by
 subst hz
 simp only [Bool.and_eq_true, Bool.not_eq_true'] at hd
 obtain ⟨⟨hd1, hd2⟩, hm1⟩ := hd
 have hd1 := nltb hd1
 have hm1 := nltb hm1
 have hdn : look H d = none := hasK_none hd2
 unfold nxVa at h
 split at h <;> try cases h
 rename_i hr
 split at h <;> try cases h
 rename_i he
 split at h <;> cases h
 rename_i ho
 refine runT_ok (id := id) 1000 ?_
 rw [hr]
 rintro a w ⟨s0, W, θ, hw, hs0, hθ, rfl⟩
 obtain ⟨b, cs, T', r1, r2, r3, r4⟩ := hs0.obs.r _ _ ho
 have r3 : D.At W z cs := r3
 obtain ⟨k1, k2⟩ := comps_atL hs r3
 have st := Stp.vara (n := m) (sz := 1) (xs := z.comps) hs0.obs ho r1 hd1 hdn ⟨b, cs, T', by simp, r2, by rw [k2, hm]; simp, by simp only [if_true]; omega, by simp only [if_true]; omega, k1, r4⟩
 have h1 := hs0.step0 st
 refine k a w ⟨_, W, _, hw, ?_, fun i hi => (st.hi i hi).trans (hθ i hi), rfl⟩
 rw [show sem ((t, AV.ap d m) :: E) ((d, Ob.arr 1 z.comps) :: (o, Ob.dead) :: H) = (upd (look E) t (.ap d m), upd (upd (look H) o .dead) d (.arr 1 z.comps)) from by rw [look_upd, look_upd, look_upd]]
 refine ⟨h1.fm, ⟨h1.rel.defers, h1.rel.size, fun q v hq => ?_⟩, h1.obs, fun q v i hq hi => ?_⟩
 · rcases upd_some hq with ⟨e1, e2⟩ | ⟨e1, e2⟩
   · subst e1; subst e2
     obtain ⟨b', f1, f2⟩ := V_ptr (hs0.rel.has q _ he)
     rw [r1] at f1; injection f1 with f1; subst f1
     exact ⟨_, ⟨b, by simp, by simp, rfl⟩, f2⟩
   · exact h1.rel.has q v e2
 · rcases upd_some hq with ⟨e1, e2⟩ | ⟨e1, e2⟩
   · subst e2
     have hi : i = d := hi
     subst hi
     exact ⟨_, upd_self _ _ _⟩
   · exact h1.ids q v i e2 hi
noncomputable def nxSp (tb : Nat → Option TI) (n : Nat) (s : St) : Option (Pl × Oper × TypeId × Operand × Operand × Nat × Nat × Nat × Nat × D × Int) := match nxO tb n s with
 | some (p, o) => match o.op, p.dr with
  | .slice T x none (some y) none, false => match getE (look p.E) x, getE (look p.E) y, tb T with
   | some (.ap q m), some (.d (.int _ j)), some ⟨.st z, e, eb, ar⟩ => match Nat.beq m ar, look p.H q with
    | true, some _ => some (p, o, T, x, y, q, m, e.size, eb, z, j)
    | _, _ => none
   | _, _, _ => none
  | _, _ => none
 | none => none
theorem Sp (j : Nat) {o : Oper} {T : TypeId} {x y : Operand} {q m sz eb : Nat} {z : D} {i : Int} (h : nxSp c.tb c.n s = some (p, o, T, x, y, q, m, sz, eb, z, i)) (hj : j ≤ m) (h0 : 0 < m) (k : p.nx c (.own q sz 0 j)) (hm : m < 1000000) (hi : i = (j : Int) := by first | exact rfl | omega) : StP c s := by
 subst hi
 unfold nxSp at h
 split at h <;> try cases h
 rename_i p' o' ho
 split at h <;> try cases h
 rename_i T' x' y' hop hdr
 split at h <;> try cases h
 rename_i k2 e eb' ar hx hy hti
 split at h <;> cases h
 rename_i hH hma
 have hma := Nat.eq_of_beq_eq_true hma
 subst hma
 refine nxRaw (us := []) ho (by unfold isCall; rw [hop]; rfl) hdr (fun N W θ ρ _ hO hN hB hv => ?_) (Pl.nx_nil k)
 obtain ⟨hk, _⟩ := c.hT _ _ hti
 obtain ⟨t, u1, _, u3⟩ := hk.u
 simp only [show ¬ m = 0 from by omega, if_false] at u3
 obtain ⟨E, e1, i, v0, i1, i2, _⟩ := u3
 subst e1
 obtain ⟨cs, ⟨b, f1, f2, f3⟩, f4⟩ := hv _ _ hx
 subst f3
 have f4 : ρ x = .pointer (some ⟨b, 0, none⟩) := f4
 obtain ⟨ey, _⟩ := V_int (hv _ _ hy)
 have hg : (sem p.E p.H).2 q = some _ := hH
 refine .val (u := .slice (some ⟨b, 0, none⟩) j m) hO ?_ ?_ (fun i hi => by subst hi; exact ⟨_, hg⟩)
 · have hm0 : ¬ m = 0 := by omega
   simp [execOp, hop, f4, ey, Instr.sliceAt, Instr.sureAddr, Instr.sliceBounds, Instr.sliceBound, asIntOf, sizeOf, typeInfo, underlying, program, bind, Sem.bind, Sem.run, pure, u1, i1, i2, hm0, hj, add0]
 · exact ⟨[.slice (some ⟨b, 0, none⟩) j m], ⟨b, some ⟨b, 0, none⟩, f1, by omega, by omega, by rw [f2, Nat.sub_zero], fun _ => by rw [Nat.zero_mul]⟩, rfl⟩
noncomputable def nxBo (tb : Nat → Option TI) (n : Nat) (s : St) : Option (Pl × Oper × TypeId × TypeId × Operand × Nat × Nat × Nat × List D) := match nxO tb n s with
 | some (p, o) => match o.op, p.dr with
  | .convert S T x, false => match getE (look p.E) x, tb S, tb T with
   | some (.own q 1 l m), some ⟨.sl _ _, .int .u8 _, _, _⟩, some ⟨.str _, _, _, _⟩ => match look p.H q with
    | some (.arr 1 xs) => some (p, o, S, T, x, q, l, m, xs)
    | _ => none
   | _, _, _ => none
  | _, _ => none
 | none => none
theorem Bo (zs : List UInt8) {o : Oper} {S T : TypeId} {x : Operand} {q l m : Nat} {xs : List D} (h : nxBo c.tb c.n s = some (p, o, S, T, x, q, l, m, xs)) (hl : l + m ≤ xs.length) (hz : bysD ((xs.drop l).take m) = some zs) (k : p.nx c (.d (.str zs))) : StP c s := by
 unfold nxBo at h
 split at h <;> try cases h
 rename_i p' o' ho
 split at h <;> try cases h
 rename_i S' T' x' hop hdr
 split at h <;> try cases h
 rename_i hx hS hT
 split at h <;> cases h
 rename_i hH
 refine nxRaw (us := []) ho (by unfold isCall; rw [hop]; rfl) hdr (fun N W θ ρ _ hO hN hB hv => ?_) (Pl.nx_nil k)
 obtain ⟨hk, _⟩ := c.hT _ _ hS
 obtain ⟨t, u1, _, E, u3, _⟩ := hk.u
 subst u3
 obtain ⟨t', u1', _, u3⟩ := (c.hT _ _ hT).1.u
 have u3 : t' = .string := u3
 subst u3
 have ue := hk.k E _ _ u1 rfl
 obtain ⟨b, pp, f1, f2, f3, e, f5⟩ := V_own (hv _ _ hx)
 obtain ⟨b', bs, T1, r1, r2, r3, r4, r5, r6, r7⟩ := hO.r _ _ hH
 rw [f1] at r1; injection r1 with r1; subst r1
 obtain ⟨ns, hn1, rfl⟩ := bysD_map hz
 have hlen : ns.length = m := by
  have := congrArg List.length hn1
  simp at this; omega
 refine .val (u := .string ⟨(ns.map fun z => UInt8.ofNat z.toNat).toArray⟩) hO ?_ (str_V (by simp; omega)) (fun _ h => h.elim)
 have hc : (convert S T (ρ x)).run c.P W.w = .ok (.string ⟨(ns.map fun z => UInt8.ofNat z.toNat).toArray⟩) W.w := by
  rw [e, run_convert_bytes_string W.w S T E pp _ _ u1 ue u1']
  by_cases hm0 : m = 0
  · subst hm0
    have : ns = [] := List.length_eq_zero_iff.1 hlen
    subst this
    cases pp with
    | none => rfl
    | some a => exact run_bytesToString W.w a _ _ [] rfl
  · rw [f5 (by omega)]
    rw [run_bytesToString W.w _ _ _ ns (by
     have h := run_loadCells (P := c.P) (b := b) (off := l * 1) (w := W.w) (ns.map (Value.int .u8)) 0 #[] (fun j v hj => by
      rw [List.getElem?_map] at hj
      cases hz : ns[j]? with
      | none => rw [hz] at hj; cases hj
      | some z =>
       rw [hz] at hj; injection hj with hj; subst hj
       have hj' : ((xs.drop l).take m)[j]? = some (.int .u8 z) := by rw [hn1, List.getElem?_map, hz]; rfl
       have hj2 : xs[l + j]? = some (.int .u8 z) := by
        rw [List.getElem?_take] at hj'
        split at hj'
        · rwa [List.getElem?_drop] at hj'
        · cases hj'
       obtain ⟨e1, g1, _, g2⟩ := r6 _ _ hj2
       have g1 := g1.1
       subst g1
       have := g2 0 _ rfl
       rw [show l * 1 + (0 + j) = (l + j) * 1 + 0 by omega, cell_of r2]
       exact this)
     simp only [List.length_map] at h
     rw [← hlen]
     simpa [loadCells] using h)]
    have := foldl_push8 ns []
    rw [show (ByteArray.empty : ByteArray) = ⟨([] : List UInt8).toArray⟩ from rfl, this]
    simp
 unfold execOp
 rw [hop]
 simp only
 rw [Sem.run_bind, hc]; rfl
noncomputable def nxGx (tb : Nat → Option TI) (n : Nat) (s : St) : Option (Pl × Oper × TypeId × Nat × Operand × Nat × Int) := match nxO tb n s with
 | some (p, o) => match o.op, p.dr with
  | .indexAddr T (.global g) y, false => match getE (look p.E) y, tb T with
   | some (.d (.int _ j)), some ⟨.st _, .int _ _, _, ar⟩ => match Nat.beq ar 0 with
    | false => some (p, o, T, g, y, ar, j)
    | true => none
   | _, _ => none
  | _, _ => none
 | none => none
theorem Gx (j : Nat) (k : IntKind) (z : Int) {o : Oper} {T : TypeId} {y : Operand} {g ar : Nat} {i : Int} (h : nxGx c.tb c.n s = some (p, o, T, g, y, ar, i)) (hj : j < ar) (hg : ∀ W, c.gb.g W → Fr W g j (.int k z)) (hr : inR k z) (kk : p.nx c (.at (.int k z))) (hi : i = (j : Int) := by first | exact rfl | omega) : StP c s := by
 subst hi
 unfold nxGx at h
 split at h <;> try cases h
 rename_i p' o' ho
 split at h <;> try cases h
 rename_i T' g' y' hop hdr
 split at h <;> try cases h
 rename_i k1 j1 z1 k2 z2 eb ar1 hy hti
 split at h <;> cases h
 rename_i hz
 have hz : ¬ ar = 0 := fun e => by subst e; cases hz
 refine nxRaw (us := []) ho (by unfold isCall; rw [hop]; rfl) hdr (fun N W θ ρ hgb hO hN hB hv => ?_) (Pl.nx_nil kk)
 obtain ⟨hk, _⟩ := c.hT _ _ hti
 obtain ⟨t, u1, _, u3⟩ := hk.u
 simp only [hz, if_false] at u3
 obtain ⟨E, e1, i, v0, i1, i2, _⟩ := u3
 subst e1
 obtain ⟨ey, _⟩ := V_int (hv _ _ hy)
 have eg := hgb.2 g
 have i2 : i.size = 1 := i2
 refine .val (u := .pointer (some ⟨g, j, none⟩)) hO ?_ (at_V (e := [.int k z]) ⟨rfl, hr⟩ fun q v hq => ?_) (fun _ h => h.elim)
 · have hjl : (j : Int) < (ar : Int) := by omega
   simp [execOp, hop, eg, ey, Instr.indexAt, Instr.sureAddr, asIntOf, sizeOf, typeInfo, underlying, program, bind, Sem.bind, Sem.run, pure, u1, i1, i2, hjl, hj, add0]
 · cases q with
   | zero => simp at hq; subst hq; exact hg W hgb.1
   | succ q => simp at hq
end
end
section
section
variable {c : Cx} {s : St} {p : Pl}
end
end
end Go.Vm
namespace Go.Proofs.YtpgcfjpkilabfaaGreatDoor
open Go Go.Vm Go.Num
abbrev Tx (s : List UInt8) : Prop := s.length < 4611686018427387904
theorem HasPrefix_ok {s t : List UInt8} (hs : Tx s) (ht : Tx t) : C0 257 [.d (.str s), .d (.str t)] (· = .b (dc (s.take t.length = t))) := by
 refine En Tryz.func257 fun _ _ _ => ?_
 refine By rfl (fun h => ?_) fun h => ?_
 · refine Stk t.length _ rfl (by omega) rfl ?_
   exact R1 rfl (.bp dc_iff)
 · refine R1 rfl (.bp ⟨fun e => (by cases e), fun e => ?_⟩)
   have := congrArg List.length e
   rw [List.length_take] at this
   omega
theorem CutPrefix_ok {s t : List UInt8} (hs : Tx s) (ht : Tx t) : C0 104 [.d (.str s), .d (.str t)] (· = .tup (.pr (.d (.str (if s.take t.length = t then s.drop t.length else s))) (.b (dc (s.take t.length = t))))) := by
 have h1 : C0 182 [.d (.str s), .d (.str t)] (· = .tup (.pr (.d (.str (if s.take t.length = t then s.drop t.length else s))) (.b (dc (s.take t.length = t))))) := by
  refine En Tryz.func182 fun _ _ _ => ?_
  refine Ce rfl (HasPrefix_ok hs ht) ?_
  refine By rfl (fun h => ?_) fun h => ?_
  · refine RTt rfl (.cons (.eq (by rw [if_neg h])) (.one (by exact .bp (c := false) ⟨fun e => (by cases e), fun e => absurd e h⟩) (fun _ _ e => by cases e) (fun _ _ e => by cases e)))
  · have h := Classical.not_not.1 h
    have hl : t.length ≤ s.length := by have := congrArg List.length h; rw [List.length_take] at this; omega
    refine Sdp t.length _ rfl hl rfl ?_
    refine RTt rfl (.cons (.eq (by rw [if_pos h])) (.one (by exact .bp (c := true) ⟨fun _ => h, fun _ => rfl⟩) (fun _ _ e => by cases e) (fun _ _ e => by cases e)))
 refine En Tryz.func104 fun _ _ _ => ?_
 refine Ce rfl h1 ?_
 exact R0t
end Go.Proofs.YtpgcfjpkilabfaaGreatDoor
namespace Go.Num
def dec (n : Nat) : List UInt8 := if h : n < 10 then [UInt8.ofNat (48 + n)] else dec (n / 10) ++ [UInt8.ofNat (48 + n % 10)]
termination_by n
decreasing_by omega
theorem dec_lt {n : Nat} (h : n < 10) : dec n = [UInt8.ofNat (48 + n)] := by rw [dec, dif_pos h]
theorem dec_ge {n : Nat} (h : 10 ≤ n) : dec n = dec (n / 10) ++ [UInt8.ofNat (48 + n % 10)] := by rw [dec, dif_neg (by omega)]
theorem dec_ne (n : Nat) : dec n ≠ [] := by
 rw [dec]; split <;> simp
theorem dec_pos (n : Nat) : 0 < (dec n).length := List.length_pos_iff.2 (dec_ne n)
theorem dec_len : ∀ (k n : Nat), n < 10 ^ (k + 1) → (dec n).length ≤ k + 1
 | 0, n, h => by rw [dec_lt (by simpa using h)]; simp
 | k + 1, n, h => by
  by_cases h1 : n < 10
  · rw [dec_lt h1]; simp
  · rw [dec_ge (by omega), List.length_append]
    have := dec_len k (n / 10) (Nat.div_lt_of_lt_mul (by rw [Nat.pow_succ] at h; omega))
    simp; omega
theorem dec_len_ge : ∀ (k n : Nat), 10 ^ k ≤ n → k + 1 ≤ (dec n).length
 | 0, n, h => dec_pos n
 | k + 1, n, h => by
  rw [Nat.pow_succ] at h
  have : 0 < 10 ^ k := Nat.pow_pos (by decide)
  rw [dec_ge (by omega), List.length_append]
  have := dec_len_ge k (n / 10) (by omega)
  simp; omega
theorem dec_ub (n : Nat) : n < 10 ^ (dec n).length := by
 induction n using Nat.strongRecOn with
 | ind n ih =>
  by_cases h : n < 10
  · rw [dec_lt h]; simpa using h
  · rw [dec_ge (by omega), List.length_append]
    have := ih (n / 10) (by omega)
    simp only [List.length_singleton]
    rw [Nat.pow_succ]; omega
def tx (z : Int) : List UInt8 := (if z < 0 then [45] else []) ++ dec z.natAbs
theorem pow10_32 (l : Nat) : 4294967296 ^ l ≤ 10 ^ (10 * l) := by
 rw [Nat.pow_mul]; exact Nat.pow_le_pow_left (by decide) l
theorem dec_dig (n : Nat) : (dec n).length ≤ 10 * (dig n).length + 1 := by
 refine dec_len _ n (Nat.lt_of_lt_of_le (Nat.lt_of_lt_of_le (by have := val_lt (words_dig n); rwa [val_dig] at this) (pow10_32 _)) (Nat.pow_le_pow_right (by decide) (by omega)))
theorem dg {d : Nat} (h : d < 10) : (UInt8.ofNat (48 + d)).toNat = 48 + d := by
 rw [UInt8.toNat_ofNat']; exact Nat.mod_eq_of_lt (by omega)
def isDg (b : UInt8) : Prop := 48 ≤ b.toNat ∧ b.toNat ≤ 57
theorem dec_dg (n : Nat) : ∀ b ∈ dec n, isDg b := by
 induction n using Nat.strongRecOn with
 | ind n ih =>
  intro b hb
  by_cases h : n < 10
  · rw [dec_lt h, List.mem_singleton] at hb; subst hb; exact ⟨by rw [dg h]; omega, by rw [dg h]; omega⟩
  · rw [dec_ge (by omega), List.mem_append, List.mem_singleton] at hb
    rcases hb with hb | hb
    · exact ih _ (by omega) b hb
    · subst hb; have := Nat.mod_lt n (show 0 < 10 by decide); exact ⟨by rw [dg this]; omega, by rw [dg this]; omega⟩
def pad (k : Nat) (d : List UInt8) : List UInt8 := List.replicate (k + 1 - d.length) 48 ++ d
theorem pad_len (k : Nat) (d : List UInt8) : (pad k d).length = max (k + 1) d.length := by simp [pad]; omega
def pt (k : Nat) (p : List UInt8) : List UInt8 := if k = 0 then p else p.take (p.length - k) ++ 46 :: p.drop (p.length - k)
def txt (z : Int) (k : Nat) : List UInt8 := (if z < 0 then [45] else []) ++ pt k (pad k (dec z.natAbs))
def dval (l : List UInt8) : Nat := l.foldl (fun a b => 10 * a + (b.toNat - 48)) 0
theorem dval_snoc (l : List UInt8) (b : UInt8) : dval (l ++ [b]) = 10 * dval l + (b.toNat - 48) := by simp [dval]
theorem snoc_ind {p : List UInt8 → Prop} (h0 : p []) (hs : ∀ l b, p l → p (l ++ [b])) (l : List UInt8) : p l := by
 rw [← List.reverse_reverse l]
 induction l.reverse with
 | nil => exact h0
 | cons b l ih => rw [List.reverse_cons]; exact hs _ _ ih
theorem dval_lt {l : List UInt8} (h : ∀ b ∈ l, isDg b) : dval l < 10 ^ l.length := by
 induction l using snoc_ind with
 | h0 => decide
 | hs l b ih =>
  have h1 := ih fun x hx => h x (List.mem_append_left _ hx)
  have h2 := h b (List.mem_append_right _ (List.mem_singleton.2 rfl))
  unfold isDg at h2
  rw [dval_snoc, List.length_append, List.length_singleton, Nat.pow_succ]
  omega
theorem dval_one (b : UInt8) : dval [b] = b.toNat - 48 := by simp [dval]
end Go.Num
namespace Go.Proofs.YtpgcfjpkilabfaaGreatDoor
open Go Go.Vm Go.Num Go.Proofs Go.Shelf Go.RowKit
section
def d2 (n : Nat) : List UInt8 := [UInt8.ofNat (48 + n / 10), UInt8.ofNat (48 + n % 10)]
theorem dec_d2 {n : Nat} (h : 10 ≤ n) (h1 : n < 100) : dec n = d2 n := by rw [dec_ge h, dec_lt (by omega)]; rfl
def tb2 : List UInt8 := (List.range 100).flatMap d2
theorem small_ok {n : Nat} (hn : n < 100) : C0 327 [.d (.int .i64 n)] (· = .d (.str (dec n))) := by
 refine En Tryz.func327 fun _ _ _ => ?_
 refine By rfl (fun h => ?_) fun h => ?_
 · refine Ar (n + 1 : Nat) rfl ?_
   refine Smd n (n + 1) (dec n) rfl ⟨by omega, by simp; omega⟩ ?_ ?_
   · rw [dec_lt (by omega)]
     have h1 : n < 10 := by omega
     clear hn h
     revert h1; generalize n = j; revert j; decide +kernel
   · exact R0
 · refine Ar (n * 2 : Nat) rfl ?_
   refine Ar (n * 2 : Nat) rfl ?_
   refine Ar (n * 2 + 2 : Nat) rfl ?_
   refine Smd (n * 2) (n * 2 + 2) (dec n) rfl ⟨by omega, by simp; omega⟩ ?_ ?_
   · rw [dec_d2 (by omega) hn]
     clear h
     revert hn; generalize n = j; revert j; decide +kernel
   · exact R0
theorem log10Pow2_ok {n : Nat} (hn : n ≤ 64) : C0 368 [.d (.int .i64 n)] (· = .d (.int .i64 (n * 78913 / 262144 : Nat))) := by
 refine En Tryz.func368 fun _ _ _ => ?_
 refine Ar (n * 78913 : Nat) rfl ?_
 refine Ar (n * 78913 / 2 ^ 18 : Nat) rfl ?_ (shrA (n := 18) (by decide))
 exact R1 rfl (.eq rfl)
theorem bool2_ok {p : Prop} : C0 370 [.b (dc p)] (fun v => ∃ n : Nat, v = .d (.int .i64 n) ∧ (n = 1 ∧ p ∨ n = 0 ∧ ¬ p)) := by
 refine En Tryz.func370 fun _ _ _ => ?_
 refine By rfl (fun h => ?_) fun h => ?_
 · exact Rt rfl (.one (.rf rfl) rfl rfl) ⟨1, rfl, .inl ⟨rfl, h⟩⟩
 · exact Rt rfl (.one (.rf rfl) rfl rfl) ⟨0, rfl, .inr ⟨rfl, h⟩⟩
theorem Len64_ok {x : Nat} (hx : x < 18446744073709551616) : C0 369 [.d (.int .u64 x)] (· = .d (.int .i64 (bl x))) := by
 refine En Tryz.func369 fun _ _ _ => ?_
 refine Cu none (fun ((x1, n1) : Nat × Nat) => [(0, .d (.int .u64 x1)), (2, .d (.int .i64 n1))]) (fun _ => []) (fun (x1, n1) => x1 < 4294967296 ∧ bl x = bl x1 + n1 ∧ n1 ≤ 32) rfl ?_ fun ⟨x0, n0⟩ ⟨hx0, hb0, hn0⟩ => ?_
 · refine By rfl (fun h => ?_) fun h => ?_
   · refine Ar (x / 2 ^ 32 : Nat) rfl ?_ (shrA (n := 32) (by decide))
     exact Jn (x / 2 ^ 32, 32) [] rfl ⟨by omega, bl_shift (by omega), Nat.le_refl _⟩
   · exact Jn (x, 0) [] rfl ⟨by omega, rfl, by omega⟩
 refine Cu none (fun ((x1, n1) : Nat × Nat) => [(0, .d (.int .u64 x1)), (2, .d (.int .i64 n1))]) (fun _ => []) (fun (x1, n1) => x1 < 65536 ∧ bl x = bl x1 + n1 ∧ n1 ≤ 48) rfl ?_ fun ⟨x1, n1⟩ ⟨hx1, hb1, hn1⟩ => ?_
 · refine By rfl (fun h => ?_) fun h => ?_
   · refine Ar (x0 / 2 ^ 16 : Nat) rfl ?_ (shrA (n := 16) (by decide))
     refine Ar (n0 + 16 : Nat) rfl ?_
     exact Jn (x0 / 2 ^ 16, n0 + 16) [] rfl ⟨by omega, by rw [hb0, bl_shift (n := x0) (k := 16) (by omega)]; omega, by omega⟩
   · exact Jn (x0, n0) [] rfl ⟨by omega, hb0, by omega⟩
 refine Cu none (fun ((x1, n1) : Nat × Nat) => [(0, .d (.int .u64 x1)), (2, .d (.int .i64 n1))]) (fun _ => []) (fun (x1, n1) => x1 < 256 ∧ bl x = bl x1 + n1 ∧ n1 ≤ 56) rfl ?_ fun ⟨x2, n2⟩ ⟨hx2, hb2, hn2⟩ => ?_
 · refine By rfl (fun h => ?_) fun h => ?_
   · refine Ar (x1 / 2 ^ 8 : Nat) rfl ?_ (shrA (n := 8) (by decide))
     refine Ar (n1 + 8 : Nat) rfl ?_
     exact Jn (x1 / 2 ^ 8, n1 + 8) [] rfl ⟨by omega, by rw [hb1, bl_shift (n := x1) (k := 8) (by omega)]; omega, by omega⟩
   · exact Jn (x1, n1) [] rfl ⟨by omega, hb1, by omega⟩
 have hbl : bl x2 < 256 := Nat.lt_of_lt_of_le (fin256 (p := fun j => bl j < 10) (by decide +kernel) x2 hx2) (by decide)
 refine Go.Vm.Cv x2 rfl ?_
 refine Yx x2 (UInt8.ofNat (bl x2)) rfl (by revert hx2; generalize x2 = j; revert j; decide +kernel) ?_
 refine Go.Vm.Cv (bl x2 : Nat) rfl ?_ ((wI ⟨by omega, by rw [u8nat hbl]; omega⟩).trans (u8nat hbl))
 refine Ar (bl x : Nat) rfl ?_
 exact R0
theorem numDigits_ok {x : Nat} (h1 : 100 ≤ x) (hx : x < 1000000000) : C0 328 [.d (.int .u64 x)] (· = .d (.int .i64 (dec x).length)) := by
 obtain ⟨b1, b2, b3⟩ := bl_bounds (n := x) (by omega)
 have hb7 : 7 ≤ bl x := by
  have : 2 ^ 6 < 2 ^ bl x := Nat.lt_of_le_of_lt (by omega) b2
  have := (Nat.pow_lt_pow_iff_right (by decide : 1 < 2)).1 this
  omega
 have hb30 : bl x ≤ 30 := by
  have : 2 ^ (bl x - 1) < 2 ^ 30 := Nat.lt_of_le_of_lt b1 (by omega)
  have := (Nat.pow_lt_pow_iff_right (by decide : 1 < 2)).1 this
  omega
 obtain ⟨t, ht⟩ : ∃ t, t = bl x * 78913 / 262144 := ⟨_, rfl⟩
 have ht9 : t ≤ 9 := by omega
 have key : 10 ^ (t - 1) ≤ x ∧ x < 10 ^ (t + 1) ∧ 1 ≤ t := by
  have hc : ∀ b, b ≤ 30 → 7 ≤ b → 10 ^ (b * 78913 / 262144 - 1) ≤ 2 ^ (b - 1) ∧ 2 ^ b ≤ 10 ^ (b * 78913 / 262144 + 1) ∧ 1 ≤ b * 78913 / 262144 := by decide +kernel
  obtain ⟨c1, c2, c3⟩ := hc (bl x) hb30 hb7
  rw [← ht] at c1 c2 c3
  exact ⟨Nat.le_trans c1 b1, Nat.lt_of_lt_of_le b2 c2, c3⟩
 refine En Tryz.func328 fun _ _ _ => ?_
 refine Ce rfl (Len64_ok (by omega)) ?_
 refine Ce rfl (show C0 _ _ (· = .d (.int .i64 (t : Nat))) by rw [ht]; exact log10Pow2_ok (by omega)) ?_
 refine Gx t .u64 ((10 ^ t : Nat) : Int) rfl (by omega) (fun W h => h t (by omega)) ?_ ?_
 · have : 10 ^ t ≤ 10 ^ 9 := Nat.pow_le_pow_right (by decide) ht9
   exact wr rfl (by simp only [inK]; omega)
 refine Ca rfl (C.nb bool2_ok) fun v hv => ?_
 obtain ⟨n, rfl, hn⟩ := hv
 refine Ar ((dec x).length : Nat) rfl ?_ ?_
 · exact R0
 · refine wr ?_ ?_
   · rcases hn with ⟨rfl, hp⟩ | ⟨rfl, hp⟩
     · have := dec_len t x key.2.1
       have := dec_len_ge t x (by omega)
       omega
     · have h3 := dec_len (t - 1) x (by rw [show t - 1 + 1 = t by omega]; omega)
       have h4 := dec_len_ge (t - 1) x key.1
       omega
   · have := dec_len 9 x (by omega)
     simp only [inK]; omega
end
section
def dgs : Nat → Nat → List UInt8
 | 0, _ => []
 | w + 1, n => dgs w (n / 10) ++ [UInt8.ofNat (48 + n % 10)]
theorem dgs2 (w n : Nat) : dgs (w + 2) n = dgs w (n / 100) ++ d2 (n % 100) := by
 rw [dgs, dgs, Nat.div_div_eq_div_mul, d2, show n / 10 % 10 = n % 100 / 10 by omega, show n % 10 = n % 100 % 10 by omega]
 simp
theorem dgs_dec (n : Nat) : dgs (dec n).length n = dec n := by
 induction n using Nat.strongRecOn with
 | ind n ih =>
  by_cases h : n < 10
  · rw [dec_lt h]; show dgs 1 n = _; rw [dgs, dgs, Nat.mod_eq_of_lt h]; rfl
  · rw [dec_ge (by omega), List.length_append]; show dgs (_ + 1) n = _
    rw [dgs, ih _ (by omega)]
def b8 (b : UInt8) : D := .int .u8 b.toNat
theorem bysD_b8 : ∀ l : List UInt8, bysD (l.map b8) = some l
 | [] => rfl
 | b :: l => by
  show (match bysD (l.map b8) with | some s => some (UInt8.ofNat ((b.toNat : Int)).toNat :: s) | none => none) = _
  rw [bysD_b8 l]; simp
theorem st1 {z acc : List UInt8} {i j : Nat} {a : UInt8} (h1 : j + 1 = i) (h2 : i ≤ z.length) : ((z.take i ++ acc).map b8).set j (b8 a) = (z.take j ++ a :: acc).map b8 := by
 subst h1
 rw [← List.map_set]
 congr 1
 apply List.ext_getElem?
 intro k
 by_cases hk : k < j
 · rw [List.getElem?_set_ne (by omega), List.getElem?_append_left (by simp; omega), List.getElem?_append_left (by simp; omega), List.getElem?_take, List.getElem?_take, if_pos (by omega), if_pos (by omega)]
 · by_cases hk2 : k = j
   · subst hk2
     rw [List.getElem?_set_self (by simp; omega), List.getElem?_append_right (by simp; omega)]
     have : k - (List.take k z).length = 0 := by simp; omega
     rw [this]; rfl
   · obtain ⟨q, rfl⟩ : ∃ q, k = j + 1 + q := ⟨k - (j + 1), by omega⟩
     rw [List.getElem?_set_ne (by omega), List.getElem?_append_right (by simp; omega), List.getElem?_append_right (by simp; omega)]
     have e1 : j + 1 + q - (List.take (j + 1) z).length = q := by simp; omega
     have e2 : j + 1 + q - (List.take j z).length = q + 1 := by simp; omega
     rw [e1, e2]; simp
def tbAt (l : List UInt8) : Prop := ∀ v, v < 100 → l[v * 2 + 1]? = some (UInt8.ofNat (48 + v % 10)) ∧ l[v * 2]? = some (UInt8.ofNat (48 + v / 10))
instance (l : List UInt8) : Decidable (tbAt l) := inferInstanceAs (Decidable (∀ v, v < 100 → _))
theorem quN {k : IntKind} {a b r : Nat} (hb : b ≠ 0) (h : a / b = r) (hk : inK k (r : Int)) : arB .quo k (a : Int) (b : Int) (r : Int) := show _ ∧ _ from ⟨by omega, wr (by subst h; rfl) hk⟩
theorem reN {k : IntKind} {a b r : Nat} (hb : b ≠ 0) (h : a % b = r) : arB .rem k (a : Int) (b : Int) (r : Int) := show _ ∧ _ from ⟨by omega, by subst h; rfl⟩
theorem tbl : tbAt (List.flatten ((List.range 100).map d2)) := by decide +kernel
theorem Stb {c : Cx} {s : St} {p : Pl} {q j : Nat} {xs : List D} {z : Int} (a : UInt8) {zs : List D} (h : nxSt c.tb c.n s = some (p, q, 1, xs, j, .int .u8 z)) (hj : j < xs.length) (hz : xs.set j (b8 a) = zs) (k : p.nx' c (.ub True) [(q, .arr 1 zs)]) (hza : z = (a.toNat : Int) := by exact rfl) : StP c s := by
 subst hza
 exact Sto h hj hz k
theorem formatBase10_ok {nd x : Nat} {z0 : List UInt8} (h1 : nd ≤ 9) (hx : x < 1000000000) (hxn : x < 10 ^ nd) (hz0 : nd ≤ z0.length) (hz24 : z0.length < 1000) :
 CW0 329 [.own 1000001 1 0 nd, .d (.int .u64 x)] [(1000001, .arr 1 (z0.map b8))] fun v H' => H' = [(1000001, .arr 1 ((dgs nd x ++ z0.drop nd).map b8))] := by
 refine EnW Tryz.func329 fun _ _ _ _ => ?_
 refine Lo (fun ((i, u, acc) : Nat × Nat × List UInt8) => [(0, .own 1000001 1 0 nd), (1, .d (.int .u64 u)), (4, .d (.int .i64 i))]) (fun (i, _, acc) => [(1000001, .arr 1 ((z0.take i ++ acc).map b8))])
  (fun (i, u, acc) => i ≤ nd ∧ u < 10 ^ i ∧ u < 1000000000 ∧ dgs i u ++ acc = dgs nd x ++ z0.drop nd) (fun (i, _, _) => i) (nd, x, z0.drop nd) [] rfl ⟨Nat.le_refl _, hxn, hx, rfl⟩ ?_ (by exact ⟨rfl, by simp only [List.take_append_drop]; rfl, rfl, rfl, rfl⟩)
 rintro ⟨i, u, acc⟩ ⟨hi, hu, hu9, hI⟩
 refine By rfl (fun h => ?_) fun h => ?_
 · obtain ⟨v, hv⟩ : ∃ v, v = u % 100000000 := ⟨_, rfl⟩
   obtain ⟨t6, ht6⟩ : ∃ t, t = v / 10000 := ⟨_, rfl⟩
   obtain ⟨t7, ht7⟩ : ∃ t, t = v % 10000 := ⟨_, rfl⟩
   obtain ⟨v0, hv0⟩ : ∃ w, w = t7 % 100 := ⟨_, rfl⟩
   obtain ⟨v1, hv1⟩ : ∃ w, w = t7 / 100 := ⟨_, rfl⟩
   obtain ⟨v2, hv2⟩ : ∃ w, w = t6 % 100 := ⟨_, rfl⟩
   obtain ⟨v3, hv3⟩ : ∃ w, w = t6 / 100 := ⟨_, rfl⟩
   have Bv0 : v0 < 100 := by omega
   have Bv1 : v1 < 100 := by omega
   have Bv2 : v2 < 100 := by omega
   have Bv3 : v3 < 100 := by omega
   refine Ar (v : Nat) rfl ?_ (reN (b := 100000000) (by decide) hv.symm)
   refine Go.Vm.Cv v rfl ?_
   refine Ar (u / 100000000 : Nat) rfl ?_ (quN (b := 100000000) (by decide) rfl (by simp only [inK]; omega))
   refine Ar t6 rfl ?_ (quN (b := 10000) (by decide) ht6.symm (by simp only [inK]; omega))
   refine Ar t7 rfl ?_ (reN (b := 10000) (by decide) ht7.symm)
   refine Ar v1 rfl ?_ (quN (b := 100) (by decide) hv1.symm (by simp only [inK]; omega))
   refine Ar (v1 * 2 : Nat) rfl ?_
   refine Ar v0 rfl ?_ (reN (b := 100) (by decide) hv0.symm)
   refine Ar (v0 * 2 : Nat) rfl ?_
   refine Ar v3 rfl ?_ (quN (b := 100) (by decide) hv3.symm (by simp only [inK]; omega))
   refine Ar (v3 * 2 : Nat) rfl ?_
   refine Ar v2 rfl ?_ (reN (b := 100) (by decide) hv2.symm)
   refine Ar (v2 * 2 : Nat) rfl ?_
   refine Dw rfl ?_
   refine Ar ((i - 1 : Nat) : Int) rfl ?_
   refine Ar ((i - 2 : Nat) : Int) rfl ?_
   refine Ar ((v0 * 2 + 1 : Nat) : Int) rfl ?_
   refine Yx (v0 * 2 + 1) (UInt8.ofNat (48 + v0 % 10)) rfl (tbl v0 Bv0).1 ?_
   refine Yx (v0 * 2) (UInt8.ofNat (48 + v0 / 10)) rfl (tbl v0 Bv0).2 ?_
   refine Eo (i - 1) rfl (by omega) ?_
   refine Stb (UInt8.ofNat (48 + v0 % 10)) rfl (by simp only [List.length_map, List.length_append, List.length_take, List.length_cons]; omega) (st1 (by omega) (by omega)) ?_
   refine Eo (i - 2) rfl (by omega) ?_
   refine Stb (UInt8.ofNat (48 + v0 / 10)) rfl (by simp only [List.length_map, List.length_append, List.length_take, List.length_cons]; omega) (st1 (by omega) (by omega)) ?_
   refine Dw rfl ?_
   refine Ar ((i - 3 : Nat) : Int) rfl ?_
   refine Ar ((i - 4 : Nat) : Int) rfl ?_
   refine Ar ((v1 * 2 + 1 : Nat) : Int) rfl ?_
   refine Yx (v1 * 2 + 1) (UInt8.ofNat (48 + v1 % 10)) rfl (tbl v1 Bv1).1 ?_
   refine Yx (v1 * 2) (UInt8.ofNat (48 + v1 / 10)) rfl (tbl v1 Bv1).2 ?_
   refine Eo (i - 3) rfl (by omega) ?_
   refine Stb (UInt8.ofNat (48 + v1 % 10)) rfl (by simp only [List.length_map, List.length_append, List.length_take, List.length_cons]; omega) (st1 (by omega) (by omega)) ?_
   refine Eo (i - 4) rfl (by omega) ?_
   refine Stb (UInt8.ofNat (48 + v1 / 10)) rfl (by simp only [List.length_map, List.length_append, List.length_take, List.length_cons]; omega) (st1 (by omega) (by omega)) ?_
   refine Dw rfl ?_
   refine Ar ((i - 5 : Nat) : Int) rfl ?_
   refine Ar ((i - 6 : Nat) : Int) rfl ?_
   refine Ar ((v2 * 2 + 1 : Nat) : Int) rfl ?_
   refine Yx (v2 * 2 + 1) (UInt8.ofNat (48 + v2 % 10)) rfl (tbl v2 Bv2).1 ?_
   refine Yx (v2 * 2) (UInt8.ofNat (48 + v2 / 10)) rfl (tbl v2 Bv2).2 ?_
   refine Eo (i - 5) rfl (by omega) ?_
   refine Stb (UInt8.ofNat (48 + v2 % 10)) rfl (by simp only [List.length_map, List.length_append, List.length_take, List.length_cons]; omega) (st1 (by omega) (by omega)) ?_
   refine Eo (i - 6) rfl (by omega) ?_
   refine Stb (UInt8.ofNat (48 + v2 / 10)) rfl (by simp only [List.length_map, List.length_append, List.length_take, List.length_cons]; omega) (st1 (by omega) (by omega)) ?_
   refine Dw rfl ?_
   refine Ar ((i - 7 : Nat) : Int) rfl ?_
   refine Ar ((i - 8 : Nat) : Int) rfl ?_
   refine Ar ((v3 * 2 + 1 : Nat) : Int) rfl ?_
   refine Yx (v3 * 2 + 1) (UInt8.ofNat (48 + v3 % 10)) rfl (tbl v3 Bv3).1 ?_
   refine Yx (v3 * 2) (UInt8.ofNat (48 + v3 / 10)) rfl (tbl v3 Bv3).2 ?_
   refine Eo (i - 7) rfl (by omega) ?_
   refine Stb (UInt8.ofNat (48 + v3 % 10)) rfl (by simp only [List.length_map, List.length_append, List.length_take, List.length_cons]; omega) (st1 (by omega) (by omega)) ?_
   refine Eo (i - 8) rfl (by omega) ?_
   refine Stb (UInt8.ofNat (48 + v3 / 10)) rfl (by simp only [List.length_map, List.length_append, List.length_take, List.length_cons]; omega) (st1 (by omega) (by omega)) ?_
   refine Ar ((i - 8 : Nat) : Int) rfl ?_
   refine Bk (i - 8, u / 100000000, d2 v3 ++ (d2 v2 ++ (d2 v1 ++ (d2 v0 ++ acc)))) [] rfl ⟨by omega, ?_, by omega, ?_⟩ (by show i - 8 < i; omega) (by exact ⟨rfl, rfl, rfl, rfl, rfl⟩)
   · obtain ⟨q, rfl⟩ : ∃ q, i = q + 8 := ⟨i - 8, by omega⟩
     rw [Nat.pow_add] at hu
     rw [Nat.add_sub_cancel]
     exact Nat.div_lt_of_lt_mul (by rw [Nat.mul_comm]; exact hu)
   · obtain ⟨q, rfl⟩ : ∃ q, i = q + 8 := ⟨i - 8, by omega⟩
     rw [Nat.add_sub_cancel, ← hI, show q + 8 = q + 6 + 2 from rfl, dgs2, show q + 6 = q + 4 + 2 from rfl, dgs2, show q + 4 = q + 2 + 2 from rfl, dgs2, dgs2]
     rw [show u / 100 / 100 / 100 / 100 = u / 100000000 by omega, show u % 100 = v0 by omega, show u / 100 % 100 = v1 by omega, show u / 100 / 100 % 100 = v2 by omega, show u / 100 / 100 / 100 % 100 = v3 by omega]
     simp only [List.append_assoc]
 have hi8 : i < 8 := by omega
 have hu8 : u < 10 ^ 8 := Nat.lt_of_lt_of_le hu (Nat.pow_le_pow_right (by decide) (by omega))
 refine Go.Vm.Cv u rfl ?_
 refine Cu none (fun ((i, u, acc) : Nat × Nat × List UInt8) => [(0, .own 1000001 1 0 nd), (12, .d (.int .u32 u)), (4, .d (.int .i64 i))]) (fun (i, _, acc) => [(1000001, .arr 1 ((z0.take i ++ acc).map b8))])
  (fun (i, u, acc) => i ≤ nd ∧ i < 4 ∧ u < 10 ^ i ∧ dgs i u ++ acc = dgs nd x ++ z0.drop nd) rfl ?_ ?_
 · refine By rfl (fun h4 => ?_) fun h4 => ?_
   · obtain ⟨v, hv⟩ : ∃ v, v = u % 10000 := ⟨_, rfl⟩
     obtain ⟨v0, hv0⟩ : ∃ w, w = v % 100 := ⟨_, rfl⟩
     obtain ⟨v1, hv1⟩ : ∃ w, w = v / 100 := ⟨_, rfl⟩
     have Bv0 : v0 < 100 := by omega
     have Bv1 : v1 < 100 := by omega
     refine Ar (v : Nat) rfl ?_ (reN (b := 10000) (by decide) hv.symm)
     refine Ar (u / 10000 : Nat) rfl ?_ (quN (b := 10000) (by decide) rfl (by simp only [inK]; omega))
     refine Ar v1 rfl ?_ (quN (b := 100) (by decide) hv1.symm (by simp only [inK]; omega))
     refine Ar (v1 * 2 : Nat) rfl ?_
     refine Ar v0 rfl ?_ (reN (b := 100) (by decide) hv0.symm)
     refine Ar (v0 * 2 : Nat) rfl ?_
     refine Dw rfl ?_
     refine Ar ((i - 1 : Nat) : Int) rfl ?_
     refine Ar ((i - 2 : Nat) : Int) rfl ?_
     refine Ar ((v0 * 2 + 1 : Nat) : Int) rfl ?_
     refine Yx (v0 * 2 + 1) (UInt8.ofNat (48 + v0 % 10)) rfl (tbl v0 Bv0).1 ?_
     refine Yx (v0 * 2) (UInt8.ofNat (48 + v0 / 10)) rfl (tbl v0 Bv0).2 ?_
     refine Eo (i - 1) rfl (by omega) ?_
     refine Stb (UInt8.ofNat (48 + v0 % 10)) rfl (by simp only [List.length_map, List.length_append, List.length_take, List.length_cons]; omega) (st1 (by omega) (by omega)) ?_
     refine Eo (i - 2) rfl (by omega) ?_
     refine Stb (UInt8.ofNat (48 + v0 / 10)) rfl (by simp only [List.length_map, List.length_append, List.length_take, List.length_cons]; omega) (st1 (by omega) (by omega)) ?_
     refine Dw rfl ?_
     refine Ar ((i - 3 : Nat) : Int) rfl ?_
     refine Ar ((i - 4 : Nat) : Int) rfl ?_
     refine Ar ((v1 * 2 + 1 : Nat) : Int) rfl ?_
     refine Yx (v1 * 2 + 1) (UInt8.ofNat (48 + v1 % 10)) rfl (tbl v1 Bv1).1 ?_
     refine Yx (v1 * 2) (UInt8.ofNat (48 + v1 / 10)) rfl (tbl v1 Bv1).2 ?_
     refine Eo (i - 3) rfl (by omega) ?_
     refine Stb (UInt8.ofNat (48 + v1 % 10)) rfl (by simp only [List.length_map, List.length_append, List.length_take, List.length_cons]; omega) (st1 (by omega) (by omega)) ?_
     refine Eo (i - 4) rfl (by omega) ?_
     refine Stb (UInt8.ofNat (48 + v1 / 10)) rfl (by simp only [List.length_map, List.length_append, List.length_take, List.length_cons]; omega) (st1 (by omega) (by omega)) ?_
     refine Ar ((i - 4 : Nat) : Int) rfl ?_
     refine Jn (i - 4, u / 10000, d2 v1 ++ (d2 v0 ++ acc)) [] rfl ⟨by omega, by omega, ?_, ?_⟩
     · obtain ⟨q, rfl⟩ : ∃ q, i = q + 4 := ⟨i - 4, by omega⟩
       rw [Nat.pow_add] at hu
       rw [Nat.add_sub_cancel]
       exact Nat.div_lt_of_lt_mul (by rw [Nat.mul_comm]; exact hu)
     · obtain ⟨q, rfl⟩ : ∃ q, i = q + 4 := ⟨i - 4, by omega⟩
       rw [Nat.add_sub_cancel, ← hI, show q + 4 = q + 2 + 2 from rfl, dgs2, dgs2]
       rw [show u / 100 / 100 = u / 10000 by omega, show u % 100 = v0 by omega, show u / 100 % 100 = v1 by omega]
       simp only [List.append_assoc]
   · exact Jn (i, u, acc) [] rfl ⟨hi, by omega, hu, hI⟩
 clear hu8 hi8 h hI hu9 hu hi acc u i
 rintro ⟨i, u, acc⟩ ⟨hi, hi4, hu, hI⟩
 have hu4 : u < 10 ^ 4 := Nat.lt_of_lt_of_le hu (Nat.pow_le_pow_right (by decide) (by omega))
 refine Cu none (fun ((i, u, acc) : Nat × Nat × List UInt8) => [(0, .own 1000001 1 0 nd), (12, .d (.int .u32 u)), (4, .d (.int .i64 i))]) (fun (i, _, acc) => [(1000001, .arr 1 ((z0.take i ++ acc).map b8))])
  (fun (i, u, acc) => i ≤ nd ∧ i < 2 ∧ u < 10 ^ i ∧ dgs i u ++ acc = dgs nd x ++ z0.drop nd) rfl ?_ ?_
 · refine By rfl (fun h4 => ?_) fun h4 => ?_
   · obtain ⟨v0, hv0⟩ : ∃ w, w = u % 100 := ⟨_, rfl⟩
     have Bv0 : v0 < 100 := by omega
     refine Ar v0 rfl ?_ (reN (b := 100) (by decide) hv0.symm)
     refine Ar (v0 * 2 : Nat) rfl ?_
     refine Ar (u / 100 : Nat) rfl ?_ (quN (b := 100) (by decide) rfl (by simp only [inK]; omega))
     refine Dw rfl ?_
     refine Ar ((i - 1 : Nat) : Int) rfl ?_
     refine Ar ((i - 2 : Nat) : Int) rfl ?_
     refine Ar ((v0 * 2 + 1 : Nat) : Int) rfl ?_
     refine Yx (v0 * 2 + 1) (UInt8.ofNat (48 + v0 % 10)) rfl (tbl v0 Bv0).1 ?_
     refine Yx (v0 * 2) (UInt8.ofNat (48 + v0 / 10)) rfl (tbl v0 Bv0).2 ?_
     refine Eo (i - 1) rfl (by omega) ?_
     refine Stb (UInt8.ofNat (48 + v0 % 10)) rfl (by simp only [List.length_map, List.length_append, List.length_take, List.length_cons]; omega) (st1 (by omega) (by omega)) ?_
     refine Eo (i - 2) rfl (by omega) ?_
     refine Stb (UInt8.ofNat (48 + v0 / 10)) rfl (by simp only [List.length_map, List.length_append, List.length_take, List.length_cons]; omega) (st1 (by omega) (by omega)) ?_
     refine Ar ((i - 2 : Nat) : Int) rfl ?_
     refine Jn (i - 2, u / 100, d2 v0 ++ acc) [] rfl ⟨by omega, by omega, ?_, ?_⟩
     · obtain ⟨q, rfl⟩ : ∃ q, i = q + 2 := ⟨i - 2, by omega⟩
       rw [Nat.pow_add] at hu
       rw [Nat.add_sub_cancel]
       exact Nat.div_lt_of_lt_mul (by rw [Nat.mul_comm]; exact hu)
     · obtain ⟨q, rfl⟩ : ∃ q, i = q + 2 := ⟨i - 2, by omega⟩
       rw [Nat.add_sub_cancel, ← hI, dgs2, ← hv0]
       simp only [List.append_assoc]
   · exact Jn (i, u, acc) [] rfl ⟨hi, by omega, hu, hI⟩
 clear hu4 hi4 hI hu hi acc u i
 rintro ⟨i, u, acc⟩ ⟨hi, hi2, hu, hI⟩
 refine By rfl (fun h4 => ?_) fun h4 => ?_
 · have : i = 1 := by omega
   subst this
   have hu1 : u < 10 := by simpa using hu
   refine Ar (48 + u : Nat) rfl ?_
   refine Go.Vm.Cv (48 + u : Nat) rfl ?_
   refine Eo 0 rfl (by omega) ?_
   refine Stb (UInt8.ofNat (48 + u)) rfl (by simp only [List.length_map, List.length_append, List.length_take]; omega) (st1 (i := 1) rfl (by omega)) ?_ (by rw [dg hu1])
   refine Rw [] [(1000001, .arr 1 ((z0.take 0 ++ UInt8.ofNat (48 + u) :: acc).map b8))] rfl (.tup (.one (.rf rfl) (fun _ _ e => by cases e) (fun _ _ e => by cases e))) ?_
   rw [← hI, dgs, dgs, Nat.mod_eq_of_lt hu1]; rfl
 · have : i = 0 := by omega
   subst this
   refine Rw [] [(1000001, .arr 1 ((z0.take 0 ++ acc).map b8))] rfl (.tup (.one (.rf rfl) (fun _ _ e => by cases e) (fun _ _ e => by cases e))) ?_
   rw [← hI, dgs]; rfl
end
section
theorem FormatUint_ok {x : Nat} (hx : x < 1000000000) : C0 185 [.d (.int .u64 x), .d (.int .i64 10)] (· = .d (.str (dec x))) := by
 have h1 : C0 259 [.d (.int .u64 x), .d (.int .i64 10)] (· = .d (.str (dec x))) := by
  refine En Tryz.func259 fun _ _ _ => ?_
  refine Yes rfl rfl ?_
  refine By rfl (fun h => ?_) fun h => ?_
  · refine Go.Vm.Cv x rfl ?_
    refine Ce rfl (small_ok (by omega)) ?_
    exact R0
  · have hl := dec_len 8 x hx
    have hg := dec_len_ge 2 x (by omega)
    refine Va 5 5 900 24 ((List.replicate 24 (0 : UInt8)).map b8) rfl rfl (by decide) rfl ?_
    refine Ce rfl (numDigits_ok (by omega) hx) ?_
    refine Sp (dec x).length rfl (by omega) (by decide) ?_ (by decide)
    refine Cw (args := [.own 1000001 1 0 (dec x).length, .d (.int .u64 x)]) [(1000001, 900)] rfl (formatBase10_ok (z0 := List.replicate 24 (0 : UInt8)) hl hx (dec_ub x) (by simp; omega) (by simp)) (fun v H' _ hv => ?_) rfl
    subst hv
    refine Sp (dec x).length rfl (by omega) (by decide) ?_ (by decide)
    refine Bo (dec x) rfl ?_ ?_ ?_
    · simp [dgs_dec]
    · rw [dgs_dec]
      simp only [List.drop_zero]
      rw [← List.map_take, List.take_left' rfl, bysD_b8]
    · exact R0
 refine En Tryz.func185 fun _ _ _ => ?_
 refine Ce rfl h1 ?_
 exact R0
end
section
theorem HasPrefix'_ok {s t : List UInt8} (hs : Tx s) (ht : Tx t) : C0 187 [.d (.str s), .d (.str t)] (· = .b (dc (s.take t.length = t))) := by
 refine En Tryz.func187 fun _ _ _ => ?_
 refine Ce rfl (HasPrefix_ok hs ht) ?_
 exact R0
theorem Mul1_ok {n : Nat} (hn : n < 65) : C0 186 [.d (.int .u64 1), .d (.int .u64 n)] (· = .tup (.pr (.d (.int .u64 0)) (.d (.int .u64 n)))) := by
 have h1 : C0 261 [.d (.int .u64 1), .d (.int .u64 n)] (· = .tup (.pr (.d (.int .u64 0)) (.d (.int .u64 n)))) := by
  refine En Tryz.func261 fun _ _ _ => ?_
  refine Ar 1 rfl ?_ (by simp only [arB]; decide +kernel)
  refine Ar 0 rfl ?_ (by simp only [arB]; decide +kernel)
  refine Ar n rfl ?_ (by simp only [arB]; revert hn; generalize n = j; revert j; decide +kernel)
  refine Ar 0 rfl ?_ (by simp only [arB]; revert hn; generalize n = j; revert j; decide +kernel)
  refine Ar n rfl ?_
  refine Ar 0 rfl ?_
  refine Ar 0 rfl ?_ (by simp only [arB]; revert hn; generalize n = j; revert j; decide +kernel)
  refine Ar 0 rfl ?_
  refine Ar 0 rfl ?_ (by simp only [arB]; decide +kernel)
  refine Ar 0 rfl ?_ (by simp only [arB]; decide +kernel)
  refine Ar 0 rfl ?_
  refine Ar 0 rfl ?_
  refine Ar 0 rfl ?_
  refine Ar 0 rfl ?_
  refine Ar 0 rfl ?_ (by simp only [arB]; decide +kernel)
  refine Ar 0 rfl ?_
  refine Ar n rfl ?_
  exact R0t
 refine En Tryz.func186 fun _ _ _ => ?_
 refine Ce rfl h1 ?_
 exact R0t
theorem Repeat0_ok {n : Nat} (hn : n < 65) : C0 106 [.d (.str [48]), .d (.int .i64 n)] (· = .d (.str (List.replicate n 48))) := by
 refine En Tryz.func106 fun _ _ _ => ?_
 refine By rfl (fun h => ?_) fun h => ?_
 · have : n = 0 := by omega
   subst this; exact R1 rfl (.eq rfl)
 refine By rfl (fun h1 => ?_) fun h1 => ?_
 · have : n = 1 := by omega
   subst this; exact R1 rfl (.eq rfl)
 refine No rfl (by omega) ?_
 refine Go.Vm.Cv 1 rfl ?_ (by decide)
 refine Go.Vm.Cv n rfl ?_
 refine Ce rfl (Mul1_ok hn) ?_
 refine No rfl (by decide) ?_
 refine No rfl (by omega) ?_
 refine Go.Vm.Cv n rfl ?_
 refine No rfl (by decide) ?_
 refine Yx 0 48 rfl rfl ?_
 refine No rfl (by decide) ?_
 refine No rfl (by decide) ?_
 refine Yes rfl (by decide) ?_
 refine Yes rfl (by omega) ?_
 refine Ce rfl (HasPrefix'_ok (by decide) (by decide)) ?_
 refine No rfl (by decide) ?_
 refine Yes rfl (by omega) ?_
 refine Ce rfl (HasPrefix'_ok (by decide) (by decide)) ?_
 refine No rfl (by decide) ?_
 refine Yes rfl (by omega) ?_
 refine Ce rfl (HasPrefix'_ok (by decide) (by decide)) ?_
 refine Yes rfl (by decide) ?_
 refine Stk n (List.replicate n 48) rfl (by simp; omega) ?_ ?_
 · clear h h1
   revert hn; generalize n = j; revert j; decide +kernel
 · exact R0
end
section
end
section
end
section
end
section
def rnB : Ren := ⟨fun n => match n with
 | 166 => 108
 | 167 => 183
 | 169 => 109
 | 240 => 189
 | 276 => 262
 | _ => 0, fun n => match n with
 | 3 => 3
 | 4 => 4
 | 5 => 5
 | 9 => 9
 | 20 => 20
 | 37 => 146
 | 70 => 145
 | 72 => 148
 | 75 => 151
 | 80 => 154
 | 127 => 217
 | 164 => 264
 | _ => 0, fun n => n⟩
theorem lay166 : Lays.n166 Tryz.prog rnB where
 mixed := by kernel_rfl
 f166 := by kernel_rfl
 f240 := by kernel_rfl
 f276 := by kernel_rfl
 t0 := by kernel_rfl
 a0 := fun _ => by kernel_rfl
 z0 := fun _ => by kernel_rfl
 v0 := fun _ => by kernel_rfl
 t3 := by kernel_rfl
 a3 := fun _ => by kernel_rfl
 z3 := fun _ => by kernel_rfl
 v3 := fun _ => by kernel_rfl
 t4 := by kernel_rfl
 a4 := fun _ => by kernel_rfl
 z4 := fun _ => by kernel_rfl
 v4 := fun _ => by kernel_rfl
 t9 := by kernel_rfl
 a9 := fun _ => by kernel_rfl
 z9 := fun _ => by kernel_rfl
 v9 := fun _ => by kernel_rfl
 t20 := by kernel_rfl
 a20 := fun _ => by kernel_rfl
 z20 := fun _ => by kernel_rfl
 v20 := fun _ => by kernel_rfl
 t37 := by kernel_rfl
 a37 := fun _ => by kernel_rfl
 z37 := fun _ => by kernel_rfl
 v37 := fun _ => by kernel_rfl
 t70 := by kernel_rfl
 a70 := fun _ => by kernel_rfl
 z70 := fun _ => by kernel_rfl
 v70 := fun _ => by kernel_rfl
 t72 := by kernel_rfl
 a72 := fun _ => by kernel_rfl
 z72 := fun _ => by kernel_rfl
 v72 := fun _ => by kernel_rfl
 t75 := by kernel_rfl
 a75 := fun _ => by kernel_rfl
 z75 := fun _ => by kernel_rfl
 v75 := fun _ => by kernel_rfl
 t164 := by kernel_rfl
 a164 := fun _ => by kernel_rfl
 z164 := fun _ => by kernel_rfl
 v164 := fun _ => by kernel_rfl
theorem lay167 : Lays.n167 Tryz.prog rnB where
 mixed := by kernel_rfl
 f167 := by kernel_rfl
 f240 := by kernel_rfl
 f276 := by kernel_rfl
 t0 := by kernel_rfl
 a0 := fun _ => by kernel_rfl
 z0 := fun _ => by kernel_rfl
 v0 := fun _ => by kernel_rfl
 t4 := by kernel_rfl
 a4 := fun _ => by kernel_rfl
 z4 := fun _ => by kernel_rfl
 v4 := fun _ => by kernel_rfl
 t5 := by kernel_rfl
 a5 := fun _ => by kernel_rfl
 z5 := fun _ => by kernel_rfl
 v5 := fun _ => by kernel_rfl
 t9 := by kernel_rfl
 a9 := fun _ => by kernel_rfl
 z9 := fun _ => by kernel_rfl
 v9 := fun _ => by kernel_rfl
 t20 := by kernel_rfl
 a20 := fun _ => by kernel_rfl
 z20 := fun _ => by kernel_rfl
 v20 := fun _ => by kernel_rfl
 t37 := by kernel_rfl
 a37 := fun _ => by kernel_rfl
 z37 := fun _ => by kernel_rfl
 v37 := fun _ => by kernel_rfl
 t70 := by kernel_rfl
 a70 := fun _ => by kernel_rfl
 z70 := fun _ => by kernel_rfl
 v70 := fun _ => by kernel_rfl
 t72 := by kernel_rfl
 a72 := fun _ => by kernel_rfl
 z72 := fun _ => by kernel_rfl
 v72 := fun _ => by kernel_rfl
 t75 := by kernel_rfl
 a75 := fun _ => by kernel_rfl
 z75 := fun _ => by kernel_rfl
 v75 := fun _ => by kernel_rfl
 t164 := by kernel_rfl
 a164 := fun _ => by kernel_rfl
 z164 := fun _ => by kernel_rfl
 v164 := fun _ => by kernel_rfl
theorem lay169 : Lays.n169 Tryz.prog rnB where
 mixed := by kernel_rfl
 f169 := by kernel_rfl
 t0 := by kernel_rfl
 a0 := fun _ => by kernel_rfl
 z0 := fun _ => by kernel_rfl
 v0 := fun _ => by kernel_rfl
 t3 := by kernel_rfl
 a3 := fun _ => by kernel_rfl
 z3 := fun _ => by kernel_rfl
 v3 := fun _ => by kernel_rfl
 t9 := by kernel_rfl
 a9 := fun _ => by kernel_rfl
 z9 := fun _ => by kernel_rfl
 v9 := fun _ => by kernel_rfl
 t37 := by kernel_rfl
 a37 := fun _ => by kernel_rfl
 z37 := fun _ => by kernel_rfl
 v37 := fun _ => by kernel_rfl
 t70 := by kernel_rfl
 a70 := fun _ => by kernel_rfl
 z70 := fun _ => by kernel_rfl
 v70 := fun _ => by kernel_rfl
 t72 := by kernel_rfl
 a72 := fun _ => by kernel_rfl
 z72 := fun _ => by kernel_rfl
 v72 := fun _ => by kernel_rfl
 t127 := by kernel_rfl
 a127 := fun _ => by kernel_rfl
 z127 := fun _ => by kernel_rfl
 v127 := fun _ => by kernel_rfl
theorem extB : Builder.Extra Tryz.prog rnB where
 sizeBuilder := by kernel_rfl
 liesBuilder := by kernel_rfl
 t5 := by kernel_rfl
 a5 := fun _ => by kernel_rfl
 z5 := fun _ => by kernel_rfl
 v5 := fun _ => by kernel_rfl
 infoByte := by kernel_rfl
 cellsByte := by kernel_rfl
 sizeByte := by kernel_rfl
 neB5 := by decide
end
section
def rnJ : Ren := ⟨fun n => match n with
 | 156 => 49
 | 165 => 107
 | 166 => 108
 | 169 => 109
 | 240 => 189
 | 241 => 190
 | 276 => 262
 | 277 => 263
 | _ => 0, fun n => match n with
 | 3 => 3
 | 4 => 4
 | 5 => 5
 | 9 => 9
 | 20 => 20
 | 31 => 94
 | 37 => 146
 | 70 => 145
 | 72 => 148
 | 75 => 151
 | 76 => 152
 | 80 => 154
 | 127 => 217
 | 164 => 264
 | _ => 0, fun n => n⟩
theorem lay156 : Lays.n156 Tryz.prog rnJ where
 mixed := by kernel_rfl
 f156 := by kernel_rfl
 f165 := by kernel_rfl
 f166 := by kernel_rfl
 f169 := by kernel_rfl
 f240 := by kernel_rfl
 f241 := by kernel_rfl
 f276 := by kernel_rfl
 f277 := by kernel_rfl
 t0 := by kernel_rfl
 a0 := fun _ => by kernel_rfl
 z0 := fun _ => by kernel_rfl
 v0 := fun _ => by kernel_rfl
 t3 := by kernel_rfl
 a3 := fun _ => by kernel_rfl
 z3 := fun _ => by kernel_rfl
 v3 := fun _ => by kernel_rfl
 t4 := by kernel_rfl
 a4 := fun _ => by kernel_rfl
 z4 := fun _ => by kernel_rfl
 v4 := fun _ => by kernel_rfl
 t9 := by kernel_rfl
 a9 := fun _ => by kernel_rfl
 z9 := fun _ => by kernel_rfl
 v9 := fun _ => by kernel_rfl
 t20 := by kernel_rfl
 a20 := fun _ => by kernel_rfl
 z20 := fun _ => by kernel_rfl
 v20 := fun _ => by kernel_rfl
 t31 := by kernel_rfl
 a31 := fun _ => by kernel_rfl
 z31 := fun _ => by kernel_rfl
 v31 := fun _ => by kernel_rfl
 t37 := by kernel_rfl
 a37 := fun _ => by kernel_rfl
 z37 := fun _ => by kernel_rfl
 v37 := fun _ => by kernel_rfl
 t70 := by kernel_rfl
 a70 := fun _ => by kernel_rfl
 z70 := fun _ => by kernel_rfl
 v70 := fun _ => by kernel_rfl
 t72 := by kernel_rfl
 a72 := fun _ => by kernel_rfl
 z72 := fun _ => by kernel_rfl
 v72 := fun _ => by kernel_rfl
 t75 := by kernel_rfl
 a75 := fun _ => by kernel_rfl
 z75 := fun _ => by kernel_rfl
 v75 := fun _ => by kernel_rfl
 t76 := by kernel_rfl
 a76 := fun _ => by kernel_rfl
 z76 := fun _ => by kernel_rfl
 v76 := fun _ => by kernel_rfl
 t127 := by kernel_rfl
 a127 := fun _ => by kernel_rfl
 z127 := fun _ => by kernel_rfl
 v127 := fun _ => by kernel_rfl
 t164 := by kernel_rfl
 a164 := fun _ => by kernel_rfl
 z164 := fun _ => by kernel_rfl
 v164 := fun _ => by kernel_rfl
theorem extJ : Builder.Extra Tryz.prog rnJ where
 sizeBuilder := by kernel_rfl
 liesBuilder := by kernel_rfl
 t5 := by kernel_rfl
 a5 := fun _ => by kernel_rfl
 z5 := fun _ => by kernel_rfl
 v5 := fun _ => by kernel_rfl
 infoByte := by kernel_rfl
 cellsByte := by kernel_rfl
 sizeByte := by kernel_rfl
 neB5 := by decide
abbrev tB (s : List UInt8) : ByteArray := ⟨s.toArray⟩
abbrev dXs (l : List (List UInt8)) : D := .sl 1 (l.map .str)
theorem Join_ok {l : List (List UInt8)} {sep : List UInt8} (hn : l.length ≤ 1000000) (hl : (Lib.join l sep).length ≤ 140737488355328) : C0 49 [.d (dXs l), .d (.str sep)] (· = .d (.str (Lib.join l sep))) := by
 refine ⟨⟨_, Tryz.func49, rfl, rfl⟩, fun W vs _ ha => ?_⟩
 match vs, ha with
 | [v, u], ha =>
  obtain ⟨p, c, rfl, h1, h2, h3⟩ := V_sl ha.1
  obtain ⟨rfl, _⟩ := V_str ha.2.1
  have hmm : (l.map tB).map (·.data.toList) = l := by rw [List.map_map]; exact (List.map_congr_left fun x _ => by simp [tB]).trans (List.map_id l)
  have hsp : (tB sep).data.toList = sep := by simp [tB]
  have key : Calls Tryz.prog 49 #[.slice p (l.map D.str).length c, .string (tB sep)] W.w fun e w' => e = .returned (.string (tB (Lib.join l sep))) ∧ Below W.w.heap.size W.w w' := by
   rcases h3 with h3 | ⟨b, off, rfl, hrow⟩
   · obtain rfl : l = [] := List.map_eq_nil_iff.1 h3
     exact (Any.strings_Join_none lay156 extJ p c (tB sep) W.w).mono fun e w' ⟨he, hw⟩ => ⟨he, hw ▸ Below.refl _ _⟩
   · cases hl0 : l with
     | nil =>
      exact (Any.strings_Join_none lay156 extJ _ c (tB sep) W.w).mono fun e w' ⟨he, hw⟩ => ⟨he, hw ▸ Below.refl _ _⟩
     | cons x0 r =>
      rw [← hl0]
      have hc : ∀ (j : Nat) x, (l.map tB)[j]? = some x → W.w.cell? ⟨b, off + j, none⟩ = some (.string x) := fun j x hj => by
       rw [List.getElem?_map, Option.map_eq_some_iff] at hj
       obtain ⟨s, hs, rfl⟩ := hj
       obtain ⟨e, g1, _, g3⟩ := D.row_get hrow (i := j) (x := .str s) (by rw [List.getElem?_map, hs]; rfl)
       have := (g3 0 (.string (tB s)) (by rw [g1.1]; rfl)).1
       rwa [Nat.mul_one, Nat.add_zero] at this
      have hb : b < W.w.heap.size := World.block_lt_of_cell? _ _ (hc 0 (tB x0) (by rw [hl0]; rfl))
      have := Any.strings_Join lay156 extJ b off c (l.map tB) (tB sep) W.w hc hb (by rw [List.length_map]; omega) (by rw [List.length_map] at h1 ⊢; exact h1) (by rw [hmm, hsp]; exact hl)
      rw [hmm, hsp] at this
      rw [List.length_map] at this ⊢
      exact this
  refine key.mono ?_
  rintro e w' ⟨rfl, hw⟩
  obtain ⟨W', hW, hE⟩ := fm_below hw
  exact ⟨W', .d (.str (Lib.join l sep)), _, rfl, hW, hE, str_V (by omega), fun _ h => h.elim, rfl⟩
end
end Go.Proofs.YtpgcfjpkilabfaaGreatDoor
namespace Go.Proofs.YtpgcfjpkilabfaaGreatDoor.P55
open Go Go.Vm Go.Num Go.Tow Go.Proofs.YtpgcfjpkilabfaaGreatDoor
section
inductive Wv where
 | mk (s : List UInt8)
 | nu (x : Nm)
abbrev dMk (s : List UInt8) : D := .st (.pr (.str s) (.pr (.bool false) R9.n0))
abbrev dNu (x : Nm) : D := .st (.pr (.str []) (.pr (.bool true) (dN x)))
def dWv : Wv → D
 | .mk s => dMk s
 | .nu x => dNu x
abbrev dWs (l : List Wv) : D := .sl 4 (l.map dWv)
theorem mark_ok {s : List UInt8} : C0 97 [.d (.str s)] (· = .d (dMk s)) := by
 refine En Tryz.func97 fun _ _ _ => ?_
 exact R1 rfl (.sd (.pd (.rf rfl) (.pd (.bd rfl) R9.fit0)))
theorem num_ok {x : Nm} : C0 98 [.d (dN x)] (· = .d (dNu x)) := by
 refine En Tryz.func98 fun _ _ _ => ?_
 exact R1 rfl (.sd (.pd (.rf rfl) (.pd (.bd rfl) (.rf rfl))))
def flB (b : Bool) : List UInt8 := if b then [49] else [48]
theorem flag_ok {b : Bool} : C0 100 [.d (.bool b)] (· = .d (dMk (flB b))) := by
 refine C.nb (show C0 _ [.b b] _ from ?_)
 cases b with
 | true =>
  refine En Tryz.func100 fun _ _ _ => ?_
  refine Yes rfl rfl ?_
  refine Ce rfl mark_ok ?_
  exact R0
 | false =>
  refine En Tryz.func100 fun _ _ _ => ?_
  refine No rfl nofun ?_
  refine Ce rfl mark_ok ?_
  exact R0
def arcW (r : Nm) (lg cc : Bool) (x : Vn) : List Wv := [.mk [65], .nu r, .nu r, .mk [48], .mk (flB lg), .mk (flB cc), .nu x.x, .nu x.y]
theorem to_lit {w : List Wv} {r : Nm} {c : Cv} {lg : Bool} {x : Vn} (hw : w.length ≤ 100000) : CW0 99 [.d (.bool lg), .d (dV x), .ptr 1000001 0, .ptr 1000002 0, .ptr 1000003 0] [(1000001, .var (.lit 4 (w.map dWv))), (1000002, .var (.d (dN r))), (1000003, .var (.d (dC c)))]
 (fun v H' => v = .tup .un ∧ H' = [(1000001, .var (.own 1000000 4 0 ((w ++ arcW r lg (!c.cw) x).map dWv).length)), (1000002, .var (.d (dN r))), (1000003, .var (.d (dC c))), (1000000, .arr 4 ((w ++ arcW r lg (!c.cw) x).map dWv))]) := by
 obtain ⟨arc, A, B, C, cw⟩ := c
 refine EnW Tryz.func99 fun _ _ _ _ => ?_
 refine Dw rfl ?_
 refine Ce rfl mark_ok ?_
 refine Ce rfl num_ok ?_
 refine Ce rfl num_ok ?_
 refine Ce rfl mark_ok ?_
 refine Ce rfl flag_ok ?_
 refine Ce rfl flag_ok ?_
 refine Ce rfl num_ok ?_
 refine Ce rfl num_ok ?_
 refine ApL ((w ++ arcW r lg (!cw) x).map dWv) rfl (by rw [List.map_append]; rfl) (Nat.zero_lt_succ _) (by simp [arcW]; omega) ?_
 exact Rw [(27, 1000000)] [(1000001, .var (.own 1000000 4 0 ((w ++ arcW r lg (!cw) x).map dWv).length)), (1000002, .var (.d (dN r))), (1000003, .var (.d (dC ⟨arc, A, B, C, cw⟩))), (1000000, .arr 4 ((w ++ arcW r lg (!cw) x).map dWv))] rfl (.tup (.one (.rf rfl) (fun _ _ e => by cases e) (fun _ _ e => by cases e))) ⟨rfl, rfl⟩
theorem to_own {w : List Wv} {r : Nm} {c : Cv} {lg : Bool} {x : Vn} (hw : w.length ≤ 100000) : CW0 99 [.d (.bool lg), .d (dV x), .ptr 1000001 0, .ptr 1000002 0, .ptr 1000003 0] [(1000001, .var (.own 1000004 4 0 (w.map dWv).length)), (1000002, .var (.d (dN r))), (1000003, .var (.d (dC c))), (1000004, .arr 4 (w.map dWv))]
 (fun v H' => v = .tup .un ∧ H' = [(1000001, .var (.own 1000000 4 0 ((w ++ arcW r lg (!c.cw) x).map dWv).length)), (1000002, .var (.d (dN r))), (1000003, .var (.d (dC c))), (1000004, .dead), (1000000, .arr 4 ((w ++ arcW r lg (!c.cw) x).map dWv))]) := by
 obtain ⟨arc, A, B, C, cw⟩ := c
 refine EnW Tryz.func99 fun _ _ _ _ => ?_
 refine Dw rfl ?_
 refine Ce rfl mark_ok ?_
 refine Ce rfl num_ok ?_
 refine Ce rfl num_ok ?_
 refine Ce rfl mark_ok ?_
 refine Ce rfl flag_ok ?_
 refine Ce rfl flag_ok ?_
 refine Ce rfl num_ok ?_
 refine Ce rfl num_ok ?_
 refine ApO ((w ++ arcW r lg (!cw) x).map dWv) rfl rfl rfl (by rw [List.map_append]; rfl) (by simp [arcW]; omega) ?_
 exact Rw [(27, 1000000)] [(1000001, .var (.own 1000000 4 0 ((w ++ arcW r lg (!cw) x).map dWv).length)), (1000002, .var (.d (dN r))), (1000003, .var (.d (dC ⟨arc, A, B, C, cw⟩))), (1000004, .dead), (1000000, .arr 4 ((w ++ arcW r lg (!cw) x).map dWv))] rfl (.tup (.one (.rf rfl) (fun _ _ e => by cases e) (fun _ _ e => by cases e))) ⟨rfl, rfl⟩
abbrev segW (B : Vn) : List Wv := [.mk [76], .nu B.x, .nu B.y]
inductive WdC (c : Cv) : List Wv → Prop where
 | seg (h : c.arc = false) : WdC c [.mk [76], .nu c.B.x, .nu c.B.y]
 | full {r : Nm} {w x : Vn} (h : c.arc = true) (h1 : C0 54 [.d (dC c)] (· = .tup (.pr (.d (dN r)) (.d (.int .i64 0))))) (h2 : C0 96 [.d (dV c.A), .d (dV c.B)] (· = .b true)) (h3 : C0 101 [.d (dV c.C), .d (dV c.A)] (· = .tup (.pr (.d (dV w)) (.d (.int .i64 0)))))
  (h4 : C0 56 [.d (dV c.C), .d (dV w)] (· = .tup (.pr (.d (dV x)) (.d (.int .i64 0))))) : WdC c (arcW r false (!c.cw) x ++ arcW r false (!c.cw) c.B)
 | part {r : Nm} {lg : Bool} (h : c.arc = true) (h1 : C0 54 [.d (dC c)] (· = .tup (.pr (.d (dN r)) (.d (.int .i64 0))))) (h2 : C0 96 [.d (dV c.A), .d (dV c.B)] (· = .b false)) (h3 : C0 102 [.d (dC c)] (· = .tup (.pr (.b lg) (.d (.int .i64 0))))) : WdC c (arcW r lg (!c.cw) c.B)
theorem WdC.len {c : Cv} {w : List Wv} (h : WdC c w) : w.length ≤ 16 := by cases h <;> simp [arcW]
def ouH (w0 : List Wv) : Option (List Wv) → Hpl
 | none => [(4, .var (.lit 4 (w0.map dWv)))]
 | some w => [(4, .var (.own 600 4 0 (w.map dWv).length)), (600, .arr 4 (w.map dWv))]
def ouW (w0 : List Wv) : Option (List Wv) → List Wv
 | none => w0
 | some w => w
def hdW (c0 : Cv) : List Wv := [.mk [77], .nu c0.A.x, .nu c0.A.y]
theorem words_ok {c0 d0 : Cv} {l : List Cv} {Z : List (List Wv)} {cl : Bool} (h0 : l[0]? = some c0) (h9 : l[l.length - 1]? = some d0) (hl : l.length ≤ 1000) (hZ : Z.length = l.length) (hC : ∀ (i : Nat) c w, l[i]? = some c → Z[i]? = some w → WdC c w) (he : C0 96 [.d (dV c0.A), .d (dV d0.B)] (· = .b cl)) :
 C0 47 [.d (dCs' l)] (· = .tup (.pr (.d (dWs (hdW c0 ++ Z.flatten ++ (if cl then [.mk [90]] else [])))) (.d (.int .i64 0)))) := by
 have hl0 : 0 < l.length := (List.getElem?_eq_some_iff.1 h0).1
 have hfl : ∀ k, k ≤ l.length → (Z.take k).flatten.length ≤ 16 * k := fun k => by
  induction k with
  | zero => intro _; simp
  | succ k ih =>
   intro hk
   obtain ⟨w, hw⟩ : ∃ w, Z[k]? = some w := ⟨_, List.getElem?_eq_getElem (by omega)⟩
   obtain ⟨c, hc⟩ : ∃ c, l[k]? = some c := ⟨_, List.getElem?_eq_getElem (by omega)⟩
   have := (hC k c w hc hw).len
   have := ih (by omega)
   rw [List.take_add_one, hw]
   simp only [List.flatten_append, List.length_append, Option.toList_some, List.flatten_cons, List.flatten_nil, List.append_nil]
   omega
 have hw0l : (hdW c0).length = 3 := rfl
 have hlm : (l.map dC).length = l.length := List.length_map ..
 refine En Tryz.func47 fun _ _ _ => ?_
 refine Dw rfl ?_
 refine Ce rfl mark_ok ?_
 refine Ix 0 rfl (u := dC c0) (by rw [List.getElem?_map, h0]; rfl) ?_
 refine Ce rfl num_ok ?_
 refine Ix 0 rfl (u := dC c0) (by rw [List.getElem?_map, h0]; rfl) ?_
 refine Ce rfl num_ok ?_
 refine Lo (fun ((k, o) : Nat × Option (List Wv)) => [(0, .d (dCs' l)), (4, .ptr 4 0), (28, .d (dCs' l)), (29, .d (.int .i64 (l.map dC).length)), (30, .d (.int .i64 k))]) (fun (_, o) => ouH (hdW c0) o) (fun (k, o) => k ≤ l.length ∧ ouW (hdW c0) o = (hdW c0) ++ (Z.take k).flatten ∧ (o = none ↔ k = 0)) (fun (k, _) => l.length - k) (0, none) [] rfl ⟨Nat.zero_le _, by simp [ouW], by simp⟩ ?_
 rintro ⟨k, o⟩ ⟨hk, hw, ho⟩
 cases o with
 | none =>
  obtain rfl : k = 0 := ho.1 rfl
  have hw : (hdW c0) = (hdW c0) ++ (Z.take 0).flatten := hw
  refine By rfl (fun h => ?_) fun h => ?_
  · have h : ((0 : Nat) : Int) < ((l.map dC).length : Nat) := h
    rw [List.length_map] at h
    have hkl : 0 < l.length := hl0
    obtain ⟨c, hc⟩ : ∃ c, l[0]? = some c := ⟨_, List.getElem?_eq_getElem hkl⟩
    obtain ⟨z, hz⟩ : ∃ z, Z[0]? = some z := ⟨_, List.getElem?_eq_getElem (by omega)⟩
    have hnx : ∀ u, u = (hdW c0) ++ z → 0 + 1 ≤ l.length ∧ ouW (hdW c0) (some u) = (hdW c0) ++ (Z.take (0 + 1)).flatten ∧ (some u = none ↔ 0 + 1 = 0) := fun u hu => ⟨hkl, by rw [List.take_add_one, hz]; show u = _; rw [hu]; simp [← List.append_assoc, ← hw], by simp⟩
    have hcl : ((hdW c0)).length ≤ 20000 := by rw [hw, List.length_append]; have := hfl 0 (Nat.zero_le _); omega
    refine Ix 0 rfl (u := dC c) (by rw [List.getElem?_map, hc]; rfl) ?_
    have hWc := hC 0 c z hc hz
    obtain ⟨arc, A, B, C, cw⟩ := c
    cases hWc with
    | seg h =>
     obtain rfl : arc = false := h
     refine Yes rfl nofun ?_
     refine Dw rfl ?_
     refine Ce rfl mark_ok ?_
     refine Ce rfl num_ok ?_
     refine Ce rfl num_ok ?_
     refine ApL (((hdW c0) ++ segW B).map dWv) rfl (by rw [List.map_append]; rfl) (Nat.zero_lt_succ _) (by rw [List.length_map, List.length_append]; show _ + 3 ≤ _; omega) ?_
     refine Ar (0 + 1 : Nat) rfl ?_
     exact Bk (0 + 1, some ((hdW c0) ++ segW B)) [(48, 600)] rfl (hnx _ rfl) (by show l.length - (0 + 1) < l.length - 0; omega)
    | @full r w x h h1 h2 h3 h4 =>
     obtain rfl : arc = true := h
     refine No rfl (fun h => h rfl) ?_
     refine Ce rfl h1 ?_
     refine No rfl (by decide) ?_
     refine Ce rfl h2 ?_
     refine Yes rfl rfl ?_
     refine Ce rfl h3 ?_
     refine No rfl (by decide) ?_
     refine Ce rfl h4 ?_
     refine No rfl (by decide) ?_
     refine Cw [(1000001, 4), (1000002, 7), (1000003, 6)] rfl (to_lit (w := hdW c0) (r := r) (c := ⟨true, A, B, C, cw⟩) (lg := false) (x := x) (by omega)) fun v H' _ hv => ?_
     obtain ⟨rfl, rfl⟩ := hv
     refine Cw [(1000001, 4), (1000002, 7), (1000003, 6), (1000004, 86)] rfl (to_own (w := (hdW c0) ++ arcW r false (!cw) x) (r := r) (c := ⟨true, A, B, C, cw⟩) (lg := false) (x := B) (by simp [arcW]; omega)) fun v H' _ hv => ?_
     obtain ⟨rfl, rfl⟩ := hv
     refine Ar (0 + 1 : Nat) rfl ?_
     exact Bk (0 + 1, some ((hdW c0) ++ arcW r false (!cw) x ++ arcW r false (!cw) B)) [(90, 600)] rfl (hnx _ (by simp)) (by show l.length - (0 + 1) < l.length - 0; omega)
    | @part r lg h h1 h2 h3 =>
     obtain rfl : arc = true := h
     refine No rfl (fun h => h rfl) ?_
     refine Ce rfl h1 ?_
     refine No rfl (by decide) ?_
     refine Ce rfl h2 ?_
     refine No rfl nofun ?_
     refine Ce rfl h3 ?_
     refine No rfl (by decide) ?_
     refine Cw [(1000001, 4), (1000002, 7), (1000003, 6)] rfl (to_lit (w := hdW c0) (r := r) (c := ⟨true, A, B, C, cw⟩) (lg := lg) (x := B) (by omega)) fun v H' _ hv => ?_
     obtain ⟨rfl, rfl⟩ := hv
     refine Ar (0 + 1 : Nat) rfl ?_
     exact Bk (0 + 1, some ((hdW c0) ++ arcW r lg (!cw) B)) [(103, 600)] rfl (hnx _ rfl) (by show l.length - (0 + 1) < l.length - 0; omega)
  · have h : ¬ ((0 : Nat) : Int) < ((l.map dC).length : Nat) := h
    rw [List.length_map] at h
    omega
 | some w' =>
  have hw : w' = (hdW c0) ++ (Z.take k).flatten := hw
  refine By rfl (fun h => ?_) fun h => ?_
  · have h : (k : Int) < ((l.map dC).length : Nat) := h
    rw [List.length_map] at h
    have hkl : k < l.length := by omega
    obtain ⟨c, hc⟩ : ∃ c, l[k]? = some c := ⟨_, List.getElem?_eq_getElem hkl⟩
    obtain ⟨z, hz⟩ : ∃ z, Z[k]? = some z := ⟨_, List.getElem?_eq_getElem (by omega)⟩
    have hnx : ∀ u, u = w' ++ z → k + 1 ≤ l.length ∧ ouW (hdW c0) (some u) = (hdW c0) ++ (Z.take (k + 1)).flatten ∧ (some u = none ↔ k + 1 = 0) := fun u hu => ⟨hkl, by rw [List.take_add_one, hz]; show u = _; rw [hu]; simp [← List.append_assoc, ← hw], by simp⟩
    have hcl : (w').length ≤ 20000 := by rw [hw, List.length_append]; have := hfl k hk; omega
    refine Ix k rfl (u := dC c) (by rw [List.getElem?_map, hc]; rfl) ?_
    have hWc := hC k c z hc hz
    obtain ⟨arc, A, B, C, cw⟩ := c
    cases hWc with
    | seg h =>
     obtain rfl : arc = false := h
     refine Yes rfl nofun ?_
     refine Dw rfl ?_
     refine Ce rfl mark_ok ?_
     refine Ce rfl num_ok ?_
     refine Ce rfl num_ok ?_
     refine ApO ((w' ++ segW B).map dWv) rfl rfl rfl (by rw [List.map_append]; rfl) (by rw [List.length_map, List.length_append]; show _ + 3 ≤ _; omega) ?_
     refine Ar (k + 1 : Nat) rfl ?_
     exact Bk (k + 1, some (w' ++ segW B)) [(600, 900), (48, 600)] rfl (hnx _ rfl) (by show l.length - (k + 1) < l.length - k; omega)
    | @full r w x h h1 h2 h3 h4 =>
     obtain rfl : arc = true := h
     refine No rfl (fun h => h rfl) ?_
     refine Ce rfl h1 ?_
     refine No rfl (by decide) ?_
     refine Ce rfl h2 ?_
     refine Yes rfl rfl ?_
     refine Ce rfl h3 ?_
     refine No rfl (by decide) ?_
     refine Ce rfl h4 ?_
     refine No rfl (by decide) ?_
     refine Cw [(1000001, 4), (1000002, 7), (1000003, 6), (1000004, 600)] rfl (to_own (w := w') (r := r) (c := ⟨true, A, B, C, cw⟩) (lg := false) (x := x) (by omega)) fun v H' _ hv => ?_
     obtain ⟨rfl, rfl⟩ := hv
     refine Cw [(1000001, 4), (1000002, 7), (1000003, 6), (1000004, 86)] rfl (to_own (w := w' ++ arcW r false (!cw) x) (r := r) (c := ⟨true, A, B, C, cw⟩) (lg := false) (x := B) (by simp [arcW]; omega)) fun v H' _ hv => ?_
     obtain ⟨rfl, rfl⟩ := hv
     refine Ar (k + 1 : Nat) rfl ?_
     exact Bk (k + 1, some (w' ++ arcW r false (!cw) x ++ arcW r false (!cw) B)) [(600, 900), (90, 600)] rfl (hnx _ (by simp)) (by show l.length - (k + 1) < l.length - k; omega)
    | @part r lg h h1 h2 h3 =>
     obtain rfl : arc = true := h
     refine No rfl (fun h => h rfl) ?_
     refine Ce rfl h1 ?_
     refine No rfl (by decide) ?_
     refine Ce rfl h2 ?_
     refine No rfl nofun ?_
     refine Ce rfl h3 ?_
     refine No rfl (by decide) ?_
     refine Cw [(1000001, 4), (1000002, 7), (1000003, 6), (1000004, 600)] rfl (to_own (w := w') (r := r) (c := ⟨true, A, B, C, cw⟩) (lg := lg) (x := B) (by omega)) fun v H' _ hv => ?_
     obtain ⟨rfl, rfl⟩ := hv
     refine Ar (k + 1 : Nat) rfl ?_
     exact Bk (k + 1, some (w' ++ arcW r lg (!cw) B)) [(600, 900), (103, 600)] rfl (hnx _ rfl) (by show l.length - (k + 1) < l.length - k; omega)
  · have h : ¬ (k : Int) < ((l.map dC).length : Nat) := h
    rw [List.length_map] at h
    obtain rfl : k = l.length := by omega
    have hwl : w'.length ≤ 20000 := by rw [hw, List.length_append]; have := hfl l.length hk; omega
    have hwz : w' = (hdW c0) ++ Z.flatten := by rw [hw, List.take_of_length_le (by omega)]
    refine Dw rfl ?_
    refine Ix 0 rfl (u := dC c0) (by rw [List.getElem?_map, h0]; rfl) ?_
    refine Ar (l.length - 1 : Nat) rfl ?_
    refine Ix (l.length - 1) rfl (u := dC d0) (by rw [List.getElem?_map, h9]; rfl) ?_
    refine Ce rfl he ?_
    cases cl with
    | true =>
     refine Yes rfl rfl ?_
     refine Dw rfl ?_
     refine Ce rfl mark_ok ?_
     refine ApO ((w' ++ ([.mk [90]] : List Wv)).map dWv) rfl rfl rfl (by rw [List.map_append]; rfl) (by rw [List.length_map, List.length_append]; show _ + 1 ≤ _; omega) ?_
     exact RTt rfl (.cons (.own rfl (by rw [Nat.zero_add]; exact Nat.le_refl _) (by rw [List.drop_zero, List.take_length, hwz]; rfl)) fitI)
    | false =>
     refine No rfl nofun ?_
     exact RTt rfl (.cons (.own rfl (by rw [Nat.zero_add]; exact Nat.le_refl _) (by rw [List.drop_zero, List.take_length, hwz]; exact congrArg (List.map dWv) (List.append_nil _).symm)) fitI)
end
section
theorem lC (l : List Cv) : (l.map dC).length = l.length := List.length_map ..
theorem cAt {l : List Cv} {k : Nat} {c : Cv} (h : l[k]? = some c) : (l.map dC)[k]? = some (dC c) := by rw [List.getElem?_map, h]; rfl
theorem isPath_ok {l : List Cv} (hl : l.length ≤ 1000) (h0 : 0 < l.length) (hv : ∀ c ∈ l, C0 53 [.d (dC c)] (· = .b true)) (he : ∀ (i : Nat) c d, l[i]? = some c → l[i + 1]? = some d → C0 96 [.d (dV c.B), .d (dV d.A)] (· = .b true)) :
 C0 46 [.d (dCs' l)] (· = .b true) := by
 refine En Tryz.func46 fun _ _ _ => ?_
 refine Lo (fun k : Nat => [(0, .d (dCs' l)), (5, .d (dCs' l)), (6, .d (.int .i64 (l.map dC).length)), (7, .d (.int .i64 k))]) (fun _ => []) (fun k => k ≤ l.length) (fun k => l.length - k) 0 [] rfl (Nat.zero_le _) fun k hk => ?_
 refine By rfl (fun h => ?_) fun h => ?_ <;> simp only [lC] at h
 · obtain ⟨c, hc⟩ : ∃ c, l[k]? = some c := ⟨_, List.getElem?_eq_getElem (by omega)⟩
   refine Ix k rfl (cAt hc) ?_
   refine Dw rfl ?_
   refine Ce rfl (hv c (List.mem_of_getElem? hc)) ?_
   refine No rfl (fun h => h rfl) ?_
   refine By rfl (fun h1 => ?_) fun h1 => ?_
   · obtain ⟨b, hb⟩ : ∃ b, l[k - 1]? = some b := ⟨_, List.getElem?_eq_getElem (by omega)⟩
     refine Ar (k - 1 : Nat) rfl ?_
     refine Ix (k - 1) rfl (cAt hb) ?_
     refine Ce rfl (he (k - 1) b c hb (by rw [show k - 1 + 1 = k by omega]; exact hc)) ?_
     refine No rfl (fun h => h rfl) ?_
     refine Ar (k + 1 : Nat) rfl ?_
     exact Bk (k + 1) [] rfl (by omega) (by show l.length - (k + 1) < l.length - k; omega)
   · refine Ar (k + 1 : Nat) rfl ?_
     exact Bk (k + 1) [] rfl (by omega) (by show l.length - (k + 1) < l.length - k; omega)
 · exact R1 rfl (by exact (show dc (((l.map dC).length : Int) > 0) = true by rw [dc_iff, lC]; omega) ▸ .rf rfl)
def FmW (d : Int) : Wv → List UInt8 → Prop
 | .mk s, t => t = s
 | .nu x, t => C0 48 [.d (dN x), .d (.int .i64 d)] (· = .tup (.pr (.d (.str t)) (.d (.int .i64 0))))
theorem lWv (l : List Wv) : (l.map dWv).length = l.length := List.length_map ..
theorem Path_ok {l : List Cv} {d : Int} {W : List Wv} {T : List (List UInt8)} (hd : 0 ≤ d ∧ d ≤ 20) (hp : C0 46 [.d (dCs' l)] (· = .b true)) (hw : C0 47 [.d (dCs' l)] (· = .tup (.pr (.d (dWs W)) (.d (.int .i64 0)))))
 (hW : W.length ≤ 100000) (hT : T.length = W.length) (hF : ∀ (i : Nat) w t, W[i]? = some w → T[i]? = some t → FmW d w t) (hj : (Lib.join T [32]).length ≤ 140737488355328) : C0 16 [.d (dCs' l), .d (.int .i64 d)] (· = .tup (.pr (.d (.str (Lib.join T [32]))) (.d (.int .i64 0)))) := by
 refine En Tryz.func16 fun _ _ _ => ?_
 refine No rfl (by omega) ?_
 refine No rfl (by omega) ?_
 refine Ce rfl hp ?_
 refine No rfl (fun h => h rfl) ?_
 refine Ce rfl hw ?_
 refine No rfl (by decide) ?_
 refine Nl 8 8 1 rfl ?_
 refine Lo (fun k : Nat => [(1, .d (.int .i64 d)), (8, .gr 8 1 ((T.take k).map .str)), (31, .d (dWs W)), (32, .d (.int .i64 (W.map dWv).length)), (33, .d (.int .i64 k))]) (fun k => [(8, .tok ((T.take k).map D.str).length 1)]) (fun k => k ≤ W.length) (fun k => W.length - k) 0 [] rfl (Nat.zero_le _) fun k hk => ?_
 refine By rfl (fun h => ?_) fun h => ?_ <;> simp only [lWv] at h
 · obtain ⟨w, hw1⟩ : ∃ w, W[k]? = some w := ⟨_, List.getElem?_eq_getElem (by omega)⟩
   obtain ⟨t, ht⟩ : ∃ t, T[k]? = some t := ⟨_, List.getElem?_eq_getElem (by omega)⟩
   have hf := hF k w t hw1 ht
   have hz : (T.take k).map D.str ++ [D.str t] = (T.take (k + 1)).map .str := by rw [List.take_add_one, ht]; simp
   refine Ix k rfl (u := dWv w) (by rw [List.getElem?_map, hw1]; rfl) ?_
   cases w with
   | mk s =>
    obtain rfl : t = s := hf
    refine No rfl nofun ?_
    refine ApG ((T.take (k + 1)).map .str) rfl hz (by simp; omega) ?_
    refine Ar (k + 1 : Nat) rfl ?_
    exact Bk (k + 1) [(8, 90), (54, 8)] rfl (by omega) (by show W.length - (k + 1) < W.length - k; omega)
   | nu x =>
    have hf : C0 48 [.d (dN x), .d (.int .i64 d)] (· = .tup (.pr (.d (.str t)) (.d (.int .i64 0)))) := hf
    refine Yes rfl rfl ?_
    refine Ce rfl hf ?_
    refine No rfl (by decide) ?_
    refine ApG ((T.take (k + 1)).map .str) rfl hz (by simp; omega) ?_
    refine Ar (k + 1 : Nat) rfl ?_
    exact Bk (k + 1) [(8, 90), (54, 8)] rfl (by omega) (by show W.length - (k + 1) < W.length - k; omega)
 · have e : T.take k = T := List.take_of_length_le (by omega)
   have hjn := Join_ok (l := T) (sep := [32]) (by omega) hj
   rw [e]
   refine Ce rfl hjn ?_
   exact R0t
end
section
def Qp (s : Nat) (p : Rat × Rat) : Prop := Qs s p.1 ∧ Qs s p.2
abbrev v0 (p : Rat × Rat) : Vn := ⟨⟨0, (), p.1⟩, ⟨0, (), p.2⟩⟩
theorem W0 : Wn (K := 0) () ([] : List (Tow.El 0)) [] := ⟨⟨trivial, Nat.zero_le _, fun {m T ρ} h => by
 have := h.le (show real 0 () from trivial)
 have e : m = 0 := by have h0 : ([] : List (Tow.El 0)).length = 0 := rfl; omega
 subst e
 trivial⟩, fun z hz => nomatch hz⟩
theorem g0 {q : Rat} (h : Qs 64 q) : Gd (K := 0) () [] [] 1 ⟨0, (), q⟩ q := Gd.rat W0 h
theorem gv0 {p : Rat × Rat} (h : Qp 64 p) : Gv (K := 0) () [] [] 1 (v0 p) p := ⟨g0 h.1, g0 h.2⟩
theorem zw {r p : Nat} {x : Nm} {v : Rat} (h : NOk (K := 0) () ([] : List (Tow.El 0)) r p x v) : x = ⟨0, (), v⟩ := by
 obtain ⟨ρ, h1, h2⟩ := h.ex
 obtain ⟨k, t, a⟩ := x
 have hk : k ≤ ([] : List (Tow.El 0)).length := h1.le (show real 0 () from trivial)
 obtain rfl : k = 0 := Nat.le_zero.1 hk
 have h2 : (a : Rat) = v := h2
 rw [← h2]
 cases t
 rfl
theorem gv_eq {n : Nat} {v : Vn} {p : Rat × Rat} (h : Gv (K := 0) () ([] : List (Tow.El 0)) [] n v p) : v = v0 p := by
 obtain ⟨x, y⟩ := v
 rw [show x = _ from zw h.x.o, show y = _ from zw h.y.o]
instance {p : Nat} {z : Int} : Decidable (Zs p z) := inferInstanceAs (Decidable (z.natAbs < 2 ^ p))
instance {p : Nat} {x : Rat} : Decidable (Qs p x) := decidable_of_iff (Zs p x.num ∧ Zs p x.den) ⟨fun h => ⟨h.1, h.2⟩, fun h => ⟨h.1, h.2⟩⟩
theorem Trim0_ok {q : Rat} (h : Qs 64 q) : P19.Trm ⟨0, (), q⟩ := by
 unfold P19.Trm
 refine En Tryz.func192 fun _ _ _ => ?_
 refine Ce rfl (P9.detach_ok (x := ⟨0, (), q⟩) (r := 1) (p := 65) trivial (Sz.rat 0 h) (show (0 : Nat) ≤ 16 by decide) (by decide) (by decide)) ?_
 refine Ar (-1 : Int) rfl ?_ (wr (show ((0 : Nat) : Int) - 1 = -1 by decide) (by simp only [inK]; omega))
 refine Lo (fun _ : Unit => [(1, .ptr 1 0), (2, .ptr 2 0), (3, .ptr 3 0)]) (fun _ => [(1, .var (.d (dN ⟨0, (), q⟩))), (2, .var (.st (.pr .nil .nil))), (3, .var (.d (.int .i64 (-1))))]) (fun _ => True) (fun _ => 0) () [] rfl trivial (fun _ _ => ?_)
 refine No rfl (by decide) ?_
 exact R0
end
section
def d2 (p q : Rat × Rat) : Rat := vdot (K := 0) () (vsub (K := 0) p q) (vsub (K := 0) p q)
abbrev nr (q : Rat) : Nm := ⟨0, (), q⟩
theorem one_sz : Sz 1000 (toL 1 (root 1 0)) := by
 have : Sz (1 * 2 + 1) (toL 1 (root 1 0)) := Sz.all (p := 1) (l := [(0 : Rat), 1]) fun x hx => by
  have hx : x ∈ [(0 : Rat), 1] := hx
  rcases List.mem_cons.1 hx with rfl | hx
  · exact ⟨show (0 : Int).natAbs < 2 ^ 1 by decide, show ((1 : Nat) : Int).natAbs < 2 ^ 1 by decide⟩
  · obtain rfl := List.mem_singleton.1 hx; exact ⟨show (1 : Int).natAbs < 2 ^ 1 by decide, show ((1 : Nat) : Int).natAbs < 2 ^ 1 by decide⟩
 exact this.mono (by decide)
theorem Sqrt_r {s : Rat} (h : Qs 200 s) (hs : 0 ≤ s) : C0 115 [.d (dN (nr s))] (R9.RtR (nr s)) := by
 have hS : Sz 201 (toL 0 (s : Tow.El 0)) := Sz.rat 0 h
 refine En Tryz.func115 fun _ _ _ => ?_
 refine Ca rfl (P8.Adjoin_ok (k := 0) (t := ()) (a := (s : Tow.El 0)) (r := 1) (p := 201) trivial hS trivial (by decide) (by decide +kernel) (by decide +kernel) (by decide +kernel) (by decide +kernel)) fun v hv => ?_
 rcases hv with ⟨h1, rfl⟩ | ⟨y, h1, h2, rfl⟩ | ⟨h1, h2, h3, rfl⟩
 · have h1 : sgnQ s < 0 := h1
   rcases sgnQ_tri s with ⟨_, e⟩ | ⟨_, e⟩ | ⟨e, _⟩
   · omega
   · omega
   · grind
 · refine No rfl (by simp) ?_
   have hy : Sz 1000 (toL 0 (y : Tow.El 0)) := (hS.rootS (k := 0) (r := 1) (t := ()) (s := (y : Tow.El 0)) trivial trivial h1).mono (by decide)
   refine Ce rfl (P9.detach_ok (x := ⟨0, (), y⟩) (r := 1) (p := 1000) trivial hy (show 0 ≤ 16 by decide) (by decide) (by decide)) ?_
   exact Rt rfl (.tup (.cons (.rf rfl) fitI)) ⟨⟨0, (), y⟩, rfl, .inl ⟨y, rfl, h1, h2⟩⟩
 · refine No rfl (by simp) ?_
   refine Ce rfl (P9.detach_ok (x := ⟨1, tsn () s, root 1 0⟩) (r := 201) (p := 1000) ⟨trivial, hS⟩ one_sz (show 1 ≤ 16 by decide) (by decide) (by decide)) ?_
   exact Rt rfl (.tup (.cons (.rf rfl) fitI)) ⟨⟨1, tsn () s, root 1 0⟩, rfl, .inr ⟨rfl, h1, h2⟩⟩
theorem radius_r {c : Cv} {p q : Rat × Rat} (hC : c.C = v0 p) (hA : c.A = v0 q) (hp : Qp 64 p) (hq : Qp 64 q) (hne : p ≠ q) (hs : Qs 200 (d2 q p)) (h0 : 0 ≤ d2 q p) : C0 54 [.d (dC c)] (R9.RtR (nr (d2 q p))) := by
 obtain ⟨arc, A, B, C, cw⟩ := c
 obtain rfl : C = v0 p := hC
 obtain rfl : A = v0 q := hA
 refine En Tryz.func54 fun _ _ _ => ?_
 refine Ca rfl (P15.Around_g W0 (gv0 hp) (gv0 hq) (Trim0_ok hp.1) (Trim0_ok hp.2) (by decide) hne) fun v hv => ?_
 obtain ⟨z, rfl, hz⟩ := hv
 obtain rfl := zw hz.o
 refine No rfl (by decide) ?_
 refine Ca rfl (Sqrt_r hs h0) fun v hv => ?_
 obtain ⟨z, rfl, hz⟩ := hv
 exact Rt rfl (.tup (.cons (.rf rfl) fitI)) ⟨z, rfl, hz⟩
def dirs (r m : Nm) : List Vn := [⟨r, n00⟩, ⟨n00, r⟩, ⟨m, n00⟩, ⟨n00, m⟩]
def sel : List Vn → List Bool → List Vn
 | x :: X, b :: B => if b then x :: sel X B else sel X B
 | _, _ => []
theorem sel_snoc {x : Vn} {b : Bool} : ∀ {X : List Vn} {B : List Bool}, X.length = B.length → sel (X ++ [x]) (B ++ [b]) = sel X B ++ (if b then [x] else [])
 | [], [], _ => by cases b <;> rfl
 | y :: X, c :: B, h => by
  have := sel_snoc (x := x) (b := b) (X := X) (B := B) (by simpa using h)
  simp only [List.cons_append, sel, this]
  cases c <;> simp
theorem sel_len : ∀ {X : List Vn} {B : List Bool}, (sel X B).length ≤ X.length
 | [], _ => by simp [sel]
 | _ :: _, [] => by simp [sel]
 | x :: X, b :: B => by
  have := sel_len (X := X) (B := B)
  simp only [sel]; split <;> simp <;> omega
def exA (e0 : List Vn) : Option (List Vn) → AV
 | none => .lit 4 (e0.map dV)
 | some w => .own 600 4 0 (w.map dV).length
def exH (c : Cv) : Option (List Vn) → Hpl
 | none => [(1, .var (.d (dC c)))]
 | some w => [(1, .var (.d (dC c))), (600, .arr 4 (w.map dV))]
def exW (e0 : List Vn) : Option (List Vn) → List Vn
 | none => e0
 | some w => w
theorem FromInt0_ok : C0 55 [.d (.int .i64 0)] (· = .d (dN n00)) := P9.FromInt_ok (z := 0) (by decide)
theorem extremes_arc {c : Cv} {r m : Nm} {X : List Vn} {B : List Bool} (h : c.arc = true) (hr : C0 54 [.d (dC c)] (· = .tup (.pr (.d (dN r)) (.d (.int .i64 0))))) (hm : C0 22 [.d (dN r)] (· = .d (dN m))) (hX : X.length = 4) (hB : B.length = 4)
 (hx : ∀ (i : Nat) d x b, (dirs r m)[i]? = some d → X[i]? = some x → B[i]? = some b → C0 56 [.d (dV c.C), .d (dV d)] (· = .tup (.pr (.d (dV x)) (.d (.int .i64 0)))) ∧ C0 57 [.d (dC c), .d (dV x)] (· = .b b)) :
 C0 21 [.d (dC c)] (· = .tup (.pr (.d (dVs ([c.A, c.B] ++ sel X B))) (.d (.int .i64 0)))) := by
 obtain ⟨arc, A, B', C, cw⟩ := c
 obtain rfl : arc = true := h
 refine En Tryz.func21 fun _ _ _ => ?_
 refine No rfl (fun h => h rfl) ?_
 refine Ce rfl hr ?_
 refine No rfl (by decide) ?_
 refine Ce rfl FromInt0_ok ?_
 refine Dw rfl ?_
 refine Ce rfl hm ?_
 refine Ce rfl hm ?_
 refine Lo (fun ((k, o) : Nat × Option (List Vn)) => [(1, .ptr 1 0), (4, exA [A, B'] o), (44, .lit 4 ((dirs r m).map dV)), (45, .d (.int .i64 4)), (46, .d (.int .i64 k))]) (fun (_, o) => exH ⟨true, A, B', C, cw⟩ o) (fun (k, o) => k ≤ 4 ∧ exW [A, B'] o = [A, B'] ++ sel (X.take k) (B.take k)) (fun (k, _) => 4 - k) (0, none) [] rfl ⟨Nat.zero_le _, by simp [exW, sel]⟩ ?_
 rintro ⟨k, o⟩ ⟨hk, hw⟩
 have hwl : (exW [A, B'] o).length ≤ 6 := by
  have hw : exW [A, B'] o = _ := hw
  rw [hw, List.length_append]
  have := sel_len (X := X.take k) (B := B.take k)
  rw [List.length_take] at this
  simp only [List.length_cons, List.length_nil]
  omega
 cases o with
 | none =>
  have hw : [A, B'] = [A, B'] ++ sel (X.take k) (B.take k) := hw
  refine By rfl (fun h => ?_) fun h => ?_
  · have h : (k : Int) < 4 := h
    obtain ⟨d, hd⟩ : ∃ d, (dirs r m)[k]? = some d := ⟨_, List.getElem?_eq_getElem (show k < 4 by omega)⟩
    obtain ⟨x, hxk⟩ : ∃ x, X[k]? = some x := ⟨_, List.getElem?_eq_getElem (by omega)⟩
    obtain ⟨b, hbk⟩ : ∃ b, B[k]? = some b := ⟨_, List.getElem?_eq_getElem (by omega)⟩
    obtain ⟨g1, g2⟩ := hx k d x b hd hxk hbk
    have hs : sel (X.take (k + 1)) (B.take (k + 1)) = sel (X.take k) (B.take k) ++ (if b then [x] else []) := by
     rw [List.take_add_one, List.take_add_one, hxk, hbk]; exact sel_snoc (by rw [List.length_take, List.length_take, hX, hB])
    refine Ix k rfl (u := dV d) (by rw [List.getElem?_map, hd]; rfl) ?_
    refine Ce rfl g1 ?_
    refine No rfl (by decide) ?_
    refine Ce rfl g2 ?_
    cases b with
    | false =>
     refine No rfl nofun ?_
     refine Ar (k + 1 : Nat) rfl ?_
     exact Bk (k + 1, none) [] rfl ⟨by omega, by rw [hs]; simpa [exW] using hw⟩ (by show 4 - (k + 1) < 4 - k; omega)
    | true =>
     refine Yes rfl rfl ?_
     refine ApL (([A, B'] ++ [x]).map dV) rfl rfl (Nat.zero_lt_succ _) (show 3 ≤ 1099511627776 by decide) ?_
     refine Ar (k + 1 : Nat) rfl ?_
     exact Bk (k + 1, some ([A, B'] ++ [x])) [(66, 600)] rfl ⟨by omega, by rw [hs, ← List.append_assoc, ← hw]; rfl⟩ (by show 4 - (k + 1) < 4 - k; omega)
  · have h : ¬ (k : Int) < 4 := h
    rw [List.take_of_length_le (by omega), List.take_of_length_le (by omega)] at hw
    exact RTt rfl (.cons (.lit (by rw [← hw])) fitI)
 | some w =>
  have hw : w = [A, B'] ++ sel (X.take k) (B.take k) := hw
  have hwl : w.length ≤ 6 := hwl
  refine By rfl (fun h => ?_) fun h => ?_
  · have h : (k : Int) < 4 := h
    obtain ⟨d, hd⟩ : ∃ d, (dirs r m)[k]? = some d := ⟨_, List.getElem?_eq_getElem (show k < 4 by omega)⟩
    obtain ⟨x, hxk⟩ : ∃ x, X[k]? = some x := ⟨_, List.getElem?_eq_getElem (by omega)⟩
    obtain ⟨b, hbk⟩ : ∃ b, B[k]? = some b := ⟨_, List.getElem?_eq_getElem (by omega)⟩
    obtain ⟨g1, g2⟩ := hx k d x b hd hxk hbk
    have hs : sel (X.take (k + 1)) (B.take (k + 1)) = sel (X.take k) (B.take k) ++ (if b then [x] else []) := by
     rw [List.take_add_one, List.take_add_one, hxk, hbk]; exact sel_snoc (by rw [List.length_take, List.length_take, hX, hB])
    refine Ix k rfl (u := dV d) (by rw [List.getElem?_map, hd]; rfl) ?_
    refine Ce rfl g1 ?_
    refine No rfl (by decide) ?_
    refine Ce rfl g2 ?_
    cases b with
    | false =>
     refine No rfl nofun ?_
     refine Ar (k + 1 : Nat) rfl ?_
     exact Bk (k + 1, some w) [] rfl ⟨by omega, by rw [hs]; simpa [exW] using hw⟩ (by show 4 - (k + 1) < 4 - k; omega)
    | true =>
     refine Yes rfl rfl ?_
     refine ApO ((w ++ [x]).map dV) rfl rfl rfl (by rw [List.map_append]; rfl) (by simp; omega) ?_
     refine Ar (k + 1 : Nat) rfl ?_
     exact Bk (k + 1, some (w ++ [x])) [(600, 900), (66, 600)] rfl ⟨by omega, by rw [hs, ← List.append_assoc, ← hw]; rfl⟩ (by show 4 - (k + 1) < 4 - k; omega)
  · have h : ¬ (k : Int) < 4 := h
    rw [List.take_of_length_le (by omega), List.take_of_length_le (by omega)] at hw
    exact RTt rfl (.cons (.own rfl (by rw [Nat.zero_add]; exact Nat.le_refl _) (by rw [List.drop_zero, List.take_length, hw])) fitI)
end
end Go.Proofs.YtpgcfjpkilabfaaGreatDoor.P55
