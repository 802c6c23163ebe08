/- Numbers: a root is taken. -/
import Derived.Test.YtfmgfaeheljpcaaGreatYTO
set_option linter.unusedVariables false
set_option linter.unusedSimpArgs false
namespace Go.Tow
open Go Go.Num Go.Proofs.YtfmgfaeheljpcaaGreat
variable {K : Nat} {G : Tw K} {ρ : Nat → El K} {S : List (El K)} {r p : Nat} {x : Nm} {v : El K}
theorem TOk.sub {k : Nat} {t : Tw k} {S' : List (El K)} (h : TOk G S k t ρ) (hs : ∀ s ∈ S, s ∈ S') : TOk G S' k t ρ := ⟨h.r, h.h, fun i hi => hs _ (h.s i hi)⟩
theorem NOk.sub {S' : List (El K)} (h : NOk G S r p x v) (hs : ∀ s ∈ S, s ∈ S') : NOk G S' r p x v := by
  obtain ⟨ρ, h1, h2⟩ := h.ex
  exact ⟨⟨ρ, h1.sub hs, h2⟩, h.r, h.p⟩
theorem NOk.tsn (hG : real K G) {w : El K} (h : NOk G S r p x v) : NOk (Tow.tsn G w) (S.map (up K)) r p x (up K v) := by
  obtain ⟨ρ, h1, h2⟩ := h.ex
  exact ⟨⟨_, ⟨h1.r, h1.h.tsn hG, fun i hi => List.mem_map.2 ⟨_, h1.s i hi, rfl⟩⟩, by rw [ev_tsn, h2]⟩, h.r, h.p⟩
theorem _root_.Go.Proofs.YtfmgfaeheljpcaaGreat.TS.of {r : Nat} {k : Nat} : ∀ {t : Tw k}, (∀ (i : Nat) l, (toT k t)[i]? = some l → Sz r l) → TS r k t := by
  induction k with
  | zero => intro t _; trivial
  | succ k ih =>
    intro t h
    have hl := toT_length k t.1
    refine ⟨ih fun i l hi => h i l ?_, h k _ ?_⟩
    · show (toT k t.1 ++ [toL k t.2])[i]? = _
      rw [List.getElem?_append_left (List.getElem?_eq_some_iff.1 hi).1, hi]
    · show (toT k t.1 ++ [toL k t.2])[k]? = _
      rw [List.getElem?_append_right (by omega), hl, Nat.sub_self]; rfl
/-- a world for a list of numbers: a great tower, and at most n roots -/
def Wld (n : Nat) (l : List Nm) (P : ∀ {K : Nat}, Tw K → List (El K) → Prop) : Prop := ∃ (K : Nat) (G : Tw K) (S : List (El K)), red K G ∧ S.length ≤ n ∧ SqOk G S 300 600 ∧ (∀ y ∈ l, ∃ v, NOk G S 300 600 y v) ∧ P G S
/-- a new root: its square may be there already -/
theorem root_world {n : Nat} {l : List Nm} (hG : red K G) (hS : S.length ≤ n) (hq : SqOk G S 300 600) (hl : ∀ y ∈ l, ∃ v, NOk G S 300 600 y v) {k : Nat} {t : Tw k} {a : El k} (ht : TOk G S k t ρ) (h3 : TS 300 k t) (h6 : Sz 600 (toL k a)) (h0 : 0 ≤ sgn k t a) (hn : ¬ isSq k t a) (hT : TS r (k + 1) (tsn t a)) (hr : Sz p (toL (k + 1) (root (k + 1) k))) :
    Wld (n + 1) l fun G S => ∃ v, NOk G S r p ⟨k + 1, tsn t a, root (k + 1) k⟩ v := by
  have hGr := red_real hG
  have L := ring K G
  have Sg := sgn_ok hGr
  have ha0 : a ≠ zero k := fun e => hn ⟨zero k, by rw [e, (ring k t).mz]⟩
  have h1 : sgn k t a = 1 := by
    rcases sgn_tri t a with h | h | h
    · exact h
    · exact absurd ((red_zero ht.r).1 h) ha0
    · omega
  have hv : sgn K G (ev G ρ k a) = 1 := by rw [ev_sgn hGr ht.h]; exact h1
  by_cases hs : isSq K G (ev G ρ k a)
  · obtain ⟨s, hs⟩ := hs
    obtain ⟨s, hs, hp⟩ : ∃ s, mul K G s s = ev G ρ k a ∧ sgn K G s = 1 := by
      rcases sgn_tri G s with h | h | h
      · exact ⟨s, hs, h⟩
      · rw [← hs, Sg.sm, h] at hv; cases hv
      · exact ⟨neg K s, by rw [L.mn, L.nm, L.nn, hs], by rw [Sg.sn, h]; rfl⟩
    have hsub : ∀ y ∈ S, y ∈ s :: S := fun y h => List.mem_cons_of_mem _ h
    refine ⟨K, G, s :: S, hG, by simp; omega, fun g hg => ?_, fun y hy => (hl y hy).elim fun v h => ⟨v, h.sub hsub⟩, _, ⟨_, (ht.sub hsub).snoc hGr hn (List.mem_cons_self ..) hs hp, rfl⟩, hT, hr⟩
    rcases List.mem_cons.1 hg with rfl | hg
    · exact ⟨⟨k, t, a⟩, ⟨_, ht.sub hsub, hs.symm⟩, h3, h6⟩
    · obtain ⟨z, hz⟩ := hq g hg
      exact ⟨z, hz.sub hsub⟩
  · have hG' : red (K + 1) (tsn G (ev G ρ k a)) := ⟨hG, hv, hs⟩
    have hm : ∀ y ∈ S.map (up K), y ∈ rt1 K :: S.map (up K) := fun y h => List.mem_cons_of_mem _ h
    have hto : TOk (tsn G (ev G ρ k a)) (rt1 K :: S.map (up K)) k t (fun i => up K (ρ i)) := ⟨ht.r, ht.h.tsn hGr, fun i hi => hm _ (List.mem_map.2 ⟨_, ht.s i hi, rfl⟩)⟩
    refine ⟨K + 1, tsn G (ev G ρ k a), rt1 K :: S.map (up K), hG', by simp; omega, fun g hg => ?_, fun y hy => (hl y hy).elim fun v h => ⟨_, (h.tsn hGr).sub hm⟩, _, ⟨_, hto.snoc (red_real hG') hn (List.mem_cons_self ..) (s := rt1 K) ?_ ?_, rfl⟩, hT, hr⟩
    · rcases List.mem_cons.1 hg with rfl | hg
      · exact ⟨⟨k, t, a⟩, ⟨_, hto, by rw [ev_tsn]; exact (rt1_sq (t := Tow.tsn G (ev G ρ k a))).symm⟩, h3, h6⟩
      · obtain ⟨g', hg', rfl⟩ := List.mem_map.1 hg
        obtain ⟨z, hz⟩ := hq g' hg'
        exact ⟨z, by rw [mul_up]; exact (hz.tsn hGr).sub hm⟩
    · rw [ev_tsn]; exact rt1_sq
    · exact sgn_rt1 (t := tsn G (ev G ρ k a)) hGr
end Go.Tow
