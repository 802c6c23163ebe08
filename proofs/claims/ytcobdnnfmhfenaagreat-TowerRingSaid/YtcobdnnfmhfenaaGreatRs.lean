/- A statement whose order Go leaves open, a short one: every order is walked. -/
import Derived.Test.YtcobdnnfmhfenaaGreatRp
set_option linter.unusedVariables false
set_option linter.unusedSimpArgs false
namespace Go.Rx
open Go

/-- all orders that the edges allow -/
def lins (L : List Oper) : Nat → Array Bool → List (List Nat)
  | 0, _ => [[]]
  | f + 1, ls => match rdy L ls with
    | [] => [[]]
    | r => r.flatMap fun i => (lins L f (ls.setIfInBounds i true)).map (i :: ·)
theorem go_lins (L : List Oper) : ∀ (f t : Nat) (ls : Array Bool), Region.linearise.go .any L.toArray f t ls [] ∈ lins L f ls := by
  intro f
  induction f with
  | zero => intro t ls; simp [Region.linearise.go, lins]
  | succ f ih =>
    intro t ls
    have hgo : Region.linearise.go .any L.toArray (f + 1) t ls [] = match (rdy L ls)[t % (rdy L ls).length]? with | some i => Region.linearise.go .any L.toArray f (t / (rdy L ls).length) (ls.setIfInBounds i true) [i] | none => [] := rfl
    rw [hgo, lins]
    cases hr : rdy L ls with
    | nil => simp
    | cons x r =>
      have hpos : 0 < (x :: r).length := by simp
      rw [List.getElem?_eq_getElem (Nat.mod_lt t hpos)]
      simp only []
      rw [go_acc]
      refine List.mem_flatMap.2 ⟨_, List.getElem_mem (Nat.mod_lt t hpos), List.mem_map.2 ⟨_, ih _ _, rfl⟩⟩

section
variable {P : Program} {n : Nat} {K : List Kt} {fin : Exit → Act → World → Prop} {env : Env} {W : GW}
def AllS : List (List Nat) → (List Nat → Prop) → Prop
  | [], _ => True
  | s :: l, f => f s ∧ AllS l f
theorem AllS.get {f : List Nat → Prop} : ∀ {l : List (List Nat)}, AllS l f → ∀ s ∈ l, f s
  | [], _, _, h => nomatch h
  | s :: l, ⟨h1, h2⟩, x, h => by
    rcases List.mem_cons.1 h with h | h
    · subst h; exact h1
    · exact h2.get x h
def pickL (L : List Oper) : List Nat → List Oper
  | [] => []
  | i :: s => match L[i]? with
    | some o => o :: pickL L s
    | none => []
def inL (L : List Oper) (s : List Nat) : Bool := s.all fun i => Nat.blt i L.length
theorem wpOps_pick {L : List Oper} {Q : Exit → Act → World → Prop} : ∀ (s : List Nat), inL L s = true → ∀ a w, wpL P L.toArray Q (pickL L s) a w → wpOps P L.toArray Q s a w := by
  intro s
  induction s with
  | nil => intro _ a w h; exact h
  | cons i s ih =>
    intro hin a w h
    simp only [inL, List.all_cons, Bool.and_eq_true] at hin
    have hi : i < L.length := by simpa using hin.1
    have ho : L[i]? = some L[i] := List.getElem?_eq_getElem hi
    have ho' : L.toArray[i]? = some L[i] := by simp
    simp only [pickL, ho, wpL] at h
    simp only [wpOps, ho']
    split
    · rename_i hw
      rw [if_pos hw] at h
      exact .inl (Oper.wp_mono2 (fun a' w' h => ih hin.2 a' w' h) (fun e a' w' _ h => h) h)
    · rename_i hw
      rw [if_neg hw] at h
      exact ih hin.2 _ _ h
theorem J.perm [mx : Mx P] {id : Nat} {L : List Oper} (ss : List (List Nat)) (hs : lins L L.length (Array.replicate L.length false) = ss) (hk : (ss.all fun s => inL L s && opsOk n (pickL L s)) = true)
    (h : ∀ W1, Lk1 W W1 → Ext W W1 → AllS ss fun s => JO P n L.toArray (pickL L s) K fin env W1) : J P n (.c (.region id L.toArray true) :: K) fin env W := by
  intro a ha
  refine wp_region_draw fun t => ?_
  have hsc : Region.schedule (P.follows .mixedOrders) L.toArray t = Region.linearise.go .any L.toArray L.length t (Array.replicate L.length false) [] := by
    rw [mx.h]
    simp [Region.schedule, Region.linearise]
  rw [hsc]
  have hm := go_lins L L.length t (Array.replicate L.length false)
  rw [hs] at hm
  have h1 := (h W.tick ⟨(tick_ext W).toLeK⟩ (tick_ext W)).get _ hm
  have h2 := List.all_eq_true.1 hk _ hm
  rw [Bool.and_eq_true] at h2
  exact wpOps_pick _ h2.1 a _ (h1 h2.2 a ha)
end
end Go.Rx
