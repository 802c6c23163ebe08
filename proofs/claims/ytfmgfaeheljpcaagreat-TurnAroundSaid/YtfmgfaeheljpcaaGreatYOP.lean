/- Directions: products and order of their values. -/
import Derived.Test.YtfmgfaeheljpcaaGreatYTC
set_option linter.unusedVariables false
set_option linter.unusedSimpArgs false
namespace Go.Tow
open Go
/-- the value of a direction -/
abbrev V2 (K : Nat) := El K × El K
section
variable {K : Nat} {G : Tw K} {p q : V2 K}
def vdot (G : Tw K) (p q : V2 K) : El K := add K (mul K G p.1 q.1) (mul K G p.2 q.2)
def vcross (G : Tw K) (p q : V2 K) : El K := vdot G (neg K p.2, p.1) q
def vmul (G : Tw K) (p q : V2 K) : V2 K := (add K (mul K G p.1 q.1) (neg K (mul K G p.2 q.2)), add K (mul K G p.1 q.2) (mul K G p.2 q.1))
def vcon (p : V2 K) : V2 K := (p.1, neg K p.2)
def vz (K : Nat) : V2 K := (zero K, zero K)
/-- the angle is less than half a turn -/
def vup (G : Tw K) (p : V2 K) : Prop := 0 < sgn K G p.2 ∨ (sgn K G p.2 = 0 ∧ 0 < sgn K G p.1)
instance : Decidable (vup G p) := by unfold vup; infer_instance
def vflat (G : Tw K) (p : V2 K) : Prop := sgn K G p.2 = 0 ∧ 0 < sgn K G p.1
instance : Decidable (vflat G p) := by unfold vflat; infer_instance
/-- the order of the angles -/
def vcmp (G : Tw K) (p q : V2 K) : Int := if vup G p ↔ vup G q then - sgn K G (vcross G p q) else if vup G p then -1 else 1
theorem vmul_x : vdot G (vcon p) q = (vmul G p q).1 := by
  have L := ring K G
  show add K (mul K G p.1 q.1) (mul K G (neg K p.2) q.2) = add K (mul K G p.1 q.1) (neg K (mul K G p.2 q.2))
  rw [L.nm]
theorem vmul_y : vcross G (vcon p) q = (vmul G p q).2 := by
  have L := ring K G
  show add K (mul K G (neg K (neg K p.2)) q.1) (mul K G p.1 q.2) = add K (mul K G p.1 q.2) (mul K G p.2 q.1)
  rw [L.nn, L.ac]
theorem vz_iff (hG : red K G) : p = vz K ↔ sgn K G p.1 = 0 ∧ sgn K G p.2 = 0 := by
  rw [red_zero hG, red_zero hG]
  exact ⟨fun h => by rw [h]; exact ⟨rfl, rfl⟩, fun h => Prod.ext h.1 h.2⟩
theorem vsq (hG : red K G) (h : sgn K G (vdot G p p) = 0) : p = vz K := by
  have Sg := sgn_ok (red_real hG)
  have h1 := sq_tri (Sg.tri p.1)
  have h2 := sq_tri (Sg.tri p.2)
  rw [vz_iff hG]
  have e1 := Sg.sm p.1 p.1
  have e2 := Sg.sm p.2 p.2
  have L := ring K G
  by_cases a1 : sgn K G p.1 = 0
  · refine ⟨a1, Classical.byContradiction fun a2 => ?_⟩
    have := Sg.sp (mul K G p.2 p.2) (mul K G p.1 p.1) (by rw [e2]; exact h2.2.1 a2) (by rw [e1]; exact h1.1)
    rw [L.ac] at this
    rw [show add K (mul K G p.1 p.1) (mul K G p.2 p.2) = vdot G p p from rfl, h] at this
    cases this
  · have := Sg.sp (mul K G p.1 p.1) (mul K G p.2 p.2) (by rw [e1]; exact h1.2.1 a1) (by rw [e2]; exact h2.1)
    rw [show add K (mul K G p.1 p.1) (mul K G p.2 p.2) = vdot G p p from rfl, h] at this
    cases this
theorem vmul_sq : vdot G (vmul G p q) (vmul G p q) = mul K G (vdot G p p) (vdot G q q) := by
  obtain ⟨a, b⟩ := p
  obtain ⟨c, d⟩ := q
  have L := ring K G
  exact (Laws.req L [a, b, c, d] (.add (.mul (.add (.mul (.v 0) (.v 2)) (.neg (.mul (.v 1) (.v 3)))) (.add (.mul (.v 0) (.v 2)) (.neg (.mul (.v 1) (.v 3))))) (.mul (.add (.mul (.v 0) (.v 3)) (.mul (.v 1) (.v 2))) (.add (.mul (.v 0) (.v 3)) (.mul (.v 1) (.v 2))))) (.mul (.add (.mul (.v 0) (.v 0)) (.mul (.v 1) (.v 1))) (.add (.mul (.v 2) (.v 2)) (.mul (.v 3) (.v 3)))) (by decide +kernel))
theorem vmul_ne (hG : red K G) (hp : p ≠ vz K) (hq : q ≠ vz K) : vmul G p q ≠ vz K := fun h => by
  have Sg := sgn_ok (red_real hG)
  have L := ring K G
  have h0 : sgn K G (vdot G (vmul G p q) (vmul G p q)) = 0 := by
    rw [h]
    show sgn K G (add K (mul K G (zero K) (zero K)) (mul K G (zero K) (zero K))) = 0
    rw [L.mz, L.az, red_zero hG]
  rw [vmul_sq, Sg.sm] at h0
  rcases Int.mul_eq_zero.1 h0 with h | h
  · exact hp (vsq hG h)
  · exact hq (vsq hG h)
theorem vcmp_self (hG : red K G) : vcmp G p p = 0 := by
  obtain ⟨a, b⟩ := p
  have L := ring K G
  unfold vcmp
  rw [if_pos Iff.rfl, show vcross G (a, b) (a, b) = zero K from (Laws.req L [a, b] (.add (.mul (.neg (.v 1)) (.v 0)) (.mul (.v 0) (.v 1))) .z (by decide +kernel)), (sgn_ok (red_real hG)).s0 L]
  rfl
/-- order against the direction of 1 -/
theorem vflat_iff (hG : red K G) : vcmp G p (rat K 1, zero K) = 0 ↔ vflat G p := by
  obtain ⟨a, b⟩ := p
  have L := ring K G
  have Sg := sgn_ok (red_real hG)
  have h1 : vup G ((rat K 1, zero K) : V2 K) := .inr ⟨Sg.s0 L, by show 0 < sgn K G (rat K 1); rw [Sg.s1]; decide⟩
  have hc : vcross G (a, b) (rat K 1, zero K) = neg K b := (Laws.req L [a, b] (.add (.mul (.neg (.v 1)) .o) (.mul (.v 0) .z)) (.neg (.v 1)) (by decide +kernel))
  unfold vcmp vflat
  by_cases hu : vup G (a, b)
  · rw [if_pos (show vup G (a, b) ↔ vup G (rat K 1, zero K) from ⟨fun _ => h1, fun _ => hu⟩), hc, Sg.sn]
    show - -sgn K G b = 0 ↔ sgn K G b = 0 ∧ 0 < sgn K G a
    have hu : 0 < sgn K G b ∨ (sgn K G b = 0 ∧ 0 < sgn K G a) := hu
    omega
  · rw [if_neg (show ¬ (vup G (a, b) ↔ vup G (rat K 1, zero K)) from fun h => hu (h.2 h1)), if_neg hu]
    exact ⟨fun h => absurd h (by decide), fun h => absurd (show vup G (a, b) from .inr h) hu⟩
/-- turns: a direction and full turns -/
def vadd (G : Tw K) (p q : V2 K) (f g : Int) : Int := if vcmp G (vmul G p q) p < 0 then f + g + 1 else f + g
end
end Go.Tow
