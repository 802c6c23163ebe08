/- Directions: angles add up like numbers, their order respects sums. -/
import Derived.Test.YtfmgfaeheljpcaaGreatYOP
set_option linter.unusedVariables false
set_option linter.unusedSimpArgs false
namespace Go.Tow
open Go
section
variable {K : Nat} {G : Tw K} {p q r u x y w z : V2 K}
def vneg (p : V2 K) : V2 K := (neg K p.1, neg K p.2)
theorem vcr_self : vcross G p (vmul G p q) = mul K G (vdot G p p) q.2 := by
  obtain ⟨a, b⟩ := p
  obtain ⟨c, d⟩ := q
  have L := ring K G
  exact (Laws.req L [a, b, c, d] (.add (.mul (.neg (.v 1)) (.add (.mul (.v 0) (.v 2)) (.neg (.mul (.v 1) (.v 3))))) (.mul (.v 0) (.add (.mul (.v 0) (.v 3)) (.mul (.v 1) (.v 2))))) (.mul (.add (.mul (.v 0) (.v 0)) (.mul (.v 1) (.v 1))) (.v 3)) (by decide +kernel))
theorem vcr_mul : vcross G (vmul G p r) (vmul G q r) = mul K G (vdot G r r) (vcross G p q) := by
  obtain ⟨a, b⟩ := p
  obtain ⟨c, d⟩ := q
  obtain ⟨e, f⟩ := r
  have L := ring K G
  exact (Laws.req L [a, b, c, d, e, f] (.add (.mul (.neg (.add (.mul (.v 0) (.v 5)) (.mul (.v 1) (.v 4)))) (.add (.mul (.v 2) (.v 4)) (.neg (.mul (.v 3) (.v 5))))) (.mul (.add (.mul (.v 0) (.v 4)) (.neg (.mul (.v 1) (.v 5)))) (.add (.mul (.v 2) (.v 5)) (.mul (.v 3) (.v 4))))) (.mul (.add (.mul (.v 4) (.v 4)) (.mul (.v 5) (.v 5))) (.add (.mul (.neg (.v 1)) (.v 2)) (.mul (.v 0) (.v 3)))) (by decide +kernel))
theorem vcr_anti : vcross G q p = neg K (vcross G p q) := by
  obtain ⟨a, b⟩ := p
  obtain ⟨c, d⟩ := q
  have L := ring K G
  exact (Laws.req L [a, b, c, d] (.add (.mul (.neg (.v 3)) (.v 0)) (.mul (.v 2) (.v 1))) (.neg (.add (.mul (.neg (.v 1)) (.v 2)) (.mul (.v 0) (.v 3)))) (by decide +kernel))
theorem vcr_tr : mul K G q.2 (vcross G p r) = add K (mul K G r.2 (vcross G p q)) (mul K G p.2 (vcross G q r)) := by
  obtain ⟨a, b⟩ := p
  obtain ⟨c, d⟩ := q
  obtain ⟨e, f⟩ := r
  have L := ring K G
  exact (Laws.req L [a, b, c, d, e, f] (.mul (.v 3) (.add (.mul (.neg (.v 1)) (.v 4)) (.mul (.v 0) (.v 5)))) (.add (.mul (.v 5) (.add (.mul (.neg (.v 1)) (.v 2)) (.mul (.v 0) (.v 3)))) (.mul (.v 1) (.add (.mul (.neg (.v 3)) (.v 4)) (.mul (.v 2) (.v 5))))) (by decide +kernel))
theorem vmul_comm : vmul G p q = vmul G q p := by
  obtain ⟨a, b⟩ := p
  obtain ⟨c, d⟩ := q
  have L := ring K G
  exact Prod.ext (Laws.req L [a, b, c, d] (.add (.mul (.v 0) (.v 2)) (.neg (.mul (.v 1) (.v 3)))) (.add (.mul (.v 2) (.v 0)) (.neg (.mul (.v 3) (.v 1)))) (by decide +kernel)) (Laws.req L [a, b, c, d] (.add (.mul (.v 0) (.v 3)) (.mul (.v 1) (.v 2))) (.add (.mul (.v 2) (.v 1)) (.mul (.v 3) (.v 0))) (by decide +kernel))
theorem vmul_assoc : vmul G (vmul G p q) r = vmul G p (vmul G q r) := by
  obtain ⟨a, b⟩ := p
  obtain ⟨c, d⟩ := q
  obtain ⟨e, f⟩ := r
  have L := ring K G
  exact Prod.ext (Laws.req L [a, b, c, d, e, f] (.add (.mul (.add (.mul (.v 0) (.v 2)) (.neg (.mul (.v 1) (.v 3)))) (.v 4)) (.neg (.mul (.add (.mul (.v 0) (.v 3)) (.mul (.v 1) (.v 2))) (.v 5)))) (.add (.mul (.v 0) (.add (.mul (.v 2) (.v 4)) (.neg (.mul (.v 3) (.v 5))))) (.neg (.mul (.v 1) (.add (.mul (.v 2) (.v 5)) (.mul (.v 3) (.v 4)))))) (by decide +kernel)) (Laws.req L [a, b, c, d, e, f] (.add (.mul (.add (.mul (.v 0) (.v 2)) (.neg (.mul (.v 1) (.v 3)))) (.v 5)) (.mul (.add (.mul (.v 0) (.v 3)) (.mul (.v 1) (.v 2))) (.v 4))) (.add (.mul (.v 0) (.add (.mul (.v 2) (.v 5)) (.mul (.v 3) (.v 4)))) (.mul (.v 1) (.add (.mul (.v 2) (.v 4)) (.neg (.mul (.v 3) (.v 5)))))) (by decide +kernel))
theorem vneg_mul : vmul G (vneg p) q = vneg (vmul G p q) := by
  obtain ⟨a, b⟩ := p
  obtain ⟨c, d⟩ := q
  have L := ring K G
  exact Prod.ext (Laws.req L [a, b, c, d] (.add (.mul (.neg (.v 0)) (.v 2)) (.neg (.mul (.neg (.v 1)) (.v 3)))) (.neg (.add (.mul (.v 0) (.v 2)) (.neg (.mul (.v 1) (.v 3))))) (by decide +kernel)) (Laws.req L [a, b, c, d] (.add (.mul (.neg (.v 0)) (.v 3)) (.mul (.neg (.v 1)) (.v 2))) (.neg (.add (.mul (.v 0) (.v 3)) (.mul (.v 1) (.v 2)))) (by decide +kernel))
theorem vneg_cr : vcross G (vneg p) q = neg K (vcross G p q) := by
  obtain ⟨a, b⟩ := p
  obtain ⟨c, d⟩ := q
  have L := ring K G
  exact (Laws.req L [a, b, c, d] (.add (.mul (.neg (.neg (.v 1))) (.v 2)) (.mul (.neg (.v 0)) (.v 3))) (.neg (.add (.mul (.neg (.v 1)) (.v 2)) (.mul (.v 0) (.v 3)))) (by decide +kernel))
theorem vneg_vneg (G : Tw K) {p : V2 K} : vneg (vneg p) = p := Prod.ext ((ring K G).nn _) ((ring K G).nn _)
theorem mul_vneg : vmul G p (vneg q) = vneg (vmul G p q) := by rw [vmul_comm, vneg_mul, vmul_comm]
theorem cr_vneg : vcross G p (vneg q) = neg K (vcross G p q) := by rw [vcr_anti, vneg_cr, ← vcr_anti]
theorem vdot_pos (hG : red K G) (hp : p ≠ vz K) : sgn K G (vdot G p p) = 1 := by
  have Sg := sgn_ok (red_real hG)
  have h1 := (sq_tri (Sg.tri p.1)).1
  have h2 := (sq_tri (Sg.tri p.2)).1
  have h3 := Sg.sa (mul K G p.1 p.1) (mul K G p.2 p.2) (by rw [Sg.sm]; exact h1) (by rw [Sg.sm]; exact h2)
  have h3 : 0 ≤ sgn K G (vdot G p p) := h3
  rcases Sg.tri (vdot G p p) with h | h | h
  · exact h
  · exact absurd (vsq hG h) hp
  · omega
theorem vup_neg (hG : red K G) (hp : p ≠ vz K) : vup G (vneg p) ↔ ¬ vup G p := by
  have Sg := sgn_ok (red_real hG)
  have h0 : ¬ (sgn K G p.1 = 0 ∧ sgn K G p.2 = 0) := fun h => hp ((vz_iff hG).2 h)
  have h1 := Sg.tri p.1
  have h2 := Sg.tri p.2
  unfold vup vneg
  simp only [Sg.sn]
  omega
theorem vup_le (h : vup G p) : 0 ≤ sgn K G p.2 := by unfold vup at h; omega
theorem vup_ne (hG : red K G) (h : vup G p) : p ≠ vz K := fun e => by
  have := (vz_iff hG).1 e
  unfold vup at h
  omega
/-- angles below half a turn: the order is transitive -/
theorem vup_tr (hG : red K G) (hp : vup G p) (hq : vup G q) (hr : vup G r) (h1 : 0 ≤ sgn K G (vcross G p q)) (h2 : 0 ≤ sgn K G (vcross G q r)) : 0 ≤ sgn K G (vcross G p r) := by
  have Sg := sgn_ok (red_real hG)
  have L := ring K G
  have yp := vup_le hp
  have yr := vup_le hr
  have h := congrArg (sgn K G) (vcr_tr (G := G) (p := p) (q := q) (r := r))
  have h3 := Sg.sa (mul K G r.2 (vcross G p q)) (mul K G p.2 (vcross G q r)) (by rw [Sg.sm]; exact Int.mul_nonneg yr h1) (by rw [Sg.sm]; exact Int.mul_nonneg yp h2)
  rw [← h, Sg.sm] at h3
  rcases hq with hq | ⟨hq, hx⟩
  · have : sgn K G q.2 = 1 := by have := Sg.tri q.2; omega
    rw [this, Int.one_mul] at h3
    exact h3
  · have hx : sgn K G q.1 = 1 := by have := Sg.tri q.1; omega
    have z2 := (red_zero hG).1 hq
    have e1 : vcross G p q = neg K (mul K G p.2 q.1) := by
      show add K (mul K G (neg K p.2) q.1) (mul K G p.1 q.2) = _
      rw [z2, L.mz, L.az, L.nm]
    rw [e1, Sg.sn, Sg.sm, hx, Int.mul_one] at h1
    have y0 : sgn K G p.2 = 0 := by omega
    have zp := (red_zero hG).1 y0
    have e2 : vcross G p r = mul K G p.1 r.2 := by
      show add K (mul K G (neg K p.2) r.1) (mul K G p.1 r.2) = _
      rw [zp, L.nz, L.zm, L.za]
    rw [e2, Sg.sm]
    exact Int.mul_nonneg (by unfold vup at hp; omega) yr
/-- a positive number turns nothing -/
theorem vup_flat (hG : red K G) (hp : vup G p) (hq : vup G q) (h : sgn K G p.2 = 0) : vup G (vmul G p q) := by
  have Sg := sgn_ok (red_real hG)
  have L := ring K G
  have hx : sgn K G p.1 = 1 := by have := Sg.tri p.1; unfold vup at hp; omega
  have z2 := (red_zero hG).1 h
  have e1 : (vmul G p q).1 = mul K G p.1 q.1 := by
    show add K (mul K G p.1 q.1) (neg K (mul K G p.2 q.2)) = _
    rw [z2, L.zm, L.nz, L.az]
  have e2 : (vmul G p q).2 = mul K G p.1 q.2 := by
    show add K (mul K G p.1 q.2) (mul K G p.2 q.1) = _
    rw [z2, L.zm, L.az]
  unfold vup
  rw [e1, e2, Sg.sm, Sg.sm, hx, Int.one_mul, Int.one_mul]
  exact hq
/-- a smaller angle with the same added -/
theorem vup_mono (hG : red K G) (hx : vup G x) (hy : vup G y) (hw : vup G w) (h : 0 ≤ sgn K G (vcross G x y)) (hyw : vup G (vmul G y w)) : vup G (vmul G x w) := Classical.byContradiction fun hn => by
  have Sg := sgn_ok (red_real hG)
  have L := ring K G
  have xw := vmul_ne hG (vup_ne hG hx) (vup_ne hG hw)
  have hB := (vup_neg hG xw).2 hn
  have w2 := vdot_pos hG (vup_ne hG hw)
  have key : ∀ s : V2 K, sgn K G (vcross G w (vmul G s w)) = sgn K G s.2 := fun s => by rw [vmul_comm, vcr_self, Sg.sm, w2, Int.one_mul]
  have c1 : 0 ≤ sgn K G (vcross G (vneg (vmul G x w)) w) := by
    rw [vcr_anti, cr_vneg, Sg.sn, Sg.sn, key]
    have := vup_le hx; omega
  have c2 : 0 ≤ sgn K G (vcross G (vmul G y w) (vneg (vmul G x w))) := by
    rw [cr_vneg, vcr_anti, Sg.sn, Sg.sn, vcr_mul, Sg.sm, w2, Int.one_mul]
    omega
  have c3 := vup_tr hG hyw hB hw c2 c1
  rw [vcr_anti, Sg.sn, key] at c3
  have y0 : sgn K G y.2 = 0 := by have := vup_le hy; omega
  have z2 := (red_zero hG).1 y0
  have e1 : vcross G x y = neg K (mul K G x.2 y.1) := by
    show add K (mul K G (neg K x.2) y.1) (mul K G x.1 y.2) = _
    rw [z2, L.mz, L.az, L.nm]
  have yx : sgn K G y.1 = 1 := by have := Sg.tri y.1; unfold vup at hy; omega
  rw [e1, Sg.sn, Sg.sm, yx, Int.mul_one] at h
  have x0 : sgn K G x.2 = 0 := by have := vup_le hx; omega
  exact hn (vup_flat hG hx hw x0)
/-- half turns in an angle -/
def vh (G : Tw K) (p : V2 K) : Int := if vup G p then 0 else 1
/-- what is above the half turns -/
def vpos (G : Tw K) (p : V2 K) : V2 K := if vup G p then p else vneg p
/-- the half turn that a sum brings -/
def vhe (G : Tw K) (p q : V2 K) : Int := vh G (vmul G (vpos G p) (vpos G q))
theorem vh_tri : vh G p = 0 ∧ vup G p ∨ vh G p = 1 ∧ ¬ vup G p := by
  unfold vh
  by_cases h : vup G p
  · rw [if_pos h]; exact .inl ⟨rfl, h⟩
  · rw [if_neg h]; exact .inr ⟨rfl, h⟩
theorem vh_neg (hG : red K G) (hp : p ≠ vz K) : vh G (vneg p) = 1 - vh G p := by
  have h := vup_neg hG hp
  unfold vh
  by_cases hu : vup G p
  · rw [if_pos hu, if_neg fun e => h.1 e hu]; rfl
  · rw [if_neg hu, if_pos (h.2 hu)]; rfl
theorem vpos_neg (hG : red K G) (hp : p ≠ vz K) : vpos G (vneg p) = vpos G p := by
  have h := vup_neg hG hp
  unfold vpos
  by_cases hu : vup G p
  · rw [if_pos hu, if_neg fun e => h.1 e hu, vneg_vneg G]
  · rw [if_neg hu, if_pos (h.2 hu)]
theorem vpos_up (hG : red K G) (hp : p ≠ vz K) : vup G (vpos G p) := by
  unfold vpos
  by_cases hu : vup G p
  · rw [if_pos hu]; exact hu
  · rw [if_neg hu]; exact (vup_neg hG hp).2 hu
theorem vpos_cases : vh G p = 0 ∧ vup G p ∧ p = vpos G p ∨ vh G p = 1 ∧ ¬ vup G p ∧ p = vneg (vpos G p) := by
  unfold vpos
  rcases vh_tri (G := G) (p := p) with ⟨h1, h2⟩ | ⟨h1, h2⟩
  · rw [if_pos h2]; exact .inl ⟨h1, h2, rfl⟩
  · rw [if_neg h2, vneg_vneg G]; exact .inr ⟨h1, h2, rfl⟩
section
variable (hG : red K G) (hp : p ≠ vz K) (hq : q ≠ vz K)
include hG hp hq
theorem vne2 : vmul G (vpos G p) (vpos G q) ≠ vz K := vmul_ne hG (vup_ne hG (vpos_up hG hp)) (vup_ne hG (vpos_up hG hq))
theorem vpos_mul : vpos G (vmul G p q) = vpos G (vmul G (vpos G p) (vpos G q)) := by
  have hn := vne2 hG hp hq
  rcases vpos_cases (G := G) (p := p) with ⟨_, _, e1⟩ | ⟨_, _, e1⟩ <;> rcases vpos_cases (G := G) (p := q) with ⟨_, _, e2⟩ | ⟨_, _, e2⟩
  · rw [← e1, ← e2]
  · rw [show vmul G p q = vneg (vmul G (vpos G p) (vpos G q)) by rw [← mul_vneg, ← e1, ← e2], vpos_neg hG hn]
  · rw [show vmul G p q = vneg (vmul G (vpos G p) (vpos G q)) by rw [← vneg_mul, ← e1, ← e2], vpos_neg hG hn]
  · rw [show vmul G p q = vneg (vneg (vmul G (vpos G p) (vpos G q))) by rw [← vneg_mul, ← mul_vneg, ← e1, ← e2], vneg_vneg G]
theorem vh_mul : vh G (vmul G p q) = (vh G p + vh G q + vhe G p q) % 2 := by
  have hn := vne2 hG hp hq
  have ht := vh_tri (G := G) (p := vmul G (vpos G p) (vpos G q))
  unfold vhe
  rcases vpos_cases (G := G) (p := p) with ⟨a1, _, e1⟩ | ⟨a1, _, e1⟩ <;> rcases vpos_cases (G := G) (p := q) with ⟨a2, _, e2⟩ | ⟨a2, _, e2⟩
  · rw [a1, a2, show vmul G p q = vmul G (vpos G p) (vpos G q) by rw [← e1, ← e2]]; omega
  · rw [a1, a2, show vmul G p q = vneg (vmul G (vpos G p) (vpos G q)) by rw [← mul_vneg, ← e1, ← e2], vh_neg hG hn]; omega
  · rw [a1, a2, show vmul G p q = vneg (vmul G (vpos G p) (vpos G q)) by rw [← vneg_mul, ← e1, ← e2], vh_neg hG hn]; omega
  · rw [a1, a2, show vmul G p q = vneg (vneg (vmul G (vpos G p) (vpos G q))) by rw [← vneg_mul, ← mul_vneg, ← e1, ← e2], vneg_vneg G]; omega
omit hG hp hq in
theorem vcmp_h : vcmp G p q = if vh G p = vh G q then - sgn K G (vcross G p q) else vh G p - vh G q := by
  unfold vcmp
  rcases vh_tri (G := G) (p := p) with ⟨a1, b1⟩ | ⟨a1, b1⟩ <;> rcases vh_tri (G := G) (p := q) with ⟨a2, b2⟩ | ⟨a2, b2⟩ <;> rw [a1, a2] <;> simp [b1, b2]
/-- full turns that a sum brings -/
theorem vadd_eq {f g : Int} : vadd G p q f g = f + g + (vh G p + vh G q + vhe G p q) / 2 := by
  have Sg := sgn_ok (red_real hG)
  have hm := vh_mul hG hp hq
  have hpq := vmul_ne hG hp hq
  have hc := vcmp_h (G := G) (p := vmul G p q) (q := p)
  have ht := vh_tri (G := G) (p := vmul G (vpos G p) (vpos G q))
  have e1 : sgn K G (vcross G (vmul G p q) p) = - sgn K G q.2 := by
    rw [vcr_anti, Sg.sn, vcr_self, Sg.sm, vdot_pos hG hp, Int.one_mul]
  rw [e1] at hc
  have ty := Sg.tri q.2
  have he : vhe G p q = vh G (vmul G (vpos G p) (vpos G q)) := rfl
  rw [← he] at ht
  have hf : sgn K G q.2 = 0 → vhe G p q = 0 := fun h0 => by
    have hy : sgn K G (vpos G q).2 = 0 := by
      rcases vpos_cases (G := G) (p := q) with ⟨_, _, e2⟩ | ⟨_, b2, _⟩
      · rw [← e2]; exact h0
      · rw [show vpos G q = vneg q from if_neg b2]; show sgn K G (neg K q.2) = 0; rw [Sg.sn, h0]; rfl
    have := vup_flat hG (vpos_up hG hq) (vpos_up hG hp) hy
    rw [vmul_comm] at this
    rw [he]; exact if_pos this
  have hq' : (vh G q = 0 → 0 ≤ sgn K G q.2) ∧ (vh G q = 1 → sgn K G q.2 ≤ 0) := by
    rcases vh_tri (G := G) (p := q) with ⟨a2, b2⟩ | ⟨a2, b2⟩
    · exact ⟨fun _ => vup_le b2, fun h => by omega⟩
    · refine ⟨fun h => by omega, fun _ => ?_⟩
      unfold vup at b2; omega
  have hp' : vh G p = 0 ∨ vh G p = 1 := by rcases vh_tri (G := G) (p := p) with ⟨a, _⟩ | ⟨a, _⟩ <;> omega
  have hq2 : vh G q = 0 ∨ vh G q = 1 := by rcases vh_tri (G := G) (p := q) with ⟨a, _⟩ | ⟨a, _⟩ <;> omega
  unfold vadd
  rw [hc]
  rcases hp' with a1 | a1 <;> rcases hq2 with a2 | a2 <;> rcases ht with ⟨a3, _⟩ | ⟨a3, _⟩ <;> rw [a1, a2, a3] at hm <;> rw [a1, a2, a3, hm] <;> simp <;> omega
omit hG hp hq in
theorem vhe_comm : vhe G p q = vhe G q p := by unfold vhe; rw [vmul_comm]
omit hG hp hq in
theorem vhe_01 : vhe G p q = 0 ∨ vhe G p q = 1 := by
  unfold vhe
  rcases vh_tri (G := G) (p := vmul G (vpos G p) (vpos G q)) with ⟨a, _⟩ | ⟨a, _⟩ <;> omega
end
theorem vhe_as1 (hG : red K G) (hp : p ≠ vz K) (hq : q ≠ vz K) (hr : r ≠ vz K) : (vhe G p q = 0 → vhe G (vmul G p q) r = vh G (vmul G (vmul G (vpos G p) (vpos G q)) (vpos G r))) ∧ (vhe G p q = 1 → vhe G (vmul G p q) r = 1 - vh G (vmul G (vmul G (vpos G p) (vpos G q)) (vpos G r))) := by
  have hn := vne2 hG hp hq
  have hn3 := vmul_ne hG hn (vup_ne hG (vpos_up hG hr))
  have e : vhe G (vmul G p q) r = vh G (vmul G (vpos G (vmul G (vpos G p) (vpos G q))) (vpos G r)) := by
    show vh G (vmul G (vpos G (vmul G p q)) (vpos G r)) = _
    rw [vpos_mul hG hp hq]
  rw [e]
  have he : vhe G p q = vh G (vmul G (vpos G p) (vpos G q)) := rfl
  rw [he]
  rcases vpos_cases (G := G) (p := vmul G (vpos G p) (vpos G q)) with ⟨a, _, e1⟩ | ⟨a, b, e1⟩
  · exact ⟨fun _ => by rw [← e1], fun h => by omega⟩
  · refine ⟨fun h => by omega, fun _ => ?_⟩
    rw [show vpos G (vmul G (vpos G p) (vpos G q)) = vneg (vmul G (vpos G p) (vpos G q)) from if_neg b, vneg_mul, vh_neg hG hn3]
/-- three angles: it cannot be that no half turn comes in one order and two in the other -/
theorem vhe_as2 (hG : red K G) (hp : p ≠ vz K) (hq : q ≠ vz K) (hr : r ≠ vz K) (h1 : vhe G p q = 0) (h2 : vhe G (vmul G p q) r = 0) : vhe G q r = 0 := by
  have Sg := sgn_ok (red_real hG)
  have h3 := (vhe_as1 hG hp hq hr).1 h1
  rw [h2] at h3
  have u1 : vup G (vmul G (vpos G p) (vpos G q)) := Classical.byContradiction fun h => by
    have : vhe G p q = 1 := if_neg h
    omega
  have u2 : vup G (vmul G (vmul G (vpos G p) (vpos G q)) (vpos G r)) := Classical.byContradiction fun h => by
    rw [show vh G (vmul G (vmul G (vpos G p) (vpos G q)) (vpos G r)) = 1 from if_neg h] at h3
    omega
  refine if_pos (vup_mono hG (vpos_up hG hq) u1 (vpos_up hG hr) ?_ u2)
  rw [vmul_comm (p := vpos G p), vcr_self, Sg.sm, vdot_pos hG (vup_ne hG (vpos_up hG hq)), Int.one_mul]
  exact vup_le (vpos_up hG hp)
theorem vhe_assoc (hG : red K G) (hp : p ≠ vz K) (hq : q ≠ vz K) (hr : r ≠ vz K) : vhe G p q + vhe G (vmul G p q) r = vhe G q r + vhe G p (vmul G q r) := by
  have hpq := vmul_ne hG hp hq
  have hqr := vmul_ne hG hq hr
  have a1 := vhe_as1 hG hp hq hr
  have a2 := vhe_as1 hG hr hq hp
  have a3 := vhe_as2 hG hp hq hr
  have a4 := vhe_as2 hG hr hq hp
  have e : vmul G (vmul G (vpos G r) (vpos G q)) (vpos G p) = vmul G (vmul G (vpos G p) (vpos G q)) (vpos G r) := by
    rw [vmul_comm (p := vpos G r), vmul_comm, ← vmul_assoc]
  rw [e, vmul_comm (p := r), vhe_comm (q := p), vhe_comm (p := r)] at a2
  rw [vmul_comm (p := r), vhe_comm (p := r), vhe_comm (q := p), vhe_comm (p := q) (q := p)] at a4
  have b1 := vhe_01 (G := G) (p := p) (q := q)
  have b2 := vhe_01 (G := G) (p := vmul G p q) (q := r)
  have b3 := vhe_01 (G := G) (p := q) (q := r)
  have b4 := vhe_01 (G := G) (p := p) (q := vmul G q r)
  omega
theorem vadd_assoc (hG : red K G) (hp : p ≠ vz K) (hq : q ≠ vz K) (hr : r ≠ vz K) {f g h : Int} : vadd G (vmul G p q) r (vadd G p q f g) h = vadd G p (vmul G q r) f (vadd G q r g h) := by
  have hpq := vmul_ne hG hp hq
  have hqr := vmul_ne hG hq hr
  rw [vadd_eq hG hpq hr, vadd_eq hG hp hq, vadd_eq hG hp hqr, vadd_eq hG hq hr, vh_mul hG hp hq, vh_mul hG hq hr]
  have := vhe_assoc hG hp hq hr
  omega
theorem vadd_comm (hG : red K G) (hp : p ≠ vz K) (hq : q ≠ vz K) {f g : Int} : vadd G p q f g = vadd G q p g f := by
  rw [vadd_eq hG hp hq, vadd_eq hG hq hp, vhe_comm (p := p)]
  omega
/-- the square of the length -/
theorem vmul_con : vmul G p (vcon p) = (vdot G p p, zero K) := by
  obtain ⟨a, b⟩ := p
  have L := ring K G
  exact Prod.ext (Laws.req L [a, b] (.add (.mul (.v 0) (.v 0)) (.neg (.mul (.v 1) (.neg (.v 1))))) (.add (.mul (.v 0) (.v 0)) (.mul (.v 1) (.v 1))) (by decide +kernel)) (Laws.req L [a, b] (.add (.mul (.v 0) (.neg (.v 1))) (.mul (.v 1) (.v 0))) .z (by decide +kernel))
theorem vcon_ne (hG : red K G) (hp : p ≠ vz K) : vcon p ≠ vz K := fun h => hp (by
  have Sg := sgn_ok (red_real hG)
  rw [vz_iff hG] at h ⊢
  have h2 : sgn K G (neg K p.2) = 0 := h.2
  rw [Sg.sn] at h2
  exact ⟨h.1, by omega⟩)
theorem vflat_con (hG : red K G) (hp : p ≠ vz K) : vflat G (vmul G p (vcon p)) := by
  rw [vmul_con]
  exact ⟨(sgn_ok (red_real hG)).s0 (ring K G), by show 0 < sgn K G (vdot G p p); rw [vdot_pos hG hp]; decide⟩
theorem vadd_con (hG : red K G) (hp : p ≠ vz K) {f g : Int} : vadd G p (vcon p) f g = f + g + (if vflat G p then 0 else 1) := by
  have Sg := sgn_ok (red_real hG)
  have L := ring K G
  have hc := vcon_ne hG hp
  have hm := vmul_ne hG hp hc
  have hfl := vflat_con hG hp
  have hu : vup G (vmul G p (vcon p)) := .inr hfl
  have h0 : vh G (vmul G p (vcon p)) = 0 := if_pos hu
  have h1 := vh_mul hG hp hc
  rw [h0] at h1
  rw [vadd_eq hG hp hc]
  have b := vhe_01 (G := G) (p := p) (q := vcon p)
  have t1 := Sg.tri p.2
  have t2 := Sg.tri p.1
  have hn : ¬ (sgn K G p.1 = 0 ∧ sgn K G p.2 = 0) := fun h => hp ((vz_iff hG).2 h)
  have hcu : vup G (vcon p) ↔ sgn K G p.2 < 0 ∨ (sgn K G p.2 = 0 ∧ 0 < sgn K G p.1) := by
    show (0 < sgn K G (neg K p.2) ∨ (sgn K G (neg K p.2) = 0 ∧ 0 < sgn K G p.1)) ↔ _
    rw [Sg.sn]; omega
  have hpu : vup G p ↔ 0 < sgn K G p.2 ∨ (sgn K G p.2 = 0 ∧ 0 < sgn K G p.1) := Iff.rfl
  have hpf : vflat G p ↔ sgn K G p.2 = 0 ∧ 0 < sgn K G p.1 := Iff.rfl
  rcases vh_tri (G := G) (p := p) with ⟨a1, b1⟩ | ⟨a1, b1⟩ <;> rcases vh_tri (G := G) (p := vcon p) with ⟨a2, b2⟩ | ⟨a2, b2⟩
  · -- the direction of 1
    rw [hpu] at b1
    rw [hcu] at b2
    have e : vpos G p = p := if_pos (hpu.2 b1)
    have e2 : vpos G (vcon p) = vcon p := if_pos (hcu.2 b2)
    have : vhe G p (vcon p) = 0 := by unfold vhe; rw [e, e2]; exact h0
    rw [a1, a2, this, if_pos (hpf.2 (by omega))]
    rfl
  · rw [hpu] at b1
    rw [hcu] at b2
    rw [if_neg (by rw [hpf]; omega)]
    omega
  · rw [hpu] at b1
    rw [hcu] at b2
    rw [if_neg (by rw [hpf]; omega)]
    omega
  · rw [hpu] at b1
    rw [hcu] at b2
    rw [if_neg (by rw [hpf]; omega)]
    omega
theorem vhe_mono (hG : red K G) (hx : x ≠ vz K) (hy : y ≠ vz K) (hu : u ≠ vz K) (h : 0 ≤ sgn K G (vcross G (vpos G x) (vpos G y))) : vhe G x u ≤ vhe G y u := by
  have b1 := vhe_01 (G := G) (p := x) (q := u)
  rcases vhe_01 (G := G) (p := y) (q := u) with b2 | b2
  · have u1 : vup G (vmul G (vpos G y) (vpos G u)) := Classical.byContradiction fun h => by
      have : vhe G y u = 1 := if_neg h
      omega
    have := vup_mono hG (vpos_up hG hx) (vpos_up hG hy) (vpos_up hG hu) h u1
    have : vhe G x u = 0 := if_pos this
    omega
  · omega
/-- the order respects sums -/
theorem vcmp_add (hG : red K G) (hx : x ≠ vz K) (hy : y ≠ vz K) (hu : u ≠ vz K) : (if vadd G x u 0 0 < vadd G y u 0 0 then -1 else if vadd G x u 0 0 > vadd G y u 0 0 then 1 else vcmp G (vmul G x u) (vmul G y u)) = vcmp G x y := by
  have Sg := sgn_ok (red_real hG)
  have hxu := vmul_ne hG hx hu
  have hyu := vmul_ne hG hy hu
  rw [vadd_eq hG hx hu, vadd_eq hG hy hu, vcmp_h (p := vmul G x u), vcmp_h (p := x), vh_mul hG hx hu, vh_mul hG hy hu, vcr_mul, Sg.sm, vdot_pos hG hu, Int.one_mul]
  have m1 := vhe_mono hG hx hy hu
  have m2 := vhe_mono hG hy hx hu
  rw [vcr_anti, Sg.sn] at m2
  have b1 := vhe_01 (G := G) (p := x) (q := u)
  have b2 := vhe_01 (G := G) (p := y) (q := u)
  have tu : vh G u = 0 ∨ vh G u = 1 := by rcases vh_tri (G := G) (p := u) with ⟨a, _⟩ | ⟨a, _⟩ <;> omega
  have tc := Sg.tri (vcross G x y)
  have hc : sgn K G (vcross G (vpos G x) (vpos G y)) = if vh G x = vh G y then sgn K G (vcross G x y) else - sgn K G (vcross G x y) := by
    rcases vpos_cases (G := G) (p := x) with ⟨a1, _, e1⟩ | ⟨a1, _, e1⟩ <;> rcases vpos_cases (G := G) (p := y) with ⟨a2, _, e2⟩ | ⟨a2, _, e2⟩
    · rw [← e1, ← e2, if_pos (by omega)]
    · rw [if_neg (by omega), show vcross G x y = vcross G (vpos G x) (vneg (vpos G y)) by rw [← e1, ← e2], cr_vneg, Sg.sn]; omega
    · rw [if_neg (by omega), show vcross G x y = vcross G (vneg (vpos G x)) (vpos G y) by rw [← e1, ← e2], vneg_cr, Sg.sn]; omega
    · rw [if_pos (by omega), show vcross G x y = vcross G (vneg (vpos G x)) (vneg (vpos G y)) by rw [← e1, ← e2], vneg_cr, cr_vneg, Sg.sn, Sg.sn]; omega
  rw [hc] at m1 m2
  have t1 : vh G x = 0 ∨ vh G x = 1 := by rcases vh_tri (G := G) (p := x) with ⟨a, _⟩ | ⟨a, _⟩ <;> omega
  have t2 : vh G y = 0 ∨ vh G y = 1 := by rcases vh_tri (G := G) (p := y) with ⟨a, _⟩ | ⟨a, _⟩ <;> omega
  generalize sgn K G (vcross G x y) = c at *
  generalize vhe G x u = e1 at *
  generalize vhe G y u = e2 at *
  generalize vh G x = h1 at *
  generalize vh G y = h2 at *
  generalize vh G u = h3 at *
  clear hc
  rcases t1 with rfl | rfl <;> rcases t2 with rfl | rfl <;> rcases tu with rfl | rfl <;> rcases b1 with rfl | rfl <;> rcases b2 with rfl | rfl <;> rcases tc with rfl | rfl | rfl <;> simp at m1 m2 ⊢
end
end Go.Tow
