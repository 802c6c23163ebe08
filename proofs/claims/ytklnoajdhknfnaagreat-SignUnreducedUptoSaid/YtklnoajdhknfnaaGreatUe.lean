/- A tower with the square of an element as its last radicand, plain. -/
import Derived.Test.YtklnoajdhknfnaaGreatUd
set_option linter.unusedVariables false
set_option linter.unusedSimpArgs false
namespace Go.Tow
section
variable {k : Nat} {w : Tw k} {x : El k}
/-- a tower with one more radicand -/
def tsn {k : Nat} (w : Tw k) (y : El k) : Tw (k + 1) := (w, y)
theorem real_sq (h : real k w) (hx : sgn k w x ≠ 0) : real (k + 1) (tsn w (mul k w x x)) := by
  refine ⟨h, ?_⟩
  show sgn k w (mul k w x x) = 1
  rw [(sgn_ok h).sm]
  rcases sgn_tri w x with e | e | e
  · rw [e]; rfl
  · exact absurd e hx
  · rw [e]; rfl
theorem sgn_root0 (h : real k w) {y : El k} (hy : sgn k w y = -1) (hs : mul k w y y = mul k w x x) : sgn (k + 1) (tsn w (mul k w x x)) (y, rat k 1) = 0 := by
  have S := sgn_ok h
  have L := ring k w
  have h1 : sgn k w (rat k 1) = 1 := S.s1
  show L.sx (mul k w x x) (sgn k w) (y, rat k 1) = 0
  have hn : L.nP (mul k w x x) (y, rat k 1) = zero k := by
    show add k (mul k w y y) (neg k (mul k w (mul k w (rat k 1) (rat k 1)) (mul k w x x))) = zero k
    rw [hs, L.mo, L.om, L.an]
  unfold Laws.sx
  rw [if_neg (by rw [h1, hy]; decide), if_neg (by rw [hy]; decide), hn, S.s0 L, Int.mul_zero]
theorem sgn_more (h : real k w) (hx : sgn k w x ≠ 0) {y b : El k} (hy : sgn k w y = -1) (hs : mul k w y y = mul k w x x) : sgn (k + 1) (tsn w (mul k w x x)) (add (k + 1) (up k b) (y, rat k 1)) = sgn k w b := by
  have hR := real_sq h hx
  rw [(sgn_ok hR).add0' (ring (k + 1) _) (sgn_root0 h hy hs)]
  exact sgn_up (t := tsn w (mul k w x x)) b h
/-- -|x| -/
theorem negabs (h : real k w) (hx : sgn k w x ≠ 0) {y : El k} (hy : y = if 0 < sgn k w x then neg k x else x) : sgn k w y = -1 ∧ mul k w y y = mul k w x x := by
  have S := sgn_ok h
  have L := ring k w
  subst hy
  split
  · rename_i h1
    rw [S.sn]
    refine ⟨by have := sgn_tri w x; omega, ?_⟩
    rw [L.mn, L.nm, L.nn]
  · rename_i h1
    exact ⟨by have := sgn_tri w x; omega, rfl⟩
end
end Go.Tow
