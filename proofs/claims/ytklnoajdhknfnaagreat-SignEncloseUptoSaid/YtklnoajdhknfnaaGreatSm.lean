/- Enclosures of elements: the program's. -/
import Derived.Test.YtklnoajdhknfnaaGreatSl
import Derived.Test.YtklnoajdhknfnaaGreatUd
set_option linter.unusedVariables false
set_option linter.unusedSimpArgs false
set_option maxRecDepth 10000
set_option maxHeartbeats 4000000
namespace Go.Proofs.YtklnoajdhknfnaaGreat
open Go Go.Rx Go.Num Go.Tow
section
def rnd (p : Rat × Rat) (b : Nat) : Rat × Rat := (dnQ p.1 b, upQ p.2 b)
def rts (p : Rat × Rat) (b : Nat) : Rat × Rat := (sqLo (mx0 p.1) b, sqLo p.2 b + Rat.divInt 1 (2 ^ b))
def mulI (p q : Rat × Rat) : Rat × Rat := (minL (p.1 * q.1) [p.1 * q.2, p.2 * q.1, p.2 * q.2], maxL (p.1 * q.1) [p.1 * q.2, p.2 * q.1, p.2 * q.2])
def addI (p q : Rat × Rat) : Rat × Rat := (p.1 + q.1, p.2 + q.2)
def enc : (k : Nat) → Tw k → El k → Nat → Rat × Rat
  | 0 => fun _ (x : Rat) _ => (x, x)
  | k + 1 => fun t a b => if (∀ x ∈ toL k a.2, x = 0) then enc k t.1 a.1 b else rnd (addI (enc k t.1 a.1 b) (mulI (enc k t.1 a.2 b) (rts (enc k t.1 t.2 b) b))) b
/-! rational numbers -/
theorem dnQ_eq (x : Rat) (b : Nat) : dnQ x b * pw b = ((x * pw b).floor : Rat) := by
  unfold dnQ
  rw [Rat.divInt_eq_div]
  have h := pw_pos b
  show ((x * pw b).floor : Rat) / pw b * pw b = _
  rw [Rat.div_mul_cancel (by grind)]
theorem dnQ_le (x : Rat) (b : Nat) : dnQ x b ≤ x := by
  refine Rat.le_of_mul_le_mul_right ?_ (pw_pos b)
  rw [dnQ_eq]
  exact Rat.floor_le _
theorem dnQ_gt (x : Rat) (b : Nat) : x * pw b < dnQ x b * pw b + 1 := by
  rw [dnQ_eq]
  have := @Rat.lt_floor (x * pw b)
  grind
theorem upQ_ge (x : Rat) (b : Nat) : x ≤ upQ x b := by
  have := dnQ_le (-x) b
  unfold upQ; grind
theorem upQ_lt (x : Rat) (b : Nat) : upQ x b * pw b < x * pw b + 1 := by
  have := dnQ_gt (-x) b
  unfold upQ; grind
theorem lo2_le {x y : Rat} : lo2 x y ≤ x ∧ lo2 x y ≤ y := by unfold lo2; split <;> grind
theorem hi2_ge {x y : Rat} : x ≤ hi2 x y ∧ y ≤ hi2 x y := by unfold hi2; split <;> grind
theorem lo2_or {x y : Rat} : lo2 x y = x ∨ lo2 x y = y := by unfold lo2; split <;> simp
theorem hi2_or {x y : Rat} : hi2 x y = x ∨ hi2 x y = y := by unfold hi2; split <;> simp
theorem mulI_le (p q : Rat × Rat) : (mulI p q).1 ≤ p.1 * q.1 ∧ (mulI p q).1 ≤ p.1 * q.2 ∧ (mulI p q).1 ≤ p.2 * q.1 ∧ (mulI p q).1 ≤ p.2 * q.2 := by
  show lo2 (lo2 (lo2 (p.1 * q.1) (p.1 * q.2)) (p.2 * q.1)) (p.2 * q.2) ≤ _ ∧ lo2 (lo2 (lo2 (p.1 * q.1) (p.1 * q.2)) (p.2 * q.1)) (p.2 * q.2) ≤ _ ∧ lo2 (lo2 (lo2 (p.1 * q.1) (p.1 * q.2)) (p.2 * q.1)) (p.2 * q.2) ≤ _ ∧ lo2 (lo2 (lo2 (p.1 * q.1) (p.1 * q.2)) (p.2 * q.1)) (p.2 * q.2) ≤ _
  have h1 := @lo2_le (p.1 * q.1) (p.1 * q.2)
  have h2 := @lo2_le (lo2 (p.1 * q.1) (p.1 * q.2)) (p.2 * q.1)
  have h3 := @lo2_le (lo2 (lo2 (p.1 * q.1) (p.1 * q.2)) (p.2 * q.1)) (p.2 * q.2)
  refine ⟨?_, ?_, ?_, h3.2⟩ <;> grind
theorem mulI_ge (p q : Rat × Rat) : p.1 * q.1 ≤ (mulI p q).2 ∧ p.1 * q.2 ≤ (mulI p q).2 ∧ p.2 * q.1 ≤ (mulI p q).2 ∧ p.2 * q.2 ≤ (mulI p q).2 := by
  show _ ≤ hi2 (hi2 (hi2 (p.1 * q.1) (p.1 * q.2)) (p.2 * q.1)) (p.2 * q.2) ∧ _ ≤ hi2 (hi2 (hi2 (p.1 * q.1) (p.1 * q.2)) (p.2 * q.1)) (p.2 * q.2) ∧ _ ≤ hi2 (hi2 (hi2 (p.1 * q.1) (p.1 * q.2)) (p.2 * q.1)) (p.2 * q.2) ∧ _ ≤ hi2 (hi2 (hi2 (p.1 * q.1) (p.1 * q.2)) (p.2 * q.1)) (p.2 * q.2)
  have h1 := @hi2_ge (p.1 * q.1) (p.1 * q.2)
  have h2 := @hi2_ge (hi2 (p.1 * q.1) (p.1 * q.2)) (p.2 * q.1)
  have h3 := @hi2_ge (hi2 (hi2 (p.1 * q.1) (p.1 * q.2)) (p.2 * q.1)) (p.2 * q.2)
  refine ⟨?_, ?_, ?_, h3.2⟩ <;> grind
theorem sqLo_eq (x : Rat) (b : Nat) : sqLo x b * pw b = ((rtF (sq2 x b) : Int) : Rat) := by
  unfold sqLo
  rw [Rat.divInt_eq_div]
  have h := pw_pos b
  show ((rtF (sq2 x b) : Int) : Rat) / pw b * pw b = _
  rw [Rat.div_mul_cancel (by grind)]
theorem unit_eq (b : Nat) : Rat.divInt 1 (2 ^ b) * pw b = 1 := by
  rw [Rat.divInt_eq_div]
  have h := pw_pos b
  show ((1 : Int) : Rat) / pw b * pw b = _
  rw [Rat.div_mul_cancel (by grind)]; rfl
theorem sqLo_nn (x : Rat) (b : Nat) : 0 ≤ sqLo x b := by
  refine Rat.le_of_mul_le_mul_right ?_ (pw_pos b)
  rw [sqLo_eq, Rat.zero_mul]
  exact Rat.intCast_nonneg.2 (by omega)
theorem rtF_lo {x : Rat} (h : 0 ≤ x) : (((rtF x : Int)) : Rat) * ((rtF x : Int) : Rat) ≤ x := by
  have h1 := (rt_spec x.floor.toNat).1
  have h2 := floor_nat h
  have h3 := @Rat.floor_le x
  have h4 : ((rtF x * rtF x : Int) : Rat) ≤ (x.floor : Rat) := by
    rw [Rat.intCast_le_intCast, h2]
    unfold rtF
    exact_mod_cast h1
  rw [Rat.intCast_mul] at h4
  exact Rat.le_trans h4 h3
theorem rtF_hi {x : Rat} (h : 0 ≤ x) : x < (((rtF x : Int)) + 1 : Rat) * (((rtF x : Int)) + 1 : Rat) := by
  have h1 := (rt_spec x.floor.toNat).2
  have h2 := floor_nat h
  have h3 := @Rat.lt_floor x
  have h4 : ((x.floor + 1 : Int) : Rat) ≤ (((rtF x + 1 : Int) * (rtF x + 1 : Int) : Int) : Rat) := by
    rw [Rat.intCast_le_intCast, h2]
    unfold rtF
    have h1 : x.floor.toNat + 1 ≤ (rt x.floor.toNat + 1) * (rt x.floor.toNat + 1) := h1
    exact_mod_cast h1
  rw [Rat.intCast_mul, Rat.intCast_add, Rat.intCast_add] at h4
  have h5 : ((1 : Int) : Rat) = 1 := rfl
  rw [h5] at h4
  grind
theorem sqLo_sq {x : Rat} {b : Nat} (h : 0 ≤ x) : sqLo x b * sqLo x b ≤ x := by
  have hp := pw_pos b
  have hpp := Rat.mul_pos hp hp
  refine Rat.le_of_mul_le_mul_right ?_ hpp
  have h1 := rtF_lo (sq2_nn (b := b) h)
  rw [← sqLo_eq] at h1
  unfold sq2 at h1
  grind
theorem sqHi_sq {x : Rat} {b : Nat} (h : 0 ≤ x) : x ≤ (sqLo x b + Rat.divInt 1 (2 ^ b)) * (sqLo x b + Rat.divInt 1 (2 ^ b)) := by
  have hp := pw_pos b
  have hpp := Rat.mul_pos hp hp
  refine Rat.le_of_mul_le_mul_right ?_ hpp
  have h1 := rtF_hi (sq2_nn (b := b) h)
  have h2 := unit_eq b
  rw [← sqLo_eq] at h1
  have h3 : sq2 x b = x * (pw b * pw b) := rfl
  have h4 : (sqLo x b + Rat.divInt 1 (2 ^ b)) * (sqLo x b + Rat.divInt 1 (2 ^ b)) * (pw b * pw b) = (sqLo x b * pw b + 1) * (sqLo x b * pw b + 1) := by
    rw [← h2]; grind
  rw [h4, ← h3]
  exact Rat.le_of_lt h1
/-- an enclosure contains its element -/
theorem enc_in : ∀ {k : Nat} {t : Tw k} (h : real k t) (a : El k) (b : Nat), inI k t a (enc k t a b).1 (enc k t a b).2
  | 0, t, h, a, b => ⟨(sgn_ok h).le_rf (ring 0 t) a, (sgn_ok h).le_rf (ring 0 t) a⟩
  | k + 1, t, h, a, b => by
    have iu := inI_up (t := t) h.1 (enc_in h.1 a.1 b)
    have hs := el_split (t := t) a
    by_cases hz : ∀ x ∈ toL k a.2, x = 0
    · have he : enc (k + 1) t a b = enc k t.1 a.1 b := if_pos hz
      rw [he]
      have ha : a = up k a.1 := Prod.ext rfl ((eq_zero_iff k a.2).2 hz)
      rw [ha]
      exact iu
    · have he : enc (k + 1) t a b = rnd (addI (enc k t.1 a.1 b) (mulI (enc k t.1 a.2 b) (rts (enc k t.1 t.2 b) b))) b := if_neg hz
      have iv := inI_up (t := t) h.1 (enc_in h.1 a.2 b)
      have ir := enc_in h.1 t.2 b
      have hr2 : 0 ≤ (enc k t.1 t.2 b).2 := by
        have h0 : le k t.1 (rat k 0) t.2 := (nn_iff h.1).2 (by rw [h.2]; decide)
        exact (le_ratI h.1).1 (le_tr h.1 h0 ir.2)
      have hu : 0 ≤ Rat.divInt 1 (2 ^ b) := Rat.le_of_mul_le_mul_right (by rw [unit_eq, Rat.zero_mul]; decide) (pw_pos b)
      have is := in_root h ir (c := sqLo (mx0 (enc k t.1 t.2 b).1) b) (d := sqLo (enc k t.1 t.2 b).2 b + Rat.divInt 1 (2 ^ b)) (sqLo_nn _ _) (by have := sqLo_nn (enc k t.1 t.2 b).2 b; grind)
        (by
          have h1 := sqLo_sq (b := b) (mx0_nn (enc k t.1 t.2 b).1)
          by_cases h0 : (enc k t.1 t.2 b).1 < 0
          · right
            have e : mx0 (enc k t.1 t.2 b).1 = 0 := if_pos h0
            rw [e] at h1 ⊢
            have h2 := sqLo_nn 0 b
            by_cases h3 : sqLo 0 b = 0
            · exact h3
            · have := Rat.mul_pos (show 0 < sqLo 0 b by grind) (show 0 < sqLo 0 b by grind)
              grind
          · left
            have e : mx0 (enc k t.1 t.2 b).1 = (enc k t.1 t.2 b).1 := if_neg h0
            rw [e] at h1 ⊢
            exact h1) (sqHi_sq hr2)
      have im := inI_mul h iv is (sqLo_nn _ _) (mulI_le (enc k t.1 a.2 b) (rts (enc k t.1 t.2 b) b)).1 (mulI_le (enc k t.1 a.2 b) (rts (enc k t.1 t.2 b) b)).2.1 (mulI_ge (enc k t.1 a.2 b) (rts (enc k t.1 t.2 b) b)).2.2.1 (mulI_ge (enc k t.1 a.2 b) (rts (enc k t.1 t.2 b) b)).2.2.2
      have ia := inI_add h iu im
      rw [← hs] at ia
      rw [he]
      exact inI_mono h ia (dnQ_le _ _) (upQ_ge _ _)
end
section
theorem pw_add (a b : Nat) : pw (a + b) = pw a * pw b := by
  show ((2 ^ (a + b) : Int) : Rat) = ((2 ^ a : Int) : Rat) * ((2 ^ b : Int) : Rat)
  rw [← Rat.intCast_mul, ← Int.pow_add]
theorem pw_succ (n : Nat) : pw (n + 1) = 2 * pw n := by rw [pw_add, show pw 1 = 2 from rfl]; grind
theorem pw_ge1 (n : Nat) : 1 ≤ pw n := by
  induction n with
  | zero => exact Rat.le_refl
  | succ n ih => rw [pw_succ]; grind
theorem pw_mono {a b : Nat} (h : a ≤ b) : pw a ≤ pw b := by
  obtain ⟨c, rfl⟩ := Nat.le.dest h
  rw [pw_add]
  have h1 := Rat.mul_le_mul_of_nonneg_left (pw_ge1 c) (Rat.le_of_lt (pw_pos a))
  grind
theorem mul_nn {x y : Rat} (h : 0 ≤ x) (k : 0 ≤ y) : 0 ≤ x * y := Rat.mul_nonneg h k
theorem mul_le {a b c d : Rat} (h : a ≤ b) (k : c ≤ d) (hc : 0 ≤ c) (hb : 0 ≤ b) : a * c ≤ b * d := by
  have h1 := Rat.mul_le_mul_of_nonneg_right h hc
  have h2 := Rat.mul_le_mul_of_nonneg_left k hb
  grind
theorem mul_abs {x y X Y : Rat} (h1 : -X ≤ x) (h2 : x ≤ X) (h3 : -Y ≤ y) (h4 : y ≤ Y) : x * y ≤ X * Y := by
  have a := mul_nn (show 0 ≤ X - x by grind) (show 0 ≤ Y + y by grind)
  have b := mul_nn (show 0 ≤ X + x by grind) (show 0 ≤ Y - y by grind)
  grind
theorem le_of_sq {x y : Rat} (hy : 0 ≤ y) (h : x * x ≤ y * y) : x ≤ y := by
  by_cases hxy : x ≤ y
  · exact hxy
  · have h1 : y < x := by grind
    have a := Rat.mul_pos (show 0 < x - y by grind) (show 0 < x by grind)
    have b := mul_nn hy (show 0 ≤ x - y by grind)
    grind
def Wid (p : Rat × Rat) (e : Nat) : Prop := p.1 ≤ p.2 ∧ (p.2 - p.1) * pw e ≤ 1
def Mg (p : Rat × Rat) (m : Nat) : Prop := -pw m ≤ p.1 ∧ p.2 ≤ pw m
theorem Wid.mono {p : Rat × Rat} {e f : Nat} (h : Wid p e) (hf : f ≤ e) : Wid p f := by
  refine ⟨h.1, ?_⟩
  have := Rat.mul_le_mul_of_nonneg_left (pw_mono hf) (show 0 ≤ p.2 - p.1 by have := h.1; grind)
  have := h.2
  grind
theorem Mg.mono {p : Rat × Rat} {m n : Nat} (h : Mg p m) (hn : m ≤ n) : Mg p n := by
  have := pw_mono hn
  have h1 := h.1
  have h2 := h.2
  exact ⟨by grind, by grind⟩
/-- the root of an interval -/
structure RtOf (r : Rat × Rat) (b : Nat) (s : Rat × Rat) : Prop where
  lo : s.1 = sqLo (mx0 r.1) b
  l : sqLo r.2 b ≤ s.2
  h : s.2 ≤ sqLo r.2 b + Rat.divInt 1 (2 ^ b)
theorem unit_pos (b : Nat) : 0 < Rat.divInt 1 (2 ^ b) := by
  by_cases h : 0 < Rat.divInt 1 (2 ^ b)
  · exact h
  · have h1 := Rat.mul_le_mul_of_nonneg_right (show Rat.divInt 1 (2 ^ b) ≤ 0 by grind) (Rat.le_of_lt (pw_pos b))
    rw [unit_eq] at h1
    exact absurd h1 (by grind)
theorem unit_le {b f : Nat} (h : f + 1 ≤ b) : 2 * (Rat.divInt 1 (2 ^ b) * pw f) ≤ 1 := by
  have h1 := Rat.mul_le_mul_of_nonneg_left (pw_mono h) (Rat.le_of_lt (unit_pos b))
  rw [unit_eq, pw_succ] at h1
  grind
theorem unit_le1 (b : Nat) : Rat.divInt 1 (2 ^ b) ≤ 1 := by
  have h1 := Rat.mul_le_mul_of_nonneg_left (pw_ge1 b) (Rat.le_of_lt (unit_pos b))
  rw [unit_eq] at h1
  grind
theorem mx0_ge (x : Rat) : x ≤ mx0 x := by unfold mx0; split <;> grind
theorem sqLo_mono {x y : Rat} {b : Nat} (hx : 0 ≤ x) (h : x ≤ y) : sqLo x b ≤ sqLo y b := by
  have hp := pw_pos b
  refine Rat.le_of_mul_le_mul_right ?_ hp
  rw [sqLo_eq, sqLo_eq, Rat.intCast_le_intCast]
  have h1 : sq2 x b ≤ sq2 y b := Rat.mul_le_mul_of_nonneg_right h (Rat.le_of_lt (Rat.mul_pos hp hp))
  have h2 := rtF_lo (sq2_nn (b := b) hx)
  have h3 := rtF_hi (x := sq2 y b) (Rat.le_trans (sq2_nn (b := b) hx) h1)
  by_cases h4 : (rtF (sq2 x b) : Int) ≤ rtF (sq2 y b)
  · exact h4
  · have h5 : (rtF (sq2 y b) : Int) + 1 ≤ rtF (sq2 x b) := by omega
    have h6 := Rat.intCast_le_intCast.2 h5
    rw [Rat.intCast_add, show ((1 : Int) : Rat) = 1 from rfl] at h6
    have h7 : (0 : Rat) ≤ ((rtF (sq2 y b) : Int) : Rat) := Rat.intCast_nonneg.2 (by omega)
    have h8 := mul_le h6 h6 (by grind) (by grind)
    grind
theorem RtOf.wd {r s : Rat × Rat} {b e f : Nat} (R : RtOf r b s) (hr : Wid r e) (h0 : 0 ≤ r.2) (hf : 2 * f ≤ e) (hb : f + 1 ≤ b) : s.1 ≤ s.2 ∧ (s.2 - s.1) * pw f ≤ 2 := by
  obtain ⟨r1, r2⟩ := r
  obtain ⟨c, d⟩ := s
  obtain ⟨h1, h2, h3⟩ := R
  dsimp only at *
  have hA := sqLo_sq (b := b) h0
  have hB := sqHi_sq (b := b) (mx0_nn r1)
  have hB0 := sqLo_nn (mx0 r1) b
  have hm := mx0_ge r1
  have hu := unit_pos b
  have hul := unit_le hb
  rw [← h1] at hB hB0
  have hw := (hr.mono hf).2
  have hpf := pw_pos f
  rw [show 2 * f = f + f by omega, pw_add] at hw
  dsimp only at hw
  generalize Rat.divInt 1 (2 ^ b) = ε at *
  generalize hAe : sqLo r2 b = A at *
  have key : (A - (c + ε)) * pw f ≤ 1 := by
    by_cases hk : (A - (c + ε)) * pw f ≤ 1
    · exact hk
    · have hk : 1 < (A - (c + ε)) * pw f := by grind
      have hD : 0 < A - (c + ε) := by
        by_cases hD : 0 < A - (c + ε)
        · exact hD
        · have := Rat.mul_le_mul_of_nonneg_right (show A - (c + ε) ≤ 0 by grind) (Rat.le_of_lt hpf)
          grind
      have e1 := mul_nn (Rat.le_of_lt hD) (show 0 ≤ 2 * (c + ε) by grind)
      have e2 : (A - (c + ε)) * (A - (c + ε)) ≤ r2 - r1 := by grind
      have e3 := Rat.mul_le_mul_of_nonneg_right e2 (Rat.le_of_lt (Rat.mul_pos hpf hpf))
      have e4 := mul_le (Rat.le_of_lt hk) (Rat.le_of_lt hk) (by decide) (by grind)
      have e5 := Rat.mul_pos (show 0 < (A - (c + ε)) * pw f - 1 by grind) (show 0 < (A - (c + ε)) * pw f by grind)
      grind
  refine ⟨?_, ?_⟩
  · have hmono : mx0 r1 ≤ r2 := by
      have := hr.1
      unfold mx0
      dsimp only at this
      split
      · exact h0
      · exact this
    have := sqLo_mono (b := b) (mx0_nn r1) hmono
    rw [hAe, ← h1] at this
    grind
  · have := Rat.mul_le_mul_of_nonneg_right (show d - c ≤ (A - (c + ε)) + 2 * ε by grind) (Rat.le_of_lt hpf)
    grind
theorem RtOf.mg {r s : Rat × Rat} {b m : Nat} (R : RtOf r b s) (hr : Mg r m) (h0 : 0 ≤ r.2) : 0 ≤ s.1 ∧ s.2 ≤ pw (m + 1) := by
  have h1 := sqLo_sq (b := b) h0
  have h2 := sqLo_nn (mx0 r.1) b
  rw [← R.lo] at h2
  refine ⟨h2, ?_⟩
  have h3 : sqLo r.2 b ≤ pw m := by
    refine le_of_sq (Rat.le_of_lt (pw_pos m)) (Rat.le_trans h1 (Rat.le_trans hr.2 ?_))
    have := Rat.mul_le_mul_of_nonneg_left (pw_ge1 m) (Rat.le_of_lt (pw_pos m))
    grind
  have h4 := R.h
  have h5 := unit_le1 b
  have h6 := pw_ge1 m
  rw [pw_succ]
  grind
theorem mulI_or (p q : Rat × Rat) : (∃ v s, (v = p.1 ∨ v = p.2) ∧ (s = q.1 ∨ s = q.2) ∧ (mulI p q).1 = v * s) ∧ ∃ v s, (v = p.1 ∨ v = p.2) ∧ (s = q.1 ∨ s = q.2) ∧ (mulI p q).2 = v * s := by
  constructor
  · show ∃ v s, (v = p.1 ∨ v = p.2) ∧ (s = q.1 ∨ s = q.2) ∧ lo2 (lo2 (lo2 (p.1 * q.1) (p.1 * q.2)) (p.2 * q.1)) (p.2 * q.2) = v * s
    rcases @lo2_or (lo2 (lo2 (p.1 * q.1) (p.1 * q.2)) (p.2 * q.1)) (p.2 * q.2) with h | h <;> rw [h]
    · rcases @lo2_or (lo2 (p.1 * q.1) (p.1 * q.2)) (p.2 * q.1) with h | h <;> rw [h]
      · rcases @lo2_or (p.1 * q.1) (p.1 * q.2) with h | h <;> rw [h]
        · exact ⟨_, _, .inl rfl, .inl rfl, rfl⟩
        · exact ⟨_, _, .inl rfl, .inr rfl, rfl⟩
      · exact ⟨_, _, .inr rfl, .inl rfl, rfl⟩
    · exact ⟨_, _, .inr rfl, .inr rfl, rfl⟩
  · show ∃ v s, (v = p.1 ∨ v = p.2) ∧ (s = q.1 ∨ s = q.2) ∧ hi2 (hi2 (hi2 (p.1 * q.1) (p.1 * q.2)) (p.2 * q.1)) (p.2 * q.2) = v * s
    rcases @hi2_or (hi2 (hi2 (p.1 * q.1) (p.1 * q.2)) (p.2 * q.1)) (p.2 * q.2) with h | h <;> rw [h]
    · rcases @hi2_or (hi2 (p.1 * q.1) (p.1 * q.2)) (p.2 * q.1) with h | h <;> rw [h]
      · rcases @hi2_or (p.1 * q.1) (p.1 * q.2) with h | h <;> rw [h]
        · exact ⟨_, _, .inl rfl, .inl rfl, rfl⟩
        · exact ⟨_, _, .inl rfl, .inr rfl, rfl⟩
      · exact ⟨_, _, .inr rfl, .inl rfl, rfl⟩
    · exact ⟨_, _, .inr rfl, .inr rfl, rfl⟩
/-- one level -/
theorem step_wd {u v r s : Rat × Rat} {b b' e m : Nat} (hu : Wid u e) (hv : Wid v e) (hr : Wid r e) (mv : Mg v m) (mr : Mg r m) (h0 : 0 ≤ r.2) (R : RtOf r b s) (hb : e / 2 + 1 ≤ b) (hb' : b ≤ b') (he : m + 3 ≤ e / 2) :
    Wid (rnd (addI u (mulI v s)) b') (e / 2 - (m + 3)) := by
  obtain ⟨f, hf⟩ : ∃ f, f = e / 2 := ⟨_, rfl⟩
  rw [← hf] at hb he ⊢
  have hs := R.wd hr h0 (f := f) (by omega) hb
  have ms := R.mg mr h0
  have wu := (hu.mono (f := f) (by omega)).2
  have wv := (hv.mono (f := f) (by omega)).2
  have hu1 := hu.1
  have hv1 := hv.1
  have hs1 := hs.1
  have hs2 := hs.2
  have hpf := pw_pos f
  have hpm := pw_pos m
  obtain ⟨⟨v1, s1, hv1', hs1', e1⟩, v2, s2, hv2', hs2', e2⟩ := mulI_or v s
  have hle := (mulI_le v s).1
  have hge := (mulI_ge v s).1
  -- the product
  have hP : (mulI v s).2 - (mulI v s).1 ≤ pw m * (s.2 - s.1) + pw (m + 1) * (v.2 - v.1) := by
    rw [e1, e2]
    have a1 : -pw m ≤ v2 ∧ v2 ≤ pw m := by
      have := mv.1; have := mv.2
      rcases hv2' with rfl | rfl <;> exact ⟨by grind, by grind⟩
    have a2 : -(s.2 - s.1) ≤ s2 - s1 ∧ s2 - s1 ≤ s.2 - s.1 := by
      rcases hs1' with rfl | rfl <;> rcases hs2' with rfl | rfl <;> exact ⟨by grind, by grind⟩
    have a3 : -pw (m + 1) ≤ s1 ∧ s1 ≤ pw (m + 1) := by
      have := ms.1; have := ms.2; have := pw_pos (m + 1)
      rcases hs1' with rfl | rfl <;> exact ⟨by grind, by grind⟩
    have a4 : -(v.2 - v.1) ≤ v2 - v1 ∧ v2 - v1 ≤ v.2 - v.1 := by
      rcases hv1' with rfl | rfl <;> rcases hv2' with rfl | rfl <;> exact ⟨by grind, by grind⟩
    have b1 := mul_abs a1.1 a1.2 a2.1 a2.2
    have b2 := mul_abs a3.1 a3.2 a4.1 a4.2
    grind
  have hPf : ((mulI v s).2 - (mulI v s).1) * pw f ≤ pw (m + 2) := by
    have c1 := Rat.mul_le_mul_of_nonneg_right hP (Rat.le_of_lt hpf)
    have c2 := Rat.mul_le_mul_of_nonneg_left hs2 (Rat.le_of_lt hpm)
    have c3 := Rat.mul_le_mul_of_nonneg_left wv (Rat.le_of_lt (pw_pos (m + 1)))
    rw [pw_succ, pw_succ] at *
    grind
  have d1 := dnQ_gt (u.1 + (mulI v s).1) b'
  have d2 := upQ_lt (u.2 + (mulI v s).2) b'
  have d3 := dnQ_le (u.1 + (mulI v s).1) b'
  have d4 := upQ_ge (u.2 + (mulI v s).2) b'
  have hε := unit_le (b := b') (f := f) (by omega)
  have hεp := unit_pos b'
  have hεe := unit_eq b'
  have d5 : u.1 + (mulI v s).1 - Rat.divInt 1 (2 ^ b') ≤ dnQ (u.1 + (mulI v s).1) b' := by
    refine Rat.le_of_mul_le_mul_right ?_ (pw_pos b')
    grind
  have d6 : upQ (u.2 + (mulI v s).2) b' ≤ u.2 + (mulI v s).2 + Rat.divInt 1 (2 ^ b') := by
    refine Rat.le_of_mul_le_mul_right ?_ (pw_pos b')
    grind
  refine ⟨?_, ?_⟩
  · show dnQ (u.1 + (mulI v s).1) b' ≤ upQ (u.2 + (mulI v s).2) b'
    grind
  · show (upQ (u.2 + (mulI v s).2) b' - dnQ (u.1 + (mulI v s).1) b') * pw (f - (m + 3)) ≤ 1
    refine Rat.le_of_mul_le_mul_right ?_ (pw_pos (m + 3))
    rw [Rat.mul_assoc, ← pw_add, show f - (m + 3) + (m + 3) = f by omega, Rat.one_mul]
    have g1 := Rat.mul_le_mul_of_nonneg_right (show upQ (u.2 + (mulI v s).2) b' - dnQ (u.1 + (mulI v s).1) b' ≤ (u.2 - u.1) + ((mulI v s).2 - (mulI v s).1) + 2 * Rat.divInt 1 (2 ^ b') by grind) (Rat.le_of_lt hpf)
    have g2 := pw_ge1 (m + 1)
    rw [pw_succ (m + 1)] at hPf
    rw [pw_succ (m + 2), pw_succ (m + 1)]
    grind
theorem step_mg {u v r s : Rat × Rat} {b b' m : Nat} (mu : Mg u m) (mv : Mg v m) (mr : Mg r m) (h0 : 0 ≤ r.2) (hs1 : s.1 ≤ s.2) (hv1 : v.1 ≤ v.2) (R : RtOf r b s) : Mg (rnd (addI u (mulI v s)) b') (2 * m + 2) := by
  have ms := R.mg mr h0
  obtain ⟨⟨v1, s1, hv1', hs1', e1⟩, v2, s2, hv2', hs2', e2⟩ := mulI_or v s
  have key : ∀ x y, (x = v.1 ∨ x = v.2) → (y = s.1 ∨ y = s.2) → -(pw m * pw (m + 1)) ≤ x * y ∧ x * y ≤ pw m * pw (m + 1) := by
    intro x y hx hy
    have a1 : -pw m ≤ x ∧ x ≤ pw m := by
      have := mv.1; have := mv.2
      rcases hx with rfl | rfl <;> exact ⟨by grind, by grind⟩
    have a3 : -pw (m + 1) ≤ y ∧ y ≤ pw (m + 1) := by
      have := ms.1; have := ms.2; have := pw_pos (m + 1)
      rcases hy with rfl | rfl <;> exact ⟨by grind, by grind⟩
    have b1 := mul_abs a1.1 a1.2 a3.1 a3.2
    have b2 := mul_abs (x := -x) (show -pw m ≤ -x by grind) (show -x ≤ pw m by grind) a3.1 a3.2
    exact ⟨by grind, b1⟩
  have k1 := (key _ _ hv1' hs1').1
  have k2 := (key _ _ hv2' hs2').2
  rw [← e1] at k1
  rw [← e2] at k2
  have hεe := unit_eq b'
  have hε1 := unit_le1 b'
  have d1 := dnQ_gt (u.1 + (mulI v s).1) b'
  have d2 := upQ_lt (u.2 + (mulI v s).2) b'
  have d5 : u.1 + (mulI v s).1 - Rat.divInt 1 (2 ^ b') ≤ dnQ (u.1 + (mulI v s).1) b' := by
    refine Rat.le_of_mul_le_mul_right ?_ (pw_pos b')
    grind
  have d6 : upQ (u.2 + (mulI v s).2) b' ≤ u.2 + (mulI v s).2 + Rat.divInt 1 (2 ^ b') := by
    refine Rat.le_of_mul_le_mul_right ?_ (pw_pos b')
    grind
  have e3 : pw (2 * m + 2) = 2 * (pw m * pw (m + 1)) := by rw [← pw_add, ← pw_succ]; congr 1; omega
  have e4 : pw m + 1 ≤ pw m * pw (m + 1) := by
    have h1 := pw_ge1 m
    have h2 := Rat.mul_le_mul_of_nonneg_left (show 2 ≤ pw (m + 1) by rw [pw_succ]; grind) (Rat.le_of_lt (pw_pos m))
    grind
  have m1 := mu.1
  have m2 := mu.2
  refine ⟨?_, ?_⟩
  · show -pw (2 * m + 2) ≤ dnQ (u.1 + (mulI v s).1) b'
    rw [e3]; grind
  · show upQ (u.2 + (mulI v s).2) b' ≤ pw (2 * m + 2)
    rw [e3]; grind
def mW (m : Nat) : Nat → Nat
  | 0 => m
  | k + 1 => 2 * mW m k + 2
def eW (m b : Nat) : Nat → Nat
  | 0 => 2 * b - 2
  | k + 1 => eW m b k / 2 - (mW m k + 3)
theorem eW_le (m b : Nat) : ∀ k, eW m b k ≤ 2 * b - 2
  | 0 => Nat.le_refl _
  | k + 1 => by have := eW_le m b k; show eW m b k / 2 - (mW m k + 3) ≤ _; omega
theorem mg_qs {m : Nat} {x : Rat} (h : Qs m x) : Mg (x, x) m := by
  have h1 := h.n
  unfold Zs at h1
  have e := mul_den x
  have hd : (1 : Rat) ≤ (x.den : Rat) := by
    have : ((1 : Int) : Rat) ≤ ((x.den : Int) : Rat) := Rat.intCast_le_intCast.2 (by have := x.den_pos; omega)
    exact this
  have h2 : ((x.num : Int) : Rat) ≤ pw m := Rat.intCast_le_intCast.2 (by have : (x.num.natAbs : Int) < ((2 ^ m : Nat) : Int) := by exact_mod_cast h1
                                                                         have e2 : ((2 ^ m : Nat) : Int) = 2 ^ m := by simp
                                                                         omega)
  have h3 : -pw m ≤ ((x.num : Int) : Rat) := by
    have h4 : ((-(2 ^ m) : Int) : Rat) ≤ ((x.num : Int) : Rat) := Rat.intCast_le_intCast.2 (by have : (x.num.natAbs : Int) < ((2 ^ m : Nat) : Int) := by exact_mod_cast h1
                                                                                               have e2 : ((2 ^ m : Nat) : Int) = 2 ^ m := by simp
                                                                                               omega)
    rwa [Rat.intCast_neg] at h4
  have hp := pw_pos m
  refine ⟨?_, ?_⟩
  · show -pw m ≤ x
    by_cases h0 : 0 ≤ x
    · grind
    · have := mul_nn (show 0 ≤ -x by grind) (show 0 ≤ (x.den : Rat) - 1 by grind)
      grind
  · show x ≤ pw m
    by_cases h0 : 0 ≤ x
    · have := mul_nn h0 (show 0 ≤ (x.den : Rat) - 1 by grind)
      grind
    · grind
/-- the numbers of towers and elements are at most so great -/
def MgL (m : Nat) (l : List Rat) : Prop := ∀ x ∈ l, Qs m x
def MgT (m : Nat) : (k : Nat) → Tw k → Prop
  | 0, _ => True
  | k + 1, t => MgT m k t.1 ∧ MgL m (toL k t.2)
theorem rts_of (r : Rat × Rat) (b : Nat) : RtOf r b (rts r b) := ⟨rfl, by have := unit_pos b; show _ ≤ sqLo r.2 b + _; grind, Rat.le_refl⟩
theorem enc_le {k : Nat} {t : Tw k} (h : real k t) (a : El k) (b : Nat) : (enc k t a b).1 ≤ (enc k t a b).2 := inI_le h (enc_in h a b)
theorem enc_mg : ∀ {k : Nat} {t : Tw k} {a : El k} {m : Nat} (b : Nat), real k t → MgT m k t → MgL m (toL k a) → Mg (enc k t a b) (mW m k)
  | 0, t, a, m, b, h, hT, ha => mg_qs (ha _ (List.mem_singleton.2 rfl))
  | k + 1, t, a, m, b, h, hT, ha => by
    have hu := enc_mg (a := a.1) b h.1 hT.1 fun x hx => ha x (List.mem_append_left _ hx)
    have hv := enc_mg (a := a.2) b h.1 hT.1 fun x hx => ha x (List.mem_append_right _ hx)
    have hr := enc_mg b h.1 hT.1 hT.2
    have h0 : 0 ≤ (enc k t.1 t.2 b).2 := by
      have h0 : le k t.1 (rat k 0) t.2 := (nn_iff h.1).2 (by rw [h.2]; decide)
      exact (le_ratI h.1).1 (le_tr h.1 h0 (enc_in h.1 t.2 b).2)
    show Mg (if (∀ x ∈ toL k a.2, x = 0) then enc k t.1 a.1 b else rnd (addI (enc k t.1 a.1 b) (mulI (enc k t.1 a.2 b) (rts (enc k t.1 t.2 b) b))) b) (2 * mW m k + 2)
    split
    · exact hu.mono (by omega)
    · refine step_mg hu hv hr h0 ?_ (enc_le h.1 _ _) (rts_of _ b)
      have hle := enc_le h.1 t.2 b
      have hm : mx0 (enc k t.1 t.2 b).1 ≤ (enc k t.1 t.2 b).2 := by unfold mx0; split <;> assumption
      have := sqLo_mono (b := b) (mx0_nn _) hm
      have := unit_pos b
      show sqLo (mx0 (enc k t.1 t.2 b).1) b ≤ sqLo (enc k t.1 t.2 b).2 b + Rat.divInt 1 (2 ^ b)
      grind
theorem enc_wd : ∀ {k : Nat} {t : Tw k} {a : El k} {m b : Nat}, real k t → MgT m k t → MgL m (toL k a) → 0 < eW m b k → Wid (enc k t a b) (eW m b k)
  | 0, t, a, m, b, h, hT, ha, he => ⟨Rat.le_refl, (fun (x : Rat) => (by grind : (x - x) * pw (eW m b 0) ≤ 1)) a⟩
  | k + 1, t, a, m, b, h, hT, ha, he => by
    have he' : 0 < eW m b k / 2 - (mW m k + 3) := he
    have hle := eW_le m b k
    have hu := enc_wd (a := a.1) (m := m) (b := b) h.1 hT.1 (fun x hx => ha x (List.mem_append_left _ hx)) (by omega)
    have hv := enc_wd (a := a.2) (m := m) (b := b) h.1 hT.1 (fun x hx => ha x (List.mem_append_right _ hx)) (by omega)
    have hr := enc_wd (m := m) (b := b) h.1 hT.1 hT.2 (by omega)
    have mv := enc_mg (a := a.2) b h.1 hT.1 fun x hx => ha x (List.mem_append_right _ hx)
    have mr := enc_mg b h.1 hT.1 hT.2
    have h0 : 0 ≤ (enc k t.1 t.2 b).2 := by
      have h0 : le k t.1 (rat k 0) t.2 := (nn_iff h.1).2 (by rw [h.2]; decide)
      exact (le_ratI h.1).1 (le_tr h.1 h0 (enc_in h.1 t.2 b).2)
    show Wid (if (∀ x ∈ toL k a.2, x = 0) then enc k t.1 a.1 b else rnd (addI (enc k t.1 a.1 b) (mulI (enc k t.1 a.2 b) (rts (enc k t.1 t.2 b) b))) b) (eW m b k / 2 - (mW m k + 3))
    split
    · exact hu.mono (by omega)
    · exact step_wd hu hv hr mv mr h0 (rts_of _ b) (by omega) (Nat.le_refl _) (by omega)
end
end Go.Proofs.YtklnoajdhknfnaaGreat
