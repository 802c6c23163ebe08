/- turns: the program's vectors and turns. -/
import Derived.Test.YtfmgfaeheljpcaaGreatYOB
set_option linter.unusedVariables false
set_option linter.unusedSimpArgs false
set_option maxRecDepth 10000
namespace Go.Proofs.YtfmgfaeheljpcaaGreat
open Go Go.Vm Go.Num Go.Tow
section
variable {K : Nat} {G : Tw K} {S : List (Tow.El K)} {N : List Nm} {n m : Nat} {x y z : Nm} {a b : Tow.El K} {u s : Vn} {p q : V2 K} {f g : Int}
namespace P13
theorem both_mul (W : Wn G S N) (hu : Gv G S N n u p) (hs : Gv G S N m s q) (hn : n ≤ 190) (hm : m ≤ 190) : C0 173 [.d (dV u), .d (dV s), .d (fnD 101)] (VoG G S N (n + m) (Tow.mul K G p.1 q.1, Tow.mul K G p.2 q.2)) := by
  refine En Tryz.func173 fun _ _ => ?_
  refine Ca rfl (P9.Mul_g W hu.x hs.x hn hm) fun v hv => ?_
  obtain ⟨z, rfl, hz⟩ := hv
  refine No rfl (by simp) ?_
  refine Ca rfl (P9.Mul_g W hu.y hs.y hn hm) fun v hv => ?_
  obtain ⟨w, rfl, hw⟩ := hv
  refine No rfl (by simp) ?_
  exact Rt rfl (.tup (.cons (.rf rfl) fitI)) ⟨⟨z, w⟩, rfl, hz, hw⟩
theorem copyOf_g (W : Wn G S N) (hx : Gd G S N n x a) (hn : n ≤ 190) : C0 239 [.d (dN x)] (OnG G S N n a) := by
  refine En Tryz.func239 fun _ _ => ?_
  refine Ca rfl (P9.Neg_g W hx hn) fun v hv => ?_
  obtain ⟨z, rfl, hz⟩ := hv
  refine Ca rfl (P9.Neg_g W hz hn) fun v hv => ?_
  obtain ⟨w, rfl, hw⟩ := hv
  rw [(ring K G).nn] at hw
  exact Rt rfl (.one (.rf rfl) rfl rfl) ⟨w, rfl, hw⟩
theorem Left_g (W : Wn G S N) (hu : Gv G S N n u p) (hn : n ≤ 190) : C0 177 [.d (dV u)] (VeG G S N n (neg K p.2, p.1)) := by
  refine En Tryz.func177 fun _ _ => ?_
  refine Dw rfl ?_
  refine Ca rfl (P9.Neg_g W hu.y hn) fun v hv => ?_
  obtain ⟨z, rfl, hz⟩ := hv
  refine Ca rfl (copyOf_g W hu.x hn) fun v hv => ?_
  obtain ⟨w, rfl, hw⟩ := hv
  exact Rt rfl (.one (.rf rfl) rfl rfl) ⟨⟨z, w⟩, rfl, hz, hw⟩
theorem Dot_g (W : Wn G S N) (hu : Gv G S N n u p) (hs : Gv G S N m s q) (hn : n ≤ 190) (hm : m ≤ 190) (h2 : n + m ≤ 190) : C0 103 [.d (dV u), .d (dV s)] (OpG G S N (n + m + (n + m)) (vdot G p q)) := by
  refine En Tryz.func103 fun _ _ => ?_
  refine Ca rfl (both_mul W hu hs hn hm) fun v hv => ?_
  obtain ⟨r, rfl, hr⟩ := hv
  refine No rfl (by simp) ?_
  refine Ca rfl (P9.Add_g W hr.x hr.y h2 h2) fun v hv => ?_
  obtain ⟨z, rfl, hz⟩ := hv
  exact Rt rfl (.tup (.cons (.rf rfl) fitI)) ⟨z, rfl, hz⟩
theorem Cross_g (W : Wn G S N) (hu : Gv G S N n u p) (hs : Gv G S N m s q) (hn : n ≤ 190) (hm : m ≤ 190) (h2 : n + m ≤ 190) : C0 105 [.d (dV u), .d (dV s)] (OpG G S N (n + m + (n + m)) (vcross G p q)) := by
  refine En Tryz.func105 fun _ _ => ?_
  refine Dw rfl ?_
  refine Ca rfl (Left_g W hu hn) fun v hv => ?_
  obtain ⟨r, rfl, hr⟩ := hv
  refine Ca rfl (Dot_g W hr hs hn hm h2) fun v hv => ?_
  obtain ⟨z, rfl, hz⟩ := hv
  exact Rt rfl (.tup (.cons (.rf rfl) fitI)) ⟨z, rfl, hz⟩
theorem Zero_g (W : Wn G S N) (hu : Gv G S N n u p) (hn : n ≤ 800) : C0 45 [.d (dV u)] (· = .b (dc (p = vz K))) := by
  refine En Tryz.func45 fun _ _ => ?_
  refine Ce rfl (P9.Sign_g W hu.x hn) ?_
  refine By rfl (fun h => ?_) fun h => ?_
  · refine Ce rfl (P9.Sign_g W hu.y hn) ?_
    exact R1 rfl (.bp (dc_iff.trans ⟨fun h2 => (vz_iff W.w.g).2 ⟨h, h2⟩, fun h2 => ((vz_iff W.w.g).1 h2).2⟩))
  · exact R1 rfl (.bp ⟨nofun, fun h2 => absurd ((vz_iff W.w.g).1 h2).1 h⟩)
end P13
namespace P19
theorem multiply_g (W : Wn G S N) (hu : Gv G S N n u p) (hs : Gv G S N m s q) (h2 : n + m ≤ 190) : C0 46 [.d (dV u), .d (dV s)] (VoG G S N (n + m + (n + m)) (vmul G p q)) := by
  refine En Tryz.func46 fun _ _ => ?_
  refine Dw rfl ?_
  refine Ca rfl (P9.Neg_g W hu.y (by omega)) fun v hv => ?_
  obtain ⟨z, rfl, hz⟩ := hv
  refine Ca rfl (P13.Dot_g (u := ⟨u.x, z⟩) (p := vcon p) W ⟨hu.x, hz⟩ hs (by omega) (by omega) h2) fun v hv => ?_
  obtain ⟨d, rfl, hd⟩ := hv
  rw [vmul_x] at hd
  refine No rfl (by simp) ?_
  refine Dw rfl ?_
  refine Ca rfl (P9.Neg_g W hu.y (by omega)) fun v hv => ?_
  obtain ⟨z', rfl, hz'⟩ := hv
  refine Ca rfl (P13.Cross_g (u := ⟨u.x, z'⟩) (p := vcon p) W ⟨hu.x, hz'⟩ hs (by omega) (by omega) h2) fun v hv => ?_
  obtain ⟨c, rfl, hc⟩ := hv
  rw [vmul_y] at hc
  refine No rfl (by simp) ?_
  exact Rt rfl (.tup (.cons (.rf rfl) fitI)) ⟨⟨d, c⟩, rfl, hd, hc⟩
theorem upper_g (W : Wn G S N) (hu : Gv G S N n u p) (hn : n ≤ 800) : C0 156 [.d (dV u)] (· = .b (dc (vup G p))) := by
  refine En Tryz.func156 fun _ _ => ?_
  refine Ce rfl (P9.Sign_g W hu.y hn) ?_
  refine By rfl (fun h => ?_) fun h => ?_
  · exact R1 rfl (.bp ⟨fun _ => .inl h, fun _ => rfl⟩)
  · refine By rfl (fun h2 => ?_) fun h2 => ?_
    · refine Ce rfl (P9.Sign_g W hu.x hn) ?_
      exact R1 rfl (.bp (dc_iff.trans ⟨fun h3 => .inr ⟨h2, h3⟩, fun h3 => h3.elim (fun e => absurd e h) fun e => e.2⟩))
    · exact R1 rfl (.bp ⟨nofun, fun h3 => h3.elim (fun e => absurd e h) fun e => absurd e.1 h2⟩)
theorem flat_g (W : Wn G S N) (hu : Gv G S N n u p) (hn : n ≤ 800) : C0 85 [.d (dV u)] (· = .b (dc (vflat G p))) := by
  refine En Tryz.func85 fun _ _ => ?_
  refine Ce rfl (P9.Sign_g W hu.y hn) ?_
  refine By rfl (fun h => ?_) fun h => ?_
  · refine Ce rfl (P9.Sign_g W hu.x hn) ?_
    exact R1 rfl (.bp (dc_iff.trans ⟨fun h3 => ⟨h, h3⟩, fun h3 => h3.2⟩))
  · exact R1 rfl (.bp ⟨nofun, fun h3 => absurd h3.1 h⟩)
theorem compare_g (W : Wn G S N) (hu : Gv G S N n u p) (hs : Gv G S N m s q) (h2 : n + m ≤ 190) : C0 90 [.d (dV u), .d (dV s)] (· = .tup (.pr (.d (.int .i64 (vcmp G p q))) (.d (.int .i64 0)))) := by
  refine En Tryz.func90 fun _ _ => ?_
  refine Dw rfl ?_
  refine Ce rfl (upper_g W hu (by omega)) ?_
  refine Ce rfl (upper_g W hs (by omega)) ?_
  unfold vcmp
  refine By rfl (fun h => ?_) fun h => ?_
  · refine By rfl (fun h1 => ?_) fun h1 => ?_
    · rw [if_neg (by simp [dc_iff, h1] at h ⊢; exact h), if_pos h1]
      exact RTt rfl (.cons (.rf rfl) fitI)
    · rw [if_neg (by simp [dc_iff, h1] at h ⊢; exact h), if_neg h1]
      exact RTt rfl (.cons (.rf rfl) fitI)
  · have d1 : dc True = true := dc_iff.2 trivial
    have d2 : dc False = false := Bool.eq_false_iff.2 fun h => dc_iff.1 h
    have h : vup G p ↔ vup G q := by
      by_cases h1 : vup G p <;> by_cases h2 : vup G q <;> simp [h1, h2, d1, d2] at h ⊢
    rw [if_pos h]
    refine Ca rfl (P13.Cross_g W hu hs (by omega) (by omega) h2) fun v hv => ?_
    obtain ⟨z, rfl, hz⟩ := hv
    refine Ce rfl (P9.Sign_g W hz (by omega)) ?_
    have ht := sgn_tri G (vcross G p q)
    refine Ne (-sgn K G (vcross G p q)) rfl ?_ (wr (Int.zero_sub _) (by simp only [inK]; omega))
    exact RTt rfl (.cons (.rf rfl) fitI)
theorem add_g (W : Wn G S N) (hu : Gv G S N n u p) (hs : Gv G S N m s q) (h2 : n + m + (n + m) + n ≤ 190) (hf : few f) (hg : few g) : C0 80 [.d (dT u f), .d (dT s g)] (fun r => ∃ v, r = .tup (.pr (.d (dT v (vadd G p q f g))) (.d (.int .i64 0))) ∧ Gv G S N (n + m + (n + m)) v (vmul G p q)) := by
  unfold few at hf hg
  refine En Tryz.func80 fun _ _ => ?_
  refine Ca rfl (multiply_g W hu hs (by omega)) fun v hv => ?_
  obtain ⟨d, rfl, hd⟩ := hv
  refine No rfl (by simp) ?_
  refine Ce rfl (compare_g W hd hu h2) ?_
  refine No rfl (by simp) ?_
  refine Ar (f + g) rfl ?_ (wr rfl (by simp only [inK]; omega))
  refine By rfl (fun h => ?_) fun h => ?_
  · refine Ar (f + g + 1) rfl ?_ (wr rfl (by simp only [inK]; omega))
    exact Rt rfl (.tup (.cons (.rf rfl) fitI)) ⟨d, by rw [vadd, if_pos h], hd⟩
  · exact Rt rfl (.tup (.cons (.rf rfl) fitI)) ⟨d, by rw [vadd, if_neg h], hd⟩
theorem limited_g (hu : Gv G S N n u p) : C0 79 [.d (dT u f), .d (.int .i64 0)] (TuG G S N n p f) := by
  refine En Tryz.func79 fun _ _ => ?_
  refine Yes rfl (by decide) ?_
  refine By rfl (fun h => ?_) fun h => ?_
  · refine Yes rfl (by decide) ?_
    exact Rt rfl (.tup (.cons fitT0 fitI)) (.inr ⟨fun h2 => by unfold lim at h2; omega, rfl⟩)
  · refine By rfl (fun h2 => ?_) fun h2 => ?_
    · refine Yes rfl (by decide) ?_
      exact Rt rfl (.tup (.cons fitT0 fitI)) (.inr ⟨fun h2 => by unfold lim at h2; omega, rfl⟩)
    · refine No rfl (by decide) ?_
      exact Rt rfl (.tup (.cons (.rf rfl) fitI)) (.inl ⟨by unfold lim; omega, u, rfl, hu⟩)
theorem Add_g (W : Wn G S N) (hu : Gv G S N n u p) (hs : Gv G S N m s q) (h2 : n + m + (n + m) + n ≤ 190) (hf : few f) (hg : few g) : C0 25 [.d (dT u f), .d (dT s g)] (TuG G S N (n + m + (n + m)) (vmul G p q) (vadd G p q f g)) := by
  refine En Tryz.func25 fun _ _ => ?_
  refine Ca rfl (add_g W hu hs h2 hf hg) fun v hv => ?_
  obtain ⟨d, rfl, hd⟩ := hv
  refine Ca rfl (limited_g hd) fun v hv => ?_
  rcases hv with ⟨h1, w, rfl, hw⟩ | ⟨h1, rfl⟩
  · exact Rt rfl (.tup (.cons (.rf rfl) fitI)) (.inl ⟨h1, w, rfl, hw⟩)
  · exact Rt rfl (.tup (.cons (.rf rfl) fitI)) (.inr ⟨h1, rfl⟩)
theorem Cmp_g (W : Wn G S N) (hu : Gv G S N n u p) (hs : Gv G S N m s q) (h2 : n + m ≤ 190) : C0 35 [.d (dT u f), .d (dT s g)] (· = .tup (.pr (.d (.int .i64 (tcmp G p q f g))) (.d (.int .i64 0)))) := by
  refine En Tryz.func35 fun _ _ => ?_
  unfold tcmp
  refine By rfl (fun h => ?_) fun h => ?_
  · rw [if_pos h]; exact RTt rfl (.cons (.rf rfl) fitI)
  rw [if_neg h]
  refine By rfl (fun h => ?_) fun h => ?_
  · rw [if_pos h]; exact RTt rfl (.cons (.rf rfl) fitI)
  rw [if_neg h]
  refine Ce rfl (compare_g W hu hs h2) ?_
  refine No rfl (by simp) ?_
  exact RTt rfl (.cons (.rf rfl) fitI)
theorem Zero_g (W : Wn G S N) (hu : Gv G S N n u p) (hn : n ≤ 800) : C0 30 [.d (dT u f)] (· = .b (dc (f = 0 ∧ vflat G p))) := by
  refine En Tryz.func30 fun _ _ => ?_
  refine By rfl (fun h => ?_) fun h => ?_
  · refine Ce rfl (flat_g W hu hn) ?_
    exact R1 rfl (.bp (dc_iff.trans ⟨fun h2 => ⟨h, h2⟩, fun h2 => h2.2⟩))
  · exact R1 rfl (.bp ⟨nofun, fun h2 => absurd h2.1 h⟩)
/-- Trim gives the number back -/
def Trm (x : Nm) : Prop := C0 106 [.d (dN x)] (· = .d (dN x))
theorem conjugate_g (W : Wn G S N) (hu : Gv G S N n u p) (ht : Trm u.x) (hn : n ≤ 190) : C0 47 [.d (dV u)] (VeG G S N n (vcon p)) := by
  refine En Tryz.func47 fun _ _ => ?_
  refine Dw rfl ?_
  refine Ce rfl ht ?_
  refine Ca rfl (P9.Neg_g W hu.y hn) fun v hv => ?_
  obtain ⟨z, rfl, hz⟩ := hv
  exact Rt rfl (.one (.rf rfl) rfl rfl) ⟨⟨u.x, z⟩, rfl, hu.x, hz⟩
/-- what the turn from a direction to another one comes back as -/
def OfG (G : Tw K) (S : List (Tow.El K)) (N : List Nm) (n : Nat) (p q : V2 K) (r : AV) : Prop := (¬ (p = vz K ∨ q = vz K) ∧ ∃ v, r = .tup (.pr (.d (dT v 0)) (.d (.int .i64 0))) ∧ Gv G S N n v (vmul G (vcon p) q)) ∨ ((p = vz K ∨ q = vz K) ∧ r = .tup (.pr (.d dT0) (.d (.int .i64 6))))
theorem Of_g (W : Wn G S N) (hu : Gv G S N n u p) (hs : Gv G S N m s q) (ht : Trm u.x) (h2 : n + m ≤ 190) : C0 15 [.d (dV u), .d (dV s)] (OfG G S N (n + m + (n + m)) p q) := by
  refine En Tryz.func15 fun _ _ => ?_
  refine Ce rfl (P13.Zero_g W hu (by omega)) ?_
  refine By rfl (fun h => ?_) fun h => ?_
  · exact Rt rfl (.tup (.cons fitT0 fitI)) (.inr ⟨.inl h, rfl⟩)
  · refine Ce rfl (P13.Zero_g W hs (by omega)) ?_
    refine By rfl (fun h1 => ?_) fun h1 => ?_
    · exact Rt rfl (.tup (.cons fitT0 fitI)) (.inr ⟨.inr h1, rfl⟩)
    refine Dw rfl ?_
    refine Ca rfl (conjugate_g W hu ht (by omega)) fun v hv => ?_
    obtain ⟨c, rfl, hc⟩ := hv
    refine Ca rfl (multiply_g W hc hs h2) fun v hv => ?_
    obtain ⟨d, rfl, hd⟩ := hv
    refine No rfl (by simp) ?_
    exact Rt rfl (.tup (.cons (.rf rfl) fitI)) (.inl ⟨fun e => e.elim h h1, d, rfl, hd⟩)
/-- full turns of the opposite angle -/
def vopp (G : Tw K) (p : V2 K) (f : Int) : Int := if vflat G p then -f else -f - 1
theorem opposite_g (W : Wn G S N) (hu : Gv G S N n u p) (ht : Trm u.x) (hn : n ≤ 190) (hf : few f) : C0 84 [.d (dT u f)] (fun r => ∃ v, r = .d (dT v (vopp G p f)) ∧ Gv G S N n v (vcon p)) := by
  unfold few at hf
  refine En Tryz.func84 fun _ _ => ?_
  refine Dw rfl ?_
  refine Ca rfl (conjugate_g W hu ht hn) fun v hv => ?_
  obtain ⟨c, rfl, hc⟩ := hv
  refine Ne (-f) rfl ?_ (wr (Int.zero_sub _) (by simp only [inK]; omega))
  refine Ce rfl (flat_g W hu (by omega)) ?_
  refine By rfl (fun h => ?_) fun h => ?_
  · have h : ¬ vflat G p := by simpa [dc_not, dc_iff] using h
    refine Ar (-f - 1) rfl ?_ (wr rfl (by simp only [inK]; omega))
    exact Rt rfl (.one (.rf rfl) rfl rfl) ⟨c, by rw [vopp, if_neg h], hc⟩
  · have h : vflat G p := by simpa [dc_not, dc_iff] using h
    exact Rt rfl (.one (.rf rfl) rfl rfl) ⟨c, by rw [vopp, if_pos h], hc⟩
/-- what a tangent comes back as -/
theorem Tangent_g (W : Wn G S N) (hu : Gv G S N n u p) (hn : n ≤ 12) : C0 12 [.d (dT u f)] (fun r => (p.1 = zero K ∧ r = .tup (.pr (.d R9.n0) (.d (.int .i64 6)))) ∨ (p.1 ≠ zero K ∧ DvG G S N (n + (15 * n + 1)) p.2 p.1 r)) := by
  refine En Tryz.func12 fun _ _ => ?_
  refine Ce rfl (P9.Sign_g W hu.x (by omega)) ?_
  refine By rfl (fun h => ?_) fun h => ?_
  · exact Rt rfl (.tup (.cons R9.fit0 fitI)) (.inl ⟨(red_zero W.w.g).1 h, rfl⟩)
  · refine Ca rfl (P9.Div_g W hu.y hu.x (by omega) hn) fun v hv => ?_
    have h : p.1 ≠ zero K := fun e => h ((red_zero W.w.g).2 e)
    rcases hv with ⟨e, rfl⟩ | ⟨w, hw, z, rfl, hz⟩
    · exact absurd e h
    · exact Rt rfl (.tup (.cons (.rf rfl) fitI)) (.inr ⟨h, .inr ⟨w, hw, z, rfl, hz⟩⟩)
end P19
end
end Go.Proofs.YtfmgfaeheljpcaaGreat
