/- numbers: the reference's operations. -/
import Derived.Test.YtfmgfaeheljpcaaGreatYLF
set_option linter.unusedVariables false
set_option linter.unusedSimpArgs false
set_option maxRecDepth 10000
namespace Go.Proofs.YtfmgfaeheljpcaaGreat.R9
open Go Go.Vm Go.Num Go.Tow Go.Proofs.YtfmgfaeheljpcaaGreat
/-- the zero number -/
abbrev n0 : D := .st (.pr (dts []) (dqs []))
theorem fit0 {g : Hp} {K : Hpl} : Fit g K (.st (.pr .nil .nil)) (.d n0) := .sd (.pd (.nil rfl) (.nil rfl))
section
variable {K : Nat} {G : Tw K} {S : List (Tow.El K)} {r p : Nat} {x y : Nm} {vx vy : Tow.El K}
theorem two_ok (W : Wy G S wR) (hx : NOk G S r p x vx) (hy : NOk G S r p y vy) (hp : p ≤ 4000000000) : C0 107 [.d (dN x), .d (dN y)] fun v => ∃ m T a b, v = .tup (.pr (.d (dN ⟨m, T, a⟩)) (.pr (.d (dN ⟨m, T, b⟩)) (.d (.int .i64 0)))) ∧ JnR G S p vx vy m T a b := by
  refine En Tryz.func107 fun _ _ => ?_
  refine Ca rfl (Join_ok W hx hy hp) fun v hv => ?_
  obtain ⟨m, T, a, b, rfl, h⟩ := hv
  refine No rfl (by simp) ?_
  refine Dz rfl ?_
  refine Ix 0 rfl (u := dN ⟨m, T, a⟩) rfl ?_
  refine Ix 1 rfl (u := dN ⟨m, T, b⟩) rfl ?_
  exact Rt rfl (.tup (.cons (.rf rfl) (.cons (.rf rfl) fitI))) ⟨m, T, a, b, rfl, h⟩
/-- a number comes back -/
def OpR (G : Tw K) (S : List (Tow.El K)) (p : Nat) (w : Tow.El K) (v : AV) : Prop := ∃ z : Nm, v = .tup (.pr (.d (dN z)) (.d (.int .i64 0))) ∧ NOk G S wR p z w
theorem Add_ok (W : Wy G S wR) (hx : NOk G S r p x vx) (hy : NOk G S r p y vy) (hp : p ≤ 4000000000) : C0 50 [.d (dN x), .d (dN y)] (OpR G S (oW p) (Tow.add K vx vy)) := by
  have hO : oW p = 16 * p + 147714794 := rfl
  have hJ : jW p = 8 * p + 73803682 := rfl
  refine En Tryz.func50 fun _ _ => ?_
  refine Ca rfl (two_ok W hx hy hp) fun v hv => ?_
  obtain ⟨m, T, a, b, rfl, ρ, h1, h3, h4, h5, h6⟩ := hv
  have h2 := W.t h1
  have hm := W.le h1
  refine No rfl (by simp) ?_
  refine Dw rfl ?_
  refine Ce rfl (R6.Add_el (k := m) (a := a) (b := b) (by omega) h5.ps h6.ps (by omega)) ?_
  exact Rt rfl (.tup (.cons (.rf rfl) fitI)) ⟨⟨m, T, Tow.add m a b⟩, rfl, ⟨ρ, h1, by rw [← h3, ← h4]; exact ev_add⟩, h2, by rw [toL_add]; exact (h5.add h6).mono (by omega)⟩
theorem Mul_ok (W : Wy G S wR) (hx : NOk G S r p x vx) (hy : NOk G S r p y vy) (hp : p ≤ 4000000000) : C0 48 [.d (dN x), .d (dN y)] (OpR G S (oW p) (Tow.mul K G vx vy)) := by
  have hO : oW p = 16 * p + 147714794 := rfl
  have hJ : jW p = 8 * p + 73803682 := rfl
  refine En Tryz.func48 fun _ _ => ?_
  refine Ca rfl (two_ok W hx hy hp) fun v hv => ?_
  obtain ⟨m, T, a, b, rfl, ρ, h1, h3, h4, h5, h6⟩ := hv
  have h2 := W.t h1
  have hm := W.le h1
  have hc := cB_le' (r := wR) hm
  have hC := wC
  refine No rfl (by simp) ?_
  refine Dw rfl ?_
  refine Ce rfl (R6.Mul_el (k := m) (t := T) (a := a) (b := b) h2 h5 h6 (by omega) (by omega)) ?_
  exact Rt rfl (.tup (.cons (.rf rfl) fitI)) ⟨⟨m, T, Tow.mul m T a b⟩, rfl, ⟨ρ, h1, by rw [← h3, ← h4]; exact ev_mul h1.h⟩, h2, (h5.mul h2 h6).mono (by omega)⟩
theorem Neg_ok (hx : NOk G S r p x vx) (hk : x.k ≤ 16) (hp : p ≤ 8796093022208) : C0 110 [.d (dN x)] (· = .d (dN ⟨x.k, x.t, Tow.neg x.k x.a⟩)) := by
  refine En Tryz.func110 fun _ _ => ?_
  refine Dw rfl ?_
  refine Ce rfl (R6.Neg_el hk hx.p.ps hp) ?_
  exact R1 rfl (.rf rfl)
theorem Sub_ok (W : Wy G S wR) (hx : NOk G S r p x vx) (hy : NOk G S r p y vy) (hp : p ≤ 4000000000) : C0 102 [.d (dN x), .d (dN y)] (OpR G S (oW p) (Tow.add K vx (Tow.neg K vy))) := by
  have := hy.le (red_real W.g) W.s
  refine En Tryz.func102 fun _ _ => ?_
  refine Dw rfl ?_
  refine Ce rfl (Neg_ok hy (by omega) (by omega)) ?_
  refine Ca rfl (Add_ok W hx hy.neg hp) fun v hv => ?_
  obtain ⟨z, rfl, h⟩ := hv
  exact Rt rfl (.tup (.cons (.rf rfl) fitI)) ⟨z, rfl, h⟩
theorem Sign_ok (hG : red K G) (hx : NOk G S r p x vx) (hk : x.k ≤ 16) (hv : vB r x.k p ≤ 4398046511104) : C0 18 [.d (dN x)] (· = .d (.int .i64 (sgn K G vx))) := by
  refine En Tryz.func18 fun _ _ => ?_
  refine Ce rfl (R7.Fast_ok hx.r hx.p hk hv) ?_
  rw [hx.sgn (red_real hG)]
  exact R0
theorem Div_ok (W : Wy G S wR) {q : Nat} (hx : NOk G S r q x vx) (hy : NOk G S r p y vy) (hq : iS r 3 p ≤ q) (hi : iB r 3 p ≤ 4398046511104) (hp : q ≤ 4000000000) :
    C0 19 [.d (dN x), .d (dN y)] fun v => (vy = zero K ∧ v = .tup (.pr (.d n0) (.d (.int .i64 6)))) ∨ ∃ w, Tow.mul K G w vy = rat K 1 ∧ OpR G S (oW q) (Tow.mul K G vx w) v := by
  have hy3 := hy.le (red_real W.g) W.s
  obtain ⟨ρ, h1, h2⟩ := hy.ex
  refine En Tryz.func19 fun _ _ => ?_
  by_cases h0 : y.a = zero y.k
  · have hc := R6.Inv0_ok (t := y.t) (by omega)
    rw [← h0] at hc
    refine Ce rfl hc ?_
    refine Yes rfl (by decide) ?_
    exact Rt rfl (.tup (.cons fit0 fitI)) (.inl ⟨by rw [← h2, h0, ev_zero], rfl⟩)
  · obtain ⟨i, hi1⟩ := (red_fld h1.r).2 y.a h0
    have hle := iB_le (r := r) (p := p) hy3
    have hls := iS_le (r := r) (p := p) hy3
    refine Ce rfl (R6.Inv_ok hy.r hy.p h1.r hi1 (by omega) (by omega)) ?_
    refine No rfl (by simp) ?_
    have hz : NOk G S r q ⟨y.k, y.t, i⟩ (ev G ρ y.k i) := ⟨⟨ρ, h1, rfl⟩, hy.r, (Sz.invS hy.r hy.p hi1).mono (by omega)⟩
    refine Ca rfl (Mul_ok (y := ⟨y.k, y.t, i⟩) W hx hz hp) fun v hv => ?_
    obtain ⟨z, rfl, h⟩ := hv
    exact Rt rfl (.tup (.cons (.rf rfl) fitI)) (.inr ⟨ev G ρ y.k i, by rw [← h2, ← ev_mul h1.h, inv_mul hi1, ev_rat], z, rfl, h⟩)
/-- what a square root comes back as -/
def RtR (x : Nm) (v : AV) : Prop := ∃ z : Nm, v = .tup (.pr (.d (dN z)) (.d (.int .i64 0))) ∧ ((∃ y, z = ⟨x.k, x.t, y⟩ ∧ Tow.mul x.k x.t y y = x.a ∧ 0 ≤ sgn x.k x.t y) ∨ (z = ⟨x.k + 1, tsn x.t x.a, root (x.k + 1) x.k⟩ ∧ 0 ≤ sgn x.k x.t x.a ∧ ¬ isSq x.k x.t x.a))
theorem Sqrt_ok (hr : red x.k x.t) (hT : TS r x.k x.t) (ha : Sz p (toL x.k x.a)) (h0 : 0 ≤ sgn x.k x.t x.a) (hk : x.k < 8) (hq : qB r x.k p ≤ 4398046511104) (hq2 : qB r x.k r ≤ 4398046511104) (hv : vB r x.k (p + gC r x.k) ≤ 4398046511104) (hv2 : vB r x.k r ≤ 4398046511104) :
    C0 220 [.d (dN x)] (RtR x) := by
  refine En Tryz.func220 fun _ _ => ?_
  refine Ca rfl (R8.Adjoin_ok hT ha hr hk hq hq2 hv hv2) fun v hv => ?_
  rcases hv with ⟨h1, rfl⟩ | ⟨y, h1, h2, rfl⟩ | ⟨h1, h2, h3, rfl⟩
  · omega
  · refine No rfl (by simp) ?_
    exact Rt rfl (.tup (.cons (.rf rfl) fitI)) ⟨⟨x.k, x.t, y⟩, rfl, .inl ⟨y, rfl, h1, h2⟩⟩
  · refine No rfl (by simp) ?_
    exact Rt rfl (.tup (.cons (.rf rfl) fitI)) ⟨⟨x.k + 1, tsn x.t x.a, root (x.k + 1) x.k⟩, rfl, .inr ⟨rfl, h1, h2⟩⟩
theorem FromRat_ok {q : Rat} : C0 94 [.d (dq q)] (· = .d (dN ⟨0, (), q⟩)) := by
  refine En Tryz.func94 fun _ _ => ?_
  exact R1 rfl (.sd (.pd (.nil rfl) (.lit rfl)))
theorem FromInt_ok {z : Int} (h : -9223372036854775808 ≤ z ∧ z < 9223372036854775808) : C0 39 [.d (.int .i64 z)] (· = .d (dN ⟨0, (), (z : Rat)⟩)) := by
  refine En Tryz.func39 fun _ _ => ?_
  refine Ce rfl (R2.FromInt_ok h) ?_
  refine Ce rfl FromRat_ok ?_
  exact R1 rfl (.rf rfl)
theorem Frac_ok {a b : Int} (ha : -9223372036854775808 ≤ a ∧ a < 9223372036854775808) (hb : -9223372036854775808 ≤ b ∧ b < 9223372036854775808) (hb0 : b ≠ 0) : C0 218 [.d (.int .i64 a), .d (.int .i64 b)] (· = .d (dN ⟨0, (), Rat.divInt a b⟩)) := by
  refine En Tryz.func218 fun _ _ => ?_
  refine Ce rfl (R2.Frac_ok ha hb hb0) ?_
  refine Ce rfl FromRat_ok ?_
  exact R1 rfl (.rf rfl)
theorem made_ok : C0 219 [.d (dN x), .d (.int .i64 0), .d (dN y)] (· = .d (dN x)) := by
  refine En Tryz.func219 fun _ _ => ?_
  refine No rfl (by simp) ?_
  exact R1 rfl (.rf rfl)
theorem made6_ok : C0 219 [.d n0, .d (.int .i64 6), .d (dN y)] (· = .d (dN y)) := by
  refine En Tryz.func219 fun _ _ => ?_
  refine Yes rfl (by simp) ?_
  exact R1 rfl (.rf rfl)
end
end Go.Proofs.YtfmgfaeheljpcaaGreat.R9
