/- Numbers of known size in a world: n counts short numbers. -/
import Derived.Test.YtfmgfaeheljpcaaGreatYMD
set_option linter.unusedVariables false
set_option linter.unusedSimpArgs false
namespace Go.Tow
open Go Go.Num Go.Proofs.YtfmgfaeheljpcaaGreat
variable {K : Nat} {G : Tw K} {S : List (El K)} {N : List Nm} {n m : Nat} {x y z : Nm} {v w : El K} {r p : Nat}
/-- a world with its short numbers -/
structure Wn (G : Tw K) (S : List (El K)) (N : List Nm) : Prop where
  w : Wy G S wR
  h : ∀ z ∈ N, ∃ ρz, TOk G S z.k z.t ρz
def gB (n : Nat) : Nat := n * 20000000 - 107430
structure Gd (G : Tw K) (S : List (El K)) (N : List Nm) (n : Nat) (x : Nm) (v : El K) : Prop where
  o : NOk G S wR (gB n) x v
  g : Gs G S N (gB n) v
  n : 1 ≤ n
theorem Gd.neg (h : Gd G S N n x v) : Gd G S N n ⟨x.k, x.t, Tow.neg x.k x.a⟩ (Tow.neg K v) := ⟨h.o.neg, h.g.neg, h.n⟩
theorem Gd.short (W : Wn G S N) (hz : NOk G S 300 600 z v) (hN : z ∈ N) : Gd G S N 1 z v := by
  have h := (Gs.short W.w hz hN).mono (show _ ≤ gB 1 by decide +kernel)
  exact ⟨hz.re W.w W.h h, h, Nat.le_refl _⟩
theorem Gd.add (W : Wn G S N) (hx : Gd G S N n x v) (hy : Gd G S N m y w) (hz : NOk G S r p z (Tow.add K v w)) : Gd G S N (n + m) z (Tow.add K v w) := by
  have h := (hx.g.add hy.g).mono (show _ ≤ gB (n + m) by have := hx.n; have := hy.n; unfold gB; omega)
  exact ⟨hz.re W.w W.h h, h, Nat.le_trans hx.n (Nat.le_add_right ..)⟩
theorem Gd.mul (W : Wn G S N) (hx : Gd G S N n x v) (hy : Gd G S N m y w) (hz : NOk G S r p z (Tow.mul K G v w)) : Gd G S N (n + m) z (Tow.mul K G v w) := by
  have h := (hx.g.mul W.w hy.g).mono (show _ ≤ gB (n + m) by rw [wC]; have := hx.n; have := hy.n; unfold gB; omega)
  exact ⟨hz.re W.w W.h h, h, Nat.le_trans hx.n (Nat.le_add_right ..)⟩
theorem wS {p : Nat} : iS wR 3 p = 15 * p + 966862 := by
  show p + (nS wR 2 p + (nS wR 1 (nS wR 2 p) + (nS wR 0 (nS wR 1 (nS wR 2 p)) + 1) + cB wR 0) + cB wR 1) + cB wR 2 = _
  unfold nS
  rw [show cB wR 0 = 0 from rfl, show cB wR 1 = 15347 by decide +kernel, show cB wR 2 = 46041 by decide +kernel, wR_eq]
  omega
theorem Gd.inv (W : Wn G S N) (hy : Gd G S N m y w) (hv : Tow.mul K G v w = Tow.rat K 1) : Gs G S N (gB (15 * m + 1)) v := (hy.g.inv W.w hv).mono (by rw [wS]; have := hy.n; unfold gB; omega)
theorem Gd.div (W : Wn G S N) {u : El K} (hx : Gd G S N n x v) (hy : Gd G S N m y w) (hv : Tow.mul K G u w = Tow.rat K 1) (hz : NOk G S r p z (Tow.mul K G v u)) : Gd G S N (n + (15 * m + 1)) z (Tow.mul K G v u) := by
  have h := (hx.g.mul W.w (hy.inv W hv)).mono (show _ ≤ gB (n + (15 * m + 1)) by rw [wC]; have := hx.n; unfold gB; omega)
  exact ⟨hz.re W.w W.h h, h, Nat.le_trans hx.n (Nat.le_add_right ..)⟩
theorem Gd.rat (W : Wn G S N) {q : Rat} (h : Qs 64 q) : Gd G S N 1 ⟨0, (), q⟩ (Tow.rat K q) := by
  have h0 : NOk G S 0 65 ⟨0, (), q⟩ (Tow.rat K q) := ⟨⟨fun _ => zero _, ⟨trivial, trivial, fun i hi => absurd hi (Nat.not_lt_zero _)⟩, rfl⟩, trivial, Sz.rat 0 h⟩
  have hg : Gs G S N (gB 1) (Tow.rat K q) := (Gs.rat h).mono (by decide)
  exact ⟨h0.re W.w W.h hg, hg, Nat.le_refl _⟩
theorem Gd.le (W : Wn G S N) (h : Gd G S N n x v) : x.k ≤ 3 := h.o.le (red_real W.w.g) W.w.s
/-- as an operand -/
theorem Gd.op (h : Gd G S N n x v) (hn : n ≤ 190) : NOk G S wR 3799892570 x v := h.o.mono (Nat.le_refl _) (by unfold gB; omega)
theorem vB_gB (W : Wn G S N) (h : Gd G S N n x v) (hn : n ≤ 800) : vB wR x.k (gB n) ≤ 4398046511104 := Nat.le_trans (Nat.le_trans (vB_le (h.le W)) (vB_mono (show gB n ≤ oW 4000000000 by unfold gB oW; omega))) wV
theorem vB_wR (W : Wn G S N) (h : Gd G S N n x v) : vB wR x.k wR ≤ 4398046511104 := Nat.le_trans (vB_le (h.le W)) wQ.2.2.2
end Go.Tow
namespace Go.Proofs.YtfmgfaeheljpcaaGreat
open Go Go.Vm Go.Num Go.Tow
section
variable {K : Nat} {G : Tw K} {S : List (Tow.El K)} {N : List Nm} {n m : Nat} {x y z : Nm} {v w : Tow.El K}
/-- a number of known size comes back -/
def OpG (G : Tw K) (S : List (Tow.El K)) (N : List Nm) (n : Nat) (w : Tow.El K) (r : AV) : Prop := ∃ z : Nm, r = .tup (.pr (.d (dN z)) (.d (.int .i64 0))) ∧ Gd G S N n z w
/-- a number of known size comes back, without an error -/
def OnG (G : Tw K) (S : List (Tow.El K)) (N : List Nm) (n : Nat) (w : Tow.El K) (r : AV) : Prop := ∃ z : Nm, r = .d (dN z) ∧ Gd G S N n z w
theorem P9.Add_g (W : Wn G S N) (hx : Gd G S N n x v) (hy : Gd G S N m y w) (hn : n ≤ 190) (hm : m ≤ 190) : C0 174 [.d (dN x), .d (dN y)] (OpG G S N (n + m) (Tow.add K v w)) := (P9.Add_ok W.w (hx.op hn) (hy.op hm) (by decide)).mono fun _ ⟨z, e, h⟩ => ⟨z, e, hx.add W hy h⟩
theorem R9.Add_g (W : Wn G S N) (hx : Gd G S N n x v) (hy : Gd G S N m y w) (hn : n ≤ 190) (hm : m ≤ 190) : C0 50 [.d (dN x), .d (dN y)] (OpG G S N (n + m) (Tow.add K v w)) := (R9.Add_ok W.w (hx.op hn) (hy.op hm) (by decide)).mono fun _ ⟨z, e, h⟩ => ⟨z, e, hx.add W hy h⟩
theorem P9.Mul_g (W : Wn G S N) (hx : Gd G S N n x v) (hy : Gd G S N m y w) (hn : n ≤ 190) (hm : m ≤ 190) : C0 101 [.d (dN x), .d (dN y)] (OpG G S N (n + m) (Tow.mul K G v w)) := (P9.Mul_ok W.w (hx.op hn) (hy.op hm) (by decide)).mono fun _ ⟨z, e, h⟩ => ⟨z, e, hx.mul W hy h⟩
theorem R9.Mul_g (W : Wn G S N) (hx : Gd G S N n x v) (hy : Gd G S N m y w) (hn : n ≤ 190) (hm : m ≤ 190) : C0 48 [.d (dN x), .d (dN y)] (OpG G S N (n + m) (Tow.mul K G v w)) := (R9.Mul_ok W.w (hx.op hn) (hy.op hm) (by decide)).mono fun _ ⟨z, e, h⟩ => ⟨z, e, hx.mul W hy h⟩
theorem R9.Sub_g (W : Wn G S N) (hx : Gd G S N n x v) (hy : Gd G S N m y w) (hn : n ≤ 190) (hm : m ≤ 190) : C0 102 [.d (dN x), .d (dN y)] (OpG G S N (n + m) (Tow.add K v (Tow.neg K w))) := (R9.Sub_ok W.w (hx.op hn) (hy.op hm) (by decide)).mono fun _ ⟨z, e, h⟩ => ⟨z, e, hx.add W hy.neg h⟩
theorem P9.Neg_g (W : Wn G S N) (hx : Gd G S N n x v) (hn : n ≤ 190) : C0 104 [.d (dN x)] (OnG G S N n (Tow.neg K v)) := (P9.Neg_ok hx.o (by have := hx.le W; omega) (by decide) (by unfold gB; omega)).mono fun _ e => ⟨_, e, hx.neg⟩
theorem R9.Neg_g (W : Wn G S N) (hx : Gd G S N n x v) (hn : n ≤ 190) : C0 110 [.d (dN x)] (OnG G S N n (Tow.neg K v)) := (R9.Neg_ok hx.o (by have := hx.le W; omega) (by unfold gB; omega)).mono fun _ e => ⟨_, e, hx.neg⟩
theorem P9.Sign_g (W : Wn G S N) (hx : Gd G S N n x v) (hn : n ≤ 800) : C0 42 [.d (dN x)] (· = .d (.int .i64 (sgn K G v))) := P9.Sign_ok W.w.g hx.o (by have := hx.le W; omega) (vB_gB W hx hn) (vB_wR W hx)
theorem R9.Sign_g (W : Wn G S N) (hx : Gd G S N n x v) (hn : n ≤ 800) : C0 18 [.d (dN x)] (· = .d (.int .i64 (sgn K G v))) := R9.Sign_ok W.w.g hx.o (by have := hx.le W; omega) (vB_gB W hx hn)
theorem P9.Cmp_g (W : Wn G S N) (hx : Gd G S N n x v) (hy : Gd G S N m y w) (hn : n ≤ 190) (hm : m ≤ 190) : C0 123 [.d (dN x), .d (dN y)] (· = .tup (.pr (.d (.int .i64 (sgn K G (Tow.add K v (Tow.neg K w))))) (.d (.int .i64 0)))) := P9.Cmp_ok W.w (hx.op hn) (hy.op hm) (by decide)
/-- what a quotient comes back as -/
def DvG (G : Tw K) (S : List (Tow.El K)) (N : List Nm) (n : Nat) (v w : Tow.El K) (r : AV) : Prop := (w = zero K ∧ r = .tup (.pr (.d R9.n0) (.d (.int .i64 6)))) ∨ ∃ u, Tow.mul K G u w = rat K 1 ∧ OpG G S N n (Tow.mul K G v u) r
theorem P9.Div_g (W : Wn G S N) (hx : Gd G S N n x v) (hy : Gd G S N m y w) (hn : n ≤ 190) (hm : m ≤ 12) : C0 43 [.d (dN x), .d (dN y)] (DvG G S N (n + (15 * m + 1)) v w) := by
  have hi : iB wR 3 (gB m) ≤ 4398046511104 := Nat.le_trans (iB_mono (Nat.le_refl _) (show gB m ≤ 4000000000 by unfold gB; omega)) wB
  have hq : iS wR 3 (gB m) ≤ 3799892570 := by rw [wS]; unfold gB; omega
  refine (P9.Div_ok W.w (hx.op hn) hy.o hq hi (by decide) (by decide)).mono fun r hr => ?_
  rcases hr with h | ⟨u, h1, z, e, h2⟩
  · exact .inl h
  · exact .inr ⟨u, h1, z, e, hx.div W hy h1 h2⟩
theorem R9.Div_g (W : Wn G S N) (hx : Gd G S N n x v) (hy : Gd G S N m y w) (hn : n ≤ 190) (hm : m ≤ 12) : C0 19 [.d (dN x), .d (dN y)] (DvG G S N (n + (15 * m + 1)) v w) := by
  have hi : iB wR 3 (gB m) ≤ 4398046511104 := Nat.le_trans (iB_mono (Nat.le_refl _) (show gB m ≤ 4000000000 by unfold gB; omega)) wB
  have hq : iS wR 3 (gB m) ≤ 3799892570 := by rw [wS]; unfold gB; omega
  refine (R9.Div_ok W.w (hx.op hn) hy.o hq hi (by decide)).mono fun r hr => ?_
  rcases hr with h | ⟨u, h1, z, e, h2⟩
  · exact .inl h
  · exact .inr ⟨u, h1, z, e, hx.div W hy h1 h2⟩
end
end Go.Proofs.YtfmgfaeheljpcaaGreat
