/- square roots in reduced towers: the reference. -/
import Derived.Test.YtfmgfaeheljpcaaGreatYLB
set_option linter.unusedVariables false
set_option linter.unusedSimpArgs false
set_option maxRecDepth 10000
namespace Go.Proofs.YtfmgfaeheljpcaaGreat
open Go Go.Vm Go.Num Go.Tow
theorem fitN {p : Prop} (h : ¬ p) {g : Hp} {K : Hpl} : FitT g K (.b false) (.b (dc p)) := .one (by exact .bp (c := false) ⟨nofun, fun e => absurd e h⟩) (fun _ _ e => by cases e) (fun _ _ e => by cases e)
theorem fitY {p : Prop} (h : p) {g : Hp} {K : Hpl} : FitT g K (.b true) (.b (dc p)) := .one (by exact .bp (c := true) ⟨fun _ => h, fun _ => rfl⟩) (fun _ _ e => by cases e) (fun _ _ e => by cases e)
theorem fitI {n : Int} {g : Hp} {K : Hpl} : FitT g K (.d (.int .i64 n)) (.d (.int .i64 n)) := .one (.rf rfl) (fun _ _ e => by cases e) (fun _ _ e => by cases e)
/-- what a square root comes back as -/
def SqR (k : Nat) (t : Tw k) (a : Tow.El k) (v : AV) : Prop := ∃ w : D, v = .tup (.pr (.d w) (.b (dc (isSq k t a)))) ∧ (isSq k t a → ∃ x, mul k t x x = a ∧ w = de x)
theorem half_dq : (Rat.divInt 1 2) = 1 / 2 := by decide +kernel
end Go.Proofs.YtfmgfaeheljpcaaGreat
namespace Go.Proofs.YtfmgfaeheljpcaaGreat.R6
open Go Go.Vm Go.Num Go.Tow Go.Proofs.YtfmgfaeheljpcaaGreat
theorem FromRat_el {k : Nat} {t : Tw k} {x : Rat} (hk : k ≤ 16) : C0 114 [.d (dt t), .d (dq x)] (· = .d (de (rat k x))) := by
  have := FromRat_ok (t := toT k t) (x := x) (by rw [toT_length]; omega)
  rwa [toT_length, ← toL_rat] at this
theorem FromRat_z {k : Nat} {t : Tw k} (hk : k ≤ 16) : C0 114 [.d (dt t), .d (dq 0)] (· = .d (de (zero k))) := by
  have := FromRat_el (t := t) (x := 0) hk
  rwa [rat_zero] at this
end Go.Proofs.YtfmgfaeheljpcaaGreat.R6
namespace Go.Proofs.YtfmgfaeheljpcaaGreat.R8
open Go Go.Vm Go.Num Go.Tow Go.Proofs.YtfmgfaeheljpcaaGreat
theorem join_ok {l m : List Rat} (h0 : 0 < l.length) (hl : l.length + m.length ≤ 1048576) : C0 304 [.d (dqs l), .d (dqs m)] (· = .d (dqs (l ++ m))) := by
  refine En Tryz.func304 fun _ _ => ?_
  refine ApL (l.map dq) rfl rfl (by simp; omega) (by simp; omega) ?_
  refine ApO ((l ++ m).map dq) rfl rfl rfl (by simp) (by simp; omega) ?_
  exact R1 rfl (.own rfl (by simp) (by rw [List.drop_zero]; exact List.take_of_length_le (by simp)))
theorem join_el {k : Nat} {x y : Tow.El k} (hk : k ≤ 16) : C0 304 [.d (de x), .d (de y)] (· = .d (de (pr x y))) :=
  join_ok (by rw [toL_length]; exact Nat.two_pow_pos k) (by rw [toL_length, toL_length]; have := p16 hk; omega)
theorem square_ok {k : Nat} : ∀ {r p : Nat} {t : Tw k} {a : Tow.El k}, TS r k t → Sz p (toL k a) → red k t → k ≤ 16 → qB r k p ≤ 4398046511104 → C0 273 [.d (dt t), .d (de a)] (SqR k t a) := by
  induction k with
  | zero =>
    intro r p t a hT ha hR hk hq
    have hq : p ≤ 4398046511104 := hq
    have key : ∀ y : Rat, Qs p y → C0 273 [.d (dts []), .d (dqs [y])] fun v => ∃ w : D, v = .tup (.pr (.d w) (.b (dc (∃ x : Rat, x * x = y)))) ∧ ((∃ x : Rat, x * x = y) → ∃ x : Rat, x * x = y ∧ w = dqs [x]) := fun y hy => by
      refine En Tryz.func273 fun _ _ => ?_
      refine Yes rfl rfl ?_
      refine Ix 0 rfl (u := dq y) rfl ?_
      refine Ca rfl (R2.Sqrt_ok hy (by omega)) fun v hv => ?_
      obtain ⟨b, l, b', l', rfl, hw⟩ := hv
      exact Rt rfl (.tup (.cons (.lit rfl) (.one (.rf rfl) (fun _ _ e => by cases e) (fun _ _ e => by cases e)))) ⟨_, rfl, fun h => let ⟨y, h1, h2⟩ := hw h; ⟨y, h1, by rw [show dqs [y] = D.sl 4 [dq y] from rfl, ← h2]; rfl⟩⟩
    exact key a (ha.qs (List.mem_singleton.2 rfl))
  | succ k ih =>
    intro r p t a hT ha hR hk hq
    have hx : Sz p (toL k a.1) := Sz.left ha
    have hy : Sz p (toL k a.2) := Sz.right ha
    have hlen := toL_length k
    have hpk := p16 (show k ≤ 16 by omega)
    have hz := ha.normS hT
    have L := ring k t.1
    have hqq : p + vB r (k + 1) p + vB r (k + 1) r + nB r k p + qB r k (sX r k p) + iB r k (sX r k p + gC r k) + iS r k (sX r k p + gC r k) + iB r k r + 2 * cB r k + 4 ≤ 4398046511104 := hq
    have hX : sX r k p = p + nS r k p + gC r k + cB r k + iS r k r + 4 := rfl
    have hN : nB r k p = 4 * p + 3 * cB r k + r + 1 := rfl
    have q1 : qB r k p ≤ qB r k (sX r k p) := qB_mono (by omega)
    have q2 : qB r k (nS r k p) ≤ qB r k (sX r k p) := qB_mono (by omega)
    have q3 : qB r k (p + iS r k r + cB r k) ≤ qB r k (sX r k p) := qB_mono (by omega)
    have q4 : sX r k p ≤ qB r k (sX r k p) := qB_ge
    have hr0 : t.2 ≠ zero k := fun h0 => hR.2.2 ⟨zero k, by rw [h0, L.mz]⟩
    obtain ⟨i, hi⟩ := (red_fld hR.1).2 t.2 hr0
    have him := inv_mul hi
    have hiz := Sz.invS hT.1 hT.2 hi
    refine En Tryz.func273 fun _ _ => ?_
    refine No rfl (by show ¬ ((((toT k t.1 ++ [toL k t.2]).map dqs).length : Nat) : Int) = 0; rw [twL]; omega) ?_
    refine Ce rfl (R7.Sign_ok hT ha (red_real hR) hk (by omega) (by omega)) ?_
    refine By rfl (fun h => ?_) fun h => ?_
    · have no : ¬ isSq (k + 1) t a := fun e => by have := sq_nn (red_real hR) e; omega
      exact Rt rfl (.tup (.cons (.nil (sz := 4) rfl) (fitN no))) ⟨_, rfl, fun e => absurd e no⟩
    refine Ar k rfl ?_ (tw1 t (by omega))
    refine Dw rfl ?_
    refine Tk k ((toT k t.1).map dqs) rfl rfl (tw_le t) (twT t) ?_
    refine Ix k rfl (twU t) ?_
    refine Ar (2 ^ k : Nat) rfl ?_ (hvq a (by omega))
    refine Dw rfl ?_
    refine Tk (2 ^ k) ((toL k a.1).map dq) rfl rfl (hv_le a) (hvT a) ?_
    refine Dp (2 ^ k) ((toL k a.2).map dq) rfl rfl (hv_le a) (hvD a) ?_
    refine Ce rfl (R2.FromInt_ok (z := 0) (by decide)) ?_
    refine Ce rfl (R6.FromRat_z (t := t.1) (by omega)) ?_
    refine Ce rfl (R6.Zero_ok (l := toL k a.2) (by rw [hlen]; omega)) ?_
    refine By rfl (fun hv => ?_) fun hv => ?_
    · have ev := (eq_zero_iff k a.2).2 hv
      have ea : a = up k a.1 := by show (a.1, a.2) = (a.1, zero k); rw [ev]
      refine Ca rfl (ih hT.1 hx hR.1 (by omega) (by omega)) fun v hv => ?_
      obtain ⟨w, rfl, hw⟩ := hv
      refine By rfl (fun h1 => ?_) fun h1 => ?_
      · obtain ⟨x, hx1, rfl⟩ := hw h1
        have hs : mul (k + 1) t (pr x (zero k)) (pr x (zero k)) = a := (sq_up hx1).trans ea.symm
        refine Ce rfl (join_el (x := x) (y := zero k) (by omega)) ?_
        exact Rt rfl (.tup (.cons (.rf rfl) (fitY ⟨_, hs⟩))) ⟨_, rfl, fun _ => ⟨_, hs, rfl⟩⟩
      · refine Ce rfl (R6.Inv_ok hT.1 hT.2 hR.1 hi (by omega) (by omega)) ?_
        refine Ce rfl (R6.Mul_el hT.1 hx hiz (by omega) (by omega)) ?_
        refine Ca rfl (ih hT.1 (hx.mul hT.1 hiz) hR.1 (by omega) (by omega)) fun v hv => ?_
        obtain ⟨w, rfl, hw⟩ := hv
        refine By rfl (fun h2 => ?_) fun h2 => ?_
        · obtain ⟨x, hx1, rfl⟩ := hw h2
          have hs : mul (k + 1) t (pr (zero k) x) (pr (zero k) x) = a := (sq_low him hx1).trans ea.symm
          refine Ce rfl (join_el (x := zero k) (y := x) (by omega)) ?_
          exact Rt rfl (.tup (.cons (.rf rfl) (fitY ⟨_, hs⟩))) ⟨_, rfl, fun _ => ⟨_, hs, rfl⟩⟩
        · have no : ¬ isSq (k + 1) t a := ea ▸ sq_low_no hR.1 him h1 h2
          exact Rt rfl (.tup (.cons (.nil (sz := 4) rfl) (fitN no))) ⟨_, rfl, fun e => absurd e no⟩
    have ev : a.2 ≠ zero k := fun e => hv ((eq_zero_iff k a.2).1 e)
    refine Ce rfl (R6.Mul_el hT.1 hx hx (by omega) (by omega)) ?_
    refine Ce rfl (R6.Mul_el hT.1 hy hy (by omega) (by omega)) ?_
    refine Ce rfl (R6.Mul_el hT.1 hT.2 (hy.mul hT.1 hy) (by omega) (by omega)) ?_
    refine Ce rfl (R6.Sub_el (by omega) (hx.mul hT.1 hx).ps (hT.2.mul hT.1 (hy.mul hT.1 hy)) (by omega)) ?_
    rw [L.mc t.2]
    refine Ca rfl (ih hT.1 hz hR.1 (by omega) (by omega)) fun v hv => ?_
    obtain ⟨w, rfl, hw⟩ := hv
    refine By rfl (fun h1 => ?_) fun h1 => ?_
    · have no : ¬ isSq (k + 1) t a := fun e => by
        exact h1 (sq_norm e)
      exact Rt rfl (.tup (.cons (.nil (sz := 4) rfl) (fitN no))) ⟨_, rfl, fun e => absurd e no⟩
    obtain ⟨m, hm, rfl⟩ := hw (Classical.not_not.1 h1)
    have hm : mul k t.1 m m = Tow.norm k t a := hm
    have hmz := hz.rootS hT.1 hR.1 hm
    refine Ce rfl (R2.Frac_ok (a := 1) (b := 2) (by decide) (by decide) (by decide)) ?_
    rw [half_dq]
    refine Ce rfl (R6.FromRat_el (t := t.1) (x := 1 / 2) (by omega)) ?_
    refine Lo (fun (x : Nat × Tow.El k) => [(9, .d (dt t.1)), (12, .d (de a.1)), (13, .d (de a.2)), (22, .d (de x.2)), (24, .d (de (rat k (1 / 2)))), (25, .d (.int .i64 x.1))]) (fun _ => []) (fun x => (x.1 = 0 ∧ x.2 = m) ∨ (x.1 = 1 ∧ x.2 = Tow.neg k m ∧ ¬ isSq k t.1 (mul k t.1 (rat k (1 / 2)) (Tow.add k a.1 m))) ∨ (x.1 = 2 ∧ ¬ isSq k t.1 (mul k t.1 (rat k (1 / 2)) (Tow.add k a.1 m)) ∧ ¬ isSq k t.1 (mul k t.1 (rat k (1 / 2)) (Tow.add k a.1 (Tow.neg k m))))) (fun x => 2 - x.1) (0, m) [] rfl (.inl ⟨rfl, rfl⟩) (fun (j, mm) hI => ?_)
    simp only at hI
    refine By rfl (fun h2 => ?_) fun h2 => ?_
    · have hmm : mul k t.1 mm mm = Tow.norm k t a ∧ Sz (nS r k p + gC r k) (toL k mm) := by
        rcases hI with ⟨_, rfl⟩ | ⟨_, rfl, _⟩ | ⟨rfl, _⟩
        · exact ⟨hm, hmz⟩
        · exact ⟨by rw [L.mn, L.nm, L.nn, hm], neg_sz hmz⟩
        · omega
      have hS : Sz (3 + (p + (nS r k p + gC r k) + 1) + cB r k) (toL k (mul k t.1 (rat k (1 / 2)) (Tow.add k a.1 mm))) := Sz.half.mul hT.1 (by rw [toL_add]; exact hx.add hmm.2)
      have q5 : qB r k (3 + (p + (nS r k p + gC r k) + 1) + cB r k) ≤ qB r k (sX r k p) := qB_mono (by omega)
      refine Ce rfl (R6.Add_el (by omega) hx.ps hmm.2.ps (by omega)) ?_
      refine Ce rfl (R6.Mul_el hT.1 Sz.half (by rw [toL_add]; exact hx.add hmm.2) (by omega) (by omega)) ?_
      refine Ca rfl (ih hT.1 hS hR.1 (by omega) (by omega)) fun v hv => ?_
      obtain ⟨w, rfl, hw⟩ := hv
      refine By rfl (fun h3 => ?_) fun h3 => ?_
      · obtain ⟨w, hw1, rfl⟩ := hw h3
        have hw0 := sq_w0 hR ev hmm.1 hw1
        obtain ⟨j, hj⟩ := (red_fld hR.1).2 w hw0
        have hwz : Sz (sX r k p + gC r k) (toL k w) := (hS.rootS hT.1 hR.1 hw1).mono (by omega)
        have hjz := Sz.invS hT.1 hwz hj
        have hs : mul (k + 1) t (pr w (mul k t.1 (rat k (1 / 2)) (mul k t.1 a.2 j))) (pr w (mul k t.1 (rat k (1 / 2)) (mul k t.1 a.2 j))) = a := by
          have := sq_hi hmm.1 hw1 (half_inv (inv_mul hj))
          rwa [show mul k t.1 a.2 (mul k t.1 (rat k (1 / 2)) j) = mul k t.1 (rat k (1 / 2)) (mul k t.1 a.2 j) from L.mlc _ _ _] at this
        refine Ce rfl (R6.Inv_ok hT.1 hwz hR.1 hj (by omega) (by omega)) ?_
        refine Ce rfl (R6.Mul_el hT.1 hy hjz (by omega) (by omega)) ?_
        refine Ce rfl (R6.Mul_el hT.1 Sz.half (hy.mul hT.1 hjz) (by omega) (by omega)) ?_
        refine Ce rfl (join_el (by omega)) ?_
        exact Rt rfl (.tup (.cons (.rf rfl) (fitY ⟨_, hs⟩))) ⟨_, rfl, fun _ => ⟨_, hs, rfl⟩⟩
      · refine Ce rfl (R6.Neg_el (by omega) hmm.2.ps (by omega)) ?_
        refine Ar (j + 1 : Nat) rfl ?_
        refine Bk (j + 1, Tow.neg k mm) [] rfl ?_ (by show 2 - (j + 1) < 2 - j; omega)
        rcases hI with ⟨rfl, rfl⟩ | ⟨rfl, rfl, h4⟩ | ⟨rfl, _⟩
        · exact .inr (.inl ⟨rfl, rfl, h3⟩)
        · exact .inr (.inr ⟨rfl, h4, h3⟩)
        · omega
    · have no : ¬ isSq (k + 1) t a := fun e => by
        rcases hI with ⟨rfl, rfl⟩ | ⟨rfl, rfl, h4⟩ | ⟨rfl, h4, h5⟩
        · omega
        · omega
        · obtain ⟨w, _, h6 | h6⟩ := sq_hi_no hR.1 ev hm e
          · exact h4 ⟨w, h6⟩
          · exact h5 ⟨w, h6⟩
      exact Rt rfl (.tup (.cons (.nil (sz := 4) rfl) (fitN no))) ⟨_, rfl, fun e => absurd e no⟩
theorem root_ok {k r p : Nat} {t : Tw k} {a : Tow.El k} (hT : TS r k t) (ha : Sz p (toL k a)) (hR : red k t) (hk : k ≤ 16) (hq : qB r k p ≤ 4398046511104) (hv : vB r k (p + gC r k) ≤ 4398046511104) (hr : vB r k r ≤ 4398046511104) :
    C0 316 [.d (dt t), .d (de a)] fun v => ∃ w : D, v = .tup (.pr (.d w) (.b (dc (isSq k t a)))) ∧ (isSq k t a → ∃ x, mul k t x x = a ∧ 0 ≤ sgn k t x ∧ w = de x) := by
  have L := ring k t
  have S := sgn_ok (red_real hR)
  have := vB_ge (r := r) k (p + gC r k)
  refine En Tryz.func316 fun _ _ => ?_
  refine Ca rfl (square_ok hT ha hR hk hq) fun v hv => ?_
  obtain ⟨w, rfl, hw⟩ := hv
  refine By rfl (fun h => ?_) fun h => ?_
  · exact Rt rfl (.tup (.cons (.nil (sz := 4) rfl) (fitN h))) ⟨_, rfl, fun e => absurd e h⟩
  have h := Classical.not_not.1 h
  obtain ⟨x, hx, rfl⟩ := hw h
  have hz := ha.rootS hT hR hx
  refine Ce rfl (R7.Sign_ok hT hz (red_real hR) hk hv hr) ?_
  refine By rfl (fun h1 => ?_) fun h1 => ?_
  · refine Ce rfl (R6.Neg_el hk hz.ps (by omega)) ?_
    exact Rt rfl (.tup (.cons (.rf rfl) (fitY h))) ⟨_, rfl, fun _ => ⟨Tow.neg k x, by rw [L.mn, L.nm, L.nn, hx], by rw [S.sn]; omega, rfl⟩⟩
  · exact Rt rfl (.tup (.cons (.rf rfl) (fitY h))) ⟨_, rfl, fun _ => ⟨x, hx, by omega, rfl⟩⟩
theorem Reduced_ok {k r : Nat} {t : Tw k} (hT : TS r k t) (hR : red k t) (hk : k ≤ 16) (hq : qB r k r ≤ 4398046511104) (hv : vB r k r ≤ 4398046511104) : C0 217 [.d (dt t)] (· = .b true) := by
  have := vB_ge (r := r) k r
  refine En Tryz.func217 fun _ _ => ?_
  refine Lo (fun i : Nat => [(0, .d (dt t)), (3, .d (.int .i64 i))]) (fun _ => []) (fun i => i ≤ k) (fun i => k - i) 0 [] rfl (by omega) (fun i hi => ?_)
  refine By rfl (fun h => ?_) fun h => ?_ <;> simp only [lt', toT_length] at h
  · obtain ⟨w, x, h1, h2, h3, h4, h5⟩ := Tw.take (t := t) (i := i) (by omega)
    have hx := h3 r hT
    obtain ⟨h6, h7, h8⟩ := h5 hR
    have q1 := qB_le (r := r) (p := r) (show i ≤ k by omega)
    have v1 := vB_le (r := r) (s := r) (show i ≤ k by omega)
    refine Dw rfl ?_
    refine Tk i ((toT i w).map dqs) rfl rfl (by rw [lt', toT_length]; omega) (by rw [← List.map_take, h1]) ?_
    refine Ix i rfl (mp h2) ?_
    refine Ce rfl (R6.Formed_ok (TS.pt hx.1) (by omega) hx.2.ps (by omega) (by rw [toT_length]; omega) (nlen w x)) ?_
    refine No rfl (by simp) ?_
    refine Tk i ((toT i w).map dqs) rfl rfl (by rw [lt', toT_length]; omega) (by rw [← List.map_take, h1]) ?_
    refine Ix i rfl (mp h2) ?_
    refine Ce rfl (R7.Sign_ok hx.1 hx.2 (red_real h6) (by omega) (by omega) (by omega)) ?_
    refine No rfl (by omega) ?_
    refine Dw rfl ?_
    refine Tk i ((toT i w).map dqs) rfl rfl (by rw [lt', toT_length]; omega) (by rw [← List.map_take, h1]) ?_
    refine Ix i rfl (mp h2) ?_
    refine Ca rfl (square_ok hx.1 hx.2 h6 (by omega) (by omega)) fun v hv => ?_
    obtain ⟨d, rfl, hd⟩ := hv
    refine No rfl h8 ?_
    refine Ar (i + 1 : Nat) rfl ?_
    exact Bk (i + 1) [] rfl (show i + 1 ≤ k by omega) (by show k - (i + 1) < k - i; omega)
  · exact R0
/-- what Adjoin comes back with -/
def AdjR (k : Nat) (t : Tw k) (a : Tow.El k) (v : AV) : Prop :=
  (sgn k t a < 0 ∧ v = .tup (.pr (.d (dts [])) (.pr (.d (dqs [])) (.d (.int .i64 7))))) ∨
  (∃ x, mul k t x x = a ∧ 0 ≤ sgn k t x ∧ v = .tup (.pr (.d (dt t)) (.pr (.d (de x)) (.d (.int .i64 0))))) ∨
  (0 ≤ sgn k t a ∧ ¬ isSq k t a ∧ k < 8 ∧ v = .tup (.pr (.d (dt (tsn t a))) (.pr (.d (de (root (k + 1) k))) (.d (.int .i64 0)))))
theorem Extend_ok {k r p : Nat} {t : Tw k} {a : Tow.El k} (hT : TS r k t) (ha : Sz p (toL k a)) (hR : red k t) (hk : k < 8) (hq : qB r k p ≤ 4398046511104) (hv : vB r k (p + gC r k) ≤ 4398046511104) (hr : vB r k r ≤ 4398046511104) :
    C0 305 [.d (dt t), .d (de a)] (AdjR k t a) := by
  have h0 := vB_mono (r := r) (k := k) (show p ≤ p + gC r k by omega)
  have hlen := toT_length k t
  refine En Tryz.func305 fun _ _ => ?_
  refine Ce rfl (R7.Sign_ok hT ha (red_real hR) (by omega) (by omega) hr) ?_
  refine By rfl (fun h => ?_) fun h => ?_
  · exact Rt rfl (.tup (.cons (.nil rfl) (.cons (.nil rfl) fitI))) (.inl ⟨h, rfl⟩)
  refine Ca rfl (root_ok hT ha hR (by omega) hq hv hr) fun v hv => ?_
  obtain ⟨w, rfl, hw⟩ := hv
  refine By rfl (fun h1 => ?_) fun h1 => ?_
  · obtain ⟨x, x1, x2, rfl⟩ := hw h1
    exact Rt rfl (.tup (.cons (.rf rfl) (.cons (.rf rfl) fitI))) (.inr (.inl ⟨x, x1, x2, rfl⟩))
  refine No rfl (by simp only [lt', hlen]; omega) ?_
  have e : dt (tsn t a) = dts (toT k t ++ [toL k a]) := rfl
  have e2 : (((toT k t).map dqs).length : Int) = k := by simp [hlen]
  by_cases k0 : k = 0
  · subst k0
    refine ApE rfl rfl (by decide) ?_
    refine ApL ([toL 0 a].map dqs) rfl rfl (by simp) (by simp) ?_
    refine Fz 9 9 ([toL 0 a].map dqs) rfl (by simp) rfl ?_
    refine Ce rfl (R6.Root_ok (r := r) (t := tsn t a) (i := 0) (by omega) (by omega)) ?_
    exact Rt rfl (.tup (.cons (.rf rfl) (.cons (.rf rfl) fitI))) (.inr (.inr ⟨by omega, h1, hk, rfl⟩))
  · refine ApL ((toT k t).map dqs) rfl rfl (by simp [hlen]; omega) (by simp [hlen]; omega) ?_
    refine ApO ((toT k t ++ [toL k a]).map dqs) rfl rfl rfl (by simp) (by simp [hlen]; omega) ?_
    refine Fz 9 9 ((toT k t ++ [toL k a]).map dqs) rfl (by simp) (by rw [List.drop_zero]; exact List.take_of_length_le (by simp)) ?_
    have hrt := R6.Root_ok (r := r) (t := tsn t a) (i := k) (by omega) (by omega)
    rw [← e2] at hrt
    refine Ce rfl hrt ?_
    exact Rt rfl (.tup (.cons (.rf rfl) (.cons (.rf rfl) fitI))) (.inr (.inr ⟨by omega, h1, hk, rfl⟩))
theorem Adjoin_ok {k r p : Nat} {t : Tw k} {a : Tow.El k} (hT : TS r k t) (ha : Sz p (toL k a)) (hR : red k t) (hk : k < 8) (hq : qB r k p ≤ 4398046511104) (hq2 : qB r k r ≤ 4398046511104) (hv : vB r k (p + gC r k) ≤ 4398046511104) (hr : vB r k r ≤ 4398046511104) :
    C0 274 [.d (dt t), .d (de a)] (AdjR k t a) := by
  have h0 := vB_ge (r := r) k r
  have h1 := vB_ge (r := r) k (p + gC r k)
  refine En Tryz.func274 fun _ _ => ?_
  refine Ce rfl (Reduced_ok hT hR (by omega) hq2 hr) ?_
  refine No rfl (by simp) ?_
  refine Ce rfl (R6.Formed_ok (TS.pt hT) (by omega) ha.ps (by omega) (by rw [toT_length]; omega) (nlen t a)) ?_
  refine No rfl (by simp) ?_
  refine Ca rfl (Extend_ok hT ha hR hk hq hv hr) fun v hv => ?_
  rcases hv with ⟨h1, rfl⟩ | ⟨x, h1, h2, rfl⟩ | ⟨h1, h2, h3, rfl⟩
  · exact Rt rfl (.tup (.cons (.rf rfl) (.cons (.rf rfl) fitI))) (.inl ⟨h1, rfl⟩)
  · exact Rt rfl (.tup (.cons (.rf rfl) (.cons (.rf rfl) fitI))) (.inr (.inl ⟨x, h1, h2, rfl⟩))
  · exact Rt rfl (.tup (.cons (.rf rfl) (.cons (.rf rfl) fitI))) (.inr (.inr ⟨h1, h2, h3, rfl⟩))
end Go.Proofs.YtfmgfaeheljpcaaGreat.R8
