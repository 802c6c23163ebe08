/- square roots in reduced towers: the program. -/
import Derived.Test.YtfmgfaeheljpcaaGreatYMB
import Derived.Test.YtfmgfaeheljpcaaGreatYTL
set_option linter.unusedVariables false
set_option linter.unusedSimpArgs false
set_option maxRecDepth 10000
namespace Go.Proofs.YtfmgfaeheljpcaaGreat
open Go Go.Num Go.Tow
theorem iS_pos {r : Nat} : ∀ {k p : Nat}, 0 < iS r k p
  | 0, p => Nat.succ_pos p
  | k + 1, p => by have := iS_pos (r := r) (k := k) (p := nS r k p); show 0 < p + iS r k (nS r k p) + cB r k; omega
theorem iS_ge {r : Nat} : ∀ {k p : Nat}, p ≤ iS r k p
  | 0, p => Nat.le_succ p
  | k + 1, p => by show p ≤ p + iS r k (nS r k p) + cB r k; omega
theorem iB_ge2 {r : Nat} : ∀ {k p : Nat}, p ≤ iB r k p
  | 0, p => Nat.le_succ p
  | k + 1, p => by show p ≤ 2 * (p + iB r k (nB r k p) + cB r k); omega
end Go.Proofs.YtfmgfaeheljpcaaGreat
namespace Go.Proofs.YtfmgfaeheljpcaaGreat.P8
open Go Go.Vm Go.Num Go.Tow Go.Proofs.YtfmgfaeheljpcaaGreat
/-- what a square root comes back as -/
def SqP (k : Nat) (t : Tw k) (a : Tow.El k) (v : AV) : Prop := ∃ w : List D, w.length ≤ 2 ^ k ∧ v = .tup (.pr (.d (.sl 4 w)) (.b (dc (isSq k t a)))) ∧ (isSq k t a → ∃ x, mul k t x x = a ∧ D.sl 4 w = de x)
theorem tFromRat_z {k r : Nat} {t : Tw k} (hT : TS r k t) (hk : k ≤ 16) (hr : r ≤ 4398046511104) : C0 277 [.d (dt t), .d (dq ((0 : Int) : Rat))] (· = .d (de (zero k))) := by
  have := tFromRat_ok (x := ((0 : Int) : Rat)) (p := 1) hT hk hr (Qs.int Zs.zero (Nat.le_refl 1)) (by decide)
  rwa [show ((0 : Int) : Rat) = 0 from rfl, rat_zero] at this
theorem square_ok {k : Nat} : ∀ {r p : Nat} {t : Tw k} {a : Tow.El k}, TS r k t → Sz p (toL k a) → red k t → k ≤ 16 → qB r k p ≤ 4398046511104 → r ≤ 4398046511104 → C0 327 [.d (dt t), .d (de a)] (SqP k t a) := by
  induction k with
  | zero =>
    intro r p t a hT ha hR hk hq hr
    have hq : p ≤ 4398046511104 := hq
    have key : ∀ y : Rat, Qs p y → C0 327 [.d (dts []), .d (dqs [y])] fun v => ∃ w : List D, w.length ≤ 2 ^ 0 ∧ v = .tup (.pr (.d (.sl 4 w)) (.b (dc (∃ x : Rat, x * x = y)))) ∧ ((∃ x : Rat, x * x = y) → ∃ x : Rat, x * x = y ∧ D.sl 4 w = dqs [x]) := fun y hy => by
      refine En Tryz.func327 fun _ _ => ?_
      refine Yes rfl rfl ?_
      refine Ix 0 rfl (u := dq y) rfl ?_
      refine Ca rfl (Sqrt_q_ok hy (by omega)) fun v hv => ?_
      obtain ⟨b, l, b', l', rfl, hw⟩ := hv
      exact Rt rfl (.tup (.cons (.lit rfl) (.one (.rf rfl) (fun _ _ e => by cases e) (fun _ _ e => by cases e)))) ⟨_, Nat.le_refl _, rfl, fun h => let ⟨y, h1, h2⟩ := hw h; ⟨y, h1, by rw [show dqs [y] = D.sl 4 [dq y] from rfl, ← h2]; rfl⟩⟩
    exact key a (ha.qs (List.mem_singleton.2 rfl))
  | succ k ih =>
    intro r p t a hT ha hR hk hq hr
    have hx : Sz p (toL k a.1) := Sz.left ha
    have hy : Sz p (toL k a.2) := Sz.right ha
    have hlen := toL_length k
    have hk0 := Nat.two_pow_pos k
    have hpk := p16 (show k ≤ 16 by omega)
    have hz := ha.normS hT
    have L := ring k t.1
    have hqq : p + vB r (k + 1) p + vB r (k + 1) r + nB r k p + qB r k (sX r k p) + iB r k (sX r k p + gC r k) + iS r k (sX r k p + gC r k) + iB r k r + 2 * cB r k + 4 ≤ 4398046511104 := hq
    have hX : sX r k p = p + nS r k p + gC r k + cB r k + iS r k r + 4 := rfl
    have hN : nB r k p = 4 * p + 3 * cB r k + r + 1 := rfl
    have hI : 0 < iS r k r := iS_pos
    have q6 := iS_ge (r := r) (k := k) (p := sX r k p + gC r k)
    have q7 := iB_ge2 (r := r) (k := k) (p := sX r k p + gC r k)
    have q1 : qB r k p ≤ qB r k (sX r k p) := qB_mono (by omega)
    have q2 : qB r k (nS r k p) ≤ qB r k (sX r k p) := qB_mono (by omega)
    have q3 : qB r k (p + iS r k r + cB r k) ≤ qB r k (sX r k p) := qB_mono (by omega)
    have q4 : sX r k p ≤ qB r k (sX r k p) := qB_ge
    have hr0 : t.2 ≠ zero k := fun h0 => hR.2.2 ⟨zero k, by rw [h0, L.mz]⟩
    obtain ⟨i, hi⟩ := (red_fld hR.1).2 t.2 hr0
    have him := inv_mul hi
    have hiz := Sz.invS hT.1 hT.2 hi
    have no0 : ∀ {g K}, ¬ isSq (k + 1) t a → FitT g K (.pr .nil (.b false)) (.pr (.d (.sl 4 [])) (.b (dc (isSq (k + 1) t a)))) := fun h => .cons (.nil (sz := 4) rfl) (fitN h)
    refine En Tryz.func327 fun _ _ => ?_
    refine No rfl (by show ¬ ((((toT k t.1 ++ [toL k t.2]).map dqs).length : Nat) : Int) = 0; rw [twL]; omega) ?_
    refine Dw rfl ?_
    refine Ar k rfl ?_ (tw1 t (by omega))
    refine Tk k ((toT k t.1).map dqs) rfl rfl (tw_le t) (twT t) ?_
    refine Ar k rfl ?_ (tw1 t (by omega))
    refine Ix k rfl (twU t) ?_
    refine Dw rfl ?_
    refine Ar (2 ^ k : Nat) rfl ?_ (hvq a (by omega))
    refine Tk (2 ^ k) ((toL k a.1).map dq) rfl rfl (hv_le a) (hvT a) ?_
    refine Ar (2 ^ k : Nat) rfl ?_ (hvq a (by omega))
    refine Dp (2 ^ k) ((toL k a.2).map dq) rfl rfl (hv_le a) (hvD a) ?_
    refine Ce rfl (tZero_ok (l := toL k a.2) hy.ps (by omega) (by rw [hlen]; omega)) ?_
    refine By rfl (fun hv => ?_) fun hv => ?_
    · have ev := (eq_zero_iff k a.2).2 hv
      have ea : a = up k a.1 := by show (a.1, a.2) = (a.1, zero k); rw [ev]
      refine Ca rfl (ih hT.1 hx hR.1 (by omega) (by omega) hr) fun v hv => ?_
      obtain ⟨w, hwl, rfl, hw⟩ := hv
      refine By rfl (fun h1 => ?_) fun h1 => ?_
      · obtain ⟨x, hx1, hx2⟩ := hw h1
        injection hx2 with _ hx2
        subst hx2
        have hs : mul (k + 1) t (pr x (zero k)) (pr x (zero k)) = a := (sq_up hx1).trans ea.symm
        refine Ce rfl (qFromInt_ok (z := 0) (by decide)) ?_
        refine Ce rfl (tFromRat_z hT.1 (by omega) hr) ?_
        refine Ce rfl (concat_el (x := x) (y := zero k) (by omega)) ?_
        exact Rt rfl (.tup (.cons (.rf rfl) (fitY ⟨_, hs⟩))) ⟨_, by simp [toL_length], rfl, fun _ => ⟨_, hs, rfl⟩⟩
      · refine Ce rfl (tInv_ok hT.1 hT.2 (by omega) (by omega) hr hi) ?_
        refine No rfl (by decide) ?_
        refine Ce rfl (tMul_ok hT.1 hx hiz (by omega) (by omega) hr) ?_
        refine Ca rfl (ih hT.1 (hx.mul hT.1 hiz) hR.1 (by omega) (by omega) hr) fun v hv => ?_
        obtain ⟨w, hwl, rfl, hw⟩ := hv
        refine Ce rfl (qFromInt_ok (z := 0) (by decide)) ?_
        refine Ce rfl (tFromRat_z hT.1 (by omega) hr) ?_
        refine Ce rfl (concat_D (a := (toL k (zero k)).map dq) (b := w) (by simp [hlen]; omega) (by simp [hlen]; omega)) ?_
        have hiff : isSq k t.1 (mul k t.1 a.1 i) ↔ isSq (k + 1) t a := ⟨fun ⟨x, hx1⟩ => ⟨_, (sq_low him hx1).trans ea.symm⟩, fun e => Classical.byContradiction fun h2 => sq_low_no hR.1 him h1 h2 (ea ▸ e)⟩
        refine Rt rfl (.tup (.cons (.rf rfl) (fitE (dc_congr hiff)))) ⟨_, by simp [hlen]; omega, rfl, fun e => ?_⟩
        obtain ⟨x, hx1, hx2⟩ := hw (hiff.2 e)
        injection hx2 with _ hx2
        subst hx2
        exact ⟨(zero k, x), (sq_low him hx1).trans ea.symm, by rw [← List.map_append]; rfl⟩
    have ev : a.2 ≠ zero k := fun e => hv ((eq_zero_iff k a.2).1 e)
    refine Ce rfl (tNorm_ok hT ha hk (by omega) hr) ?_
    refine Ca rfl (ih hT.1 hz hR.1 (by omega) (by omega) hr) fun v hv => ?_
    obtain ⟨w, hwl, rfl, hw⟩ := hv
    refine By rfl (fun h1 => ?_) fun h1 => ?_
    · have no : ¬ isSq (k + 1) t a := fun e => by
        exact h1 (sq_norm e)
      exact Rt rfl (.tup (.cons (.nil (sz := 4) rfl) (fitN no))) ⟨[], Nat.zero_le _, rfl, fun e => absurd e no⟩
    obtain ⟨m, hm, hm2⟩ := hw (Classical.not_not.1 h1)
    injection hm2 with _ hm2
    subst hm2
    have hm : mul k t.1 m m = Tow.norm k t a := hm
    have hmz := hz.rootS hT.1 hR.1 hm
    refine Ce rfl (tAdd_ok hT.1 hx hmz (by omega) (by omega) hr) ?_
    refine Ce rfl (tSub_ok hT.1 hx hmz (by omega) (by omega) hr) ?_
    refine Lo (fun (x : Nat) => [(4, .nil), (5, .b false), (8, .d (dt t.1)), (11, .d (de a.2)), (117, .lit 1 [de (Tow.add k a.1 m), de (Tow.add k a.1 (Tow.neg k m))]), (118, .d (.int .i64 2)), (119, .d (.int .i64 x))]) (fun _ => []) (fun x => x = 0 ∨ (x = 1 ∧ ¬ isSq k t.1 (mul k t.1 (rat k (1 / 2)) (Tow.add k a.1 m))) ∨ (x = 2 ∧ ¬ isSq k t.1 (mul k t.1 (rat k (1 / 2)) (Tow.add k a.1 m)) ∧ ¬ isSq k t.1 (mul k t.1 (rat k (1 / 2)) (Tow.add k a.1 (Tow.neg k m))))) (fun x => 2 - x) 0 [] rfl (.inl rfl) (fun x hI => ?_)
    have step : ∀ (mm : Tow.El k), mul k t.1 mm mm = Tow.norm k t a → Sz (nS r k p + gC r k) (toL k mm) → Sz (3 + (p + (nS r k p + gC r k) + 1) + cB r k) (toL k (mul k t.1 (Tow.add k a.1 mm) (rat k (1 / 2)))) ∧ mul k t.1 (Tow.add k a.1 mm) (rat k (1 / 2)) = mul k t.1 (rat k (1 / 2)) (Tow.add k a.1 mm) := fun mm _ hs => ⟨by
      rw [L.mc]; exact Sz.half.mul hT.1 (by rw [toL_add]; exact hx.add hs), L.mc _ _⟩
    have q5 : qB r k (3 + (p + (nS r k p + gC r k) + 1) + cB r k) ≤ qB r k (sX r k p) := qB_mono (by omega)
    refine By rfl (fun h2 => ?_) fun h2 => ?_
    · obtain ⟨mm, e1, e2, e3, next⟩ : ∃ mm, [de (Tow.add k a.1 m), de (Tow.add k a.1 (Tow.neg k m))][x]? = some (de (Tow.add k a.1 mm)) ∧ mul k t.1 mm mm = Tow.norm k t a ∧ Sz (nS r k p + gC r k) (toL k mm) ∧ (¬ isSq k t.1 (mul k t.1 (rat k (1 / 2)) (Tow.add k a.1 mm)) → (x + 1 = 0 ∨ (x + 1 = 1 ∧ ¬ isSq k t.1 (mul k t.1 (rat k (1 / 2)) (Tow.add k a.1 m))) ∨ (x + 1 = 2 ∧ ¬ isSq k t.1 (mul k t.1 (rat k (1 / 2)) (Tow.add k a.1 m)) ∧ ¬ isSq k t.1 (mul k t.1 (rat k (1 / 2)) (Tow.add k a.1 (Tow.neg k m)))))) := by
        rcases hI with rfl | ⟨rfl, g1⟩ | ⟨rfl, g1, g2⟩
        · exact ⟨m, rfl, hm, hmz, fun h => .inr (.inl ⟨rfl, h⟩)⟩
        · exact ⟨Tow.neg k m, rfl, by rw [L.mn, L.nm, L.nn, hm], neg_sz hmz, fun h => .inr (.inr ⟨rfl, g1, h⟩)⟩
        · omega
      refine Ix x rfl e1 ?_
      obtain ⟨s1, s2⟩ := step mm e2 e3
      refine Ce rfl (half_ok hT.1 (a := Tow.add k a.1 mm) (p := p + (nS r k p + gC r k) + 1) (by rw [toL_add]; exact hx.add e3) (by omega) (by omega) hr) ?_
      refine Ca rfl (ih hT.1 s1 hR.1 (by omega) (by omega) hr) fun v hv => ?_
      obtain ⟨w, hwl, rfl, hw⟩ := hv
      refine By rfl (fun h3 => ?_) fun h3 => ?_
      · have h3 : ¬ isSq k t.1 (mul k t.1 (Tow.add k a.1 mm) (rat k (1 / 2))) := by simpa only [dc_not, dc_iff] using h3
        rw [s2] at h3
        refine Ar (x + 1 : Nat) rfl ?_
        exact Bk (x + 1) [] rfl (next h3) (by omega)
      · have h3 : isSq k t.1 (mul k t.1 (Tow.add k a.1 mm) (rat k (1 / 2))) := by simpa [dc_not, dc_iff] using h3
        obtain ⟨w, hw1, hw2⟩ := hw h3
        injection hw2 with _ hw2
        subst hw2
        rw [s2] at hw1
        have hw0 := sq_w0 hR ev e2 hw1
        have hwz : Sz (3 + (p + (nS r k p + gC r k) + 1) + cB r k + gC r k) (toL k w) := (s2 ▸ s1).rootS hT.1 hR.1 hw1
        have hw2 : Tow.add k w w ≠ zero k := fun e => hw0 (by
          have e3 : mul k t.1 (rat k (1 / 2)) (Tow.add k w w) = w := by rw [L.md, ← L.dm, half_add, L.om]
          rw [← e3, e, L.mz])
        obtain ⟨j, hj⟩ := (red_fld hR.1).2 _ hw2
        have hdz : Sz (sX r k p + gC r k) (toL k (Tow.add k w w)) := by rw [toL_add]; exact hwz.dbl.mono (by omega)
        have hjz := Sz.invS hT.1 hdz hj
        have hs := sq_hi e2 hw1 (inv_mul hj)
        refine Ce rfl (tZero_ok (l := toL k w) hwz.ps (by omega) (by rw [hlen]; omega)) ?_
        refine No rfl (fun e => hw0 ((eq_zero_iff k w).2 e)) ?_
        refine Ce rfl (tAdd_ok hT.1 hwz hwz (by omega) (by omega) hr) ?_
        refine Ce rfl (tInv_ok hT.1 hdz (by omega) (by omega) hr hj) ?_
        refine Ce rfl (tMul_ok hT.1 hy hjz (by omega) (by omega) hr) ?_
        refine Ce rfl (concat_el (by omega)) ?_
        exact Rt rfl (.tup (.cons (.rf rfl) (fitY ⟨_, hs⟩))) ⟨_, by simp [toL_length], rfl, fun _ => ⟨_, hs, rfl⟩⟩
    · have no : ¬ isSq (k + 1) t a := fun e => by
        rcases hI with rfl | ⟨rfl, g1⟩ | ⟨rfl, g1, g2⟩
        · omega
        · omega
        · obtain ⟨w, _, h6 | h6⟩ := sq_hi_no hR.1 ev hm e
          · exact g1 ⟨w, h6⟩
          · exact g2 ⟨w, h6⟩
      exact Rt rfl (.tup (.cons (.nil (sz := 4) rfl) (fitN no))) ⟨[], Nat.zero_le _, rfl, fun e => absurd e no⟩
theorem positive_ok {k r p : Nat} {t : Tw k} {a : Tow.El k} (hT : TS r k t) (ha : Sz p (toL k a)) (hR : red k t) (hk : k ≤ 16) (hq : qB r k p ≤ 4398046511104) (hv : vB r k (p + gC r k) ≤ 4398046511104) (hr : vB r k r ≤ 4398046511104) :
    C0 321 [.d (dt t), .d (de a)] fun v => ∃ w : D, v = .tup (.pr (.d w) (.b (dc (isSq k t a)))) ∧ (isSq k t a → ∃ x, mul k t x x = a ∧ 0 ≤ sgn k t x ∧ w = de x) := by
  have L := ring k t
  have S := sgn_ok (red_real hR)
  have := vB_ge (r := r) k (p + gC r k)
  have hr2 := vB_ge (r := r) k r
  refine En Tryz.func321 fun _ _ => ?_
  refine Ca rfl (square_ok hT ha hR hk hq (by omega)) fun v hv => ?_
  obtain ⟨w, _, rfl, hw⟩ := hv
  refine By rfl (fun h => ?_) fun h => ?_
  · exact Rt rfl (.tup (.cons (.nil (sz := 4) rfl) (fitN h))) ⟨_, rfl, fun e => absurd e h⟩
  have h := Classical.not_not.1 h
  obtain ⟨x, hx, hx2⟩ := hw h
  injection hx2 with _ hx2
  subst hx2
  have hz := ha.rootS hT hR hx
  refine Ce rfl (Sign_el hT hz (red_real hR) hk hv hr (by omega)) ?_
  refine By rfl (fun h1 => ?_) fun h1 => ?_
  · refine Ce rfl (tNeg_ok hT hz hk (by omega) (by omega)) ?_
    exact Rt rfl (.tup (.cons (.rf rfl) (fitY h))) ⟨_, rfl, fun _ => ⟨Tow.neg k x, by rw [L.mn, L.nm, L.nn, hx], by rw [S.sn]; omega, rfl⟩⟩
  · exact Rt rfl (.tup (.cons (.rf rfl) (fitY h))) ⟨_, rfl, fun _ => ⟨x, hx, by omega, rfl⟩⟩
theorem Reduced_ok {k r : Nat} {t : Tw k} (hT : TS r k t) (hR : red k t) (hk : k ≤ 16) (hq : qB r k r ≤ 4398046511104) (hv : vB r k r ≤ 4398046511104) : C0 320 [.d (dt t)] (· = .b true) := by
  have := vB_ge (r := r) k r
  refine En Tryz.func320 fun _ _ => ?_
  refine Lo (fun i : Nat => [(0, .d (dt t)), (2, .b false), (7, .d (dt t)), (8, .d (.int .i64 ((toT k t).map dqs).length)), (9, .d (.int .i64 i))]) (fun _ => []) (fun i => i ≤ k) (fun i => k - i) 0 [] rfl (by omega) (fun i hi => ?_)
  refine By rfl (fun h => ?_) fun h => ?_ <;> simp only [lt', toT_length] at h
  · obtain ⟨w, x, h1, h2, h3, h4, h5⟩ := Tw.take (t := t) (i := i) (by omega)
    have hx := h3 r hT
    obtain ⟨h6, h7, h8⟩ := h5 hR
    have q1 := qB_le (r := r) (p := r) (show i ≤ k by omega)
    have v1 := vB_le (r := r) (s := r) (show i ≤ k by omega)
    refine Ix i rfl (mp h2) ?_
    refine Tk i ((toT i w).map dqs) rfl rfl (by rw [lt', toT_length]; omega) (by rw [← List.map_take, h1]) ?_
    refine Ce rfl (tFormed_el hx.1 hx.2 (by omega) (by omega) (by omega)) ?_
    refine No rfl (by simp) ?_
    refine Tk i ((toT i w).map dqs) rfl rfl (by rw [lt', toT_length]; omega) (by rw [← List.map_take, h1]) ?_
    refine Ce rfl (Sign_el hx.1 hx.2 (red_real h6) (by omega) (by omega) (by omega) (by omega)) ?_
    refine No rfl (fun e => e (by rcases sgn_tri w x with h | h | h <;> omega)) ?_
    refine Tk i ((toT i w).map dqs) rfl rfl (by rw [lt', toT_length]; omega) (by rw [← List.map_take, h1]) ?_
    refine Ca rfl (square_ok hx.1 hx.2 h6 (by omega) (by omega) (by omega)) fun v hv => ?_
    obtain ⟨d, _, rfl, hd⟩ := hv
    refine No rfl h8 ?_
    refine Ar (i + 1 : Nat) rfl ?_
    exact Bk (i + 1) [] rfl (show i + 1 ≤ k by omega) (by show k - (i + 1) < k - i; omega)
  · exact R0
theorem clone_ok {l : List (List Rat)} (hl : l.length ≤ 1048576) (h : ∀ x ∈ l, 0 < x.length ∧ x.length ≤ 1048576) : CA0 322 [.d (dts l)] 1 (l.map dqs) := by
  have hll : (l.map dqs).length = l.length := by simp
  refine EnW Tryz.func322 fun _ _ _ => ?_
  refine Mk l.length rfl (by omega) ?_ (by simp [hll])
  refine Lo (fun i : Nat => [(0, .d (dts l)), (2, .nil), (3, .own 8 1 0 l.length), (9, .d (dts l)), (10, .d (.int .i64 (l.map dqs).length)), (11, .d (.int .i64 i))]) (fun i => [(8, .arr 1 (fl (l.map dqs) (.sl 4 []) i))]) (fun i => i ≤ l.length) (fun i => l.length - i) 0 [] rfl (by omega) (fun i hi => ?_) (by exact ⟨rfl, by rw [← fl_zero hll]; rfl, rfl, rfl, rfl⟩)
  refine By rfl (fun g => ?_) fun g => ?_ <;> simp only [lt'] at g
  · have hu : l[i]? = some l[i] := List.getElem?_eq_getElem (by omega)
    have hm := h _ (List.getElem_mem (l := l) (n := i) (by omega))
    refine Ix i rfl (mp hu) ?_
    refine Ce rfl (clone_q_ok hm.1 hm.2) ?_
    refine Eo i rfl (by omega) ?_
    refine Sto rfl (by rw [fl_len (by omega)]; omega) (fl_set (u := dqs l[i]) (by rw [List.getElem?_map, hu]; rfl)) ?_
    refine Ar (i + 1 : Nat) rfl ?_
    exact Bk (i + 1) [] rfl (show i + 1 ≤ l.length by omega) (by show l.length - (i + 1) < l.length - i; omega)
  · exact Rw [(8, 1000000)] [(1000000, .arr 1 (l.map dqs))] rfl (.one (.rf rfl) rfl rfl) ⟨_, rfl, by rw [hll]; rfl, rfl⟩ (by rw [fl_end (by omega)]; rfl)
theorem Adjoin_ok {k r p : Nat} {t : Tw k} {a : Tow.El k} (hT : TS r k t) (ha : Sz p (toL k a)) (hR : red k t) (hk : k < 8) (hq : qB r k p ≤ 4398046511104) (hq2 : qB r k r ≤ 4398046511104) (hv : vB r k (p + gC r k) ≤ 4398046511104) (hr : vB r k r ≤ 4398046511104) :
    C0 311 [.d (dt t), .d (de a)] (R8.AdjR k t a) := by
  have h0 := vB_ge (r := r) k r
  have h1 := vB_ge (r := r) k (p + gC r k)
  have h2 := vB_mono (r := r) (k := k) (show p ≤ p + gC r k by omega)
  have hlen := toT_length k t
  have e2 : (((toT k t).map dqs).length : Int) = k := by simp [hlen]
  have hle : ∀ x ∈ toT k t, 0 < x.length ∧ x.length ≤ 1048576 := fun x hx => by
    obtain ⟨i, hi, e⟩ := List.mem_iff_getElem.1 hx
    have := (toT_get hT (i := i) (l := x) (by rw [List.getElem?_eq_getElem hi, e])).1
    rw [hlen] at hi
    have h3 := Nat.pow_le_pow_right (n := 2) (by decide) (show i ≤ 8 by omega)
    have := Nat.two_pow_pos i
    omega
  refine En Tryz.func311 fun _ _ => ?_
  refine Ce rfl (tFormed_el hT ha (by omega) (by omega) (by omega)) ?_
  refine No rfl (by simp) ?_
  refine Ce rfl (Reduced_ok hT hR (by omega) hq2 hr) ?_
  refine No rfl (by simp) ?_
  refine Ce rfl (Sign_el hT ha (red_real hR) (by omega) (by omega) hr (by omega)) ?_
  refine By rfl (fun h => ?_) fun h => ?_
  · exact Rt rfl (.tup (.cons (.nil rfl) (.cons (.nil rfl) fitI))) (.inl ⟨h, rfl⟩)
  refine Ca rfl (positive_ok hT ha hR (by omega) hq hv hr) fun v hv => ?_
  obtain ⟨w, rfl, hw⟩ := hv
  refine By rfl (fun h1 => ?_) fun h1 => ?_
  · obtain ⟨x, x1, x2, rfl⟩ := hw h1
    refine Ce rfl (clone_ok (by omega) hle).data ?_
    exact Rt rfl (.tup (.cons (.rf rfl) (.cons (.rf rfl) fitI))) (.inr (.inl ⟨x, x1, x2, rfl⟩))
  refine No rfl (by simp only [lt', hlen]; omega) ?_
  refine Cr rfl (clone_ok (by omega) hle) ?_
  refine Ce rfl (clone_q_ok (by rw [toL_length]; exact Nat.two_pow_pos k) (by rw [toL_length]; have := Nat.pow_le_pow_right (n := 2) (by decide) (show k ≤ 8 by omega); omega)) ?_
  refine ApO ((toT k t ++ [toL k a]).map dqs) rfl rfl rfl (by simp) (by simp [hlen]; omega) ?_
  refine Fz 11 9 ((toT k t ++ [toL k a]).map dqs) rfl (by simp) (by rw [List.drop_zero]; exact List.take_of_length_le (by simp)) ?_
  have hrt := tRoot_ok (r := max r p) (t := tsn t a) (i := k) ?_ (by omega) (by omega) (by omega)
  rw [← e2] at hrt
  refine Ce rfl hrt ?_
  exact Rt rfl (.tup (.cons (.rf rfl) (.cons (.rf rfl) fitI))) (.inr (.inr ⟨by omega, h1, hk, rfl⟩))
  exact ⟨hT.mono (by omega), ha.mono (by omega)⟩
end Go.Proofs.YtfmgfaeheljpcaaGreat.P8
