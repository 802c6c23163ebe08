/- the reference's towers: norm, root, inverse. -/
import Derived.Test.YtfmgfaeheljpcaaGreatYKG
import Derived.Test.YtfmgfaeheljpcaaGreatYTJ
set_option linter.unusedVariables false
set_option linter.unusedSimpArgs false
set_option maxRecDepth 10000
namespace Go.Proofs.YtfmgfaeheljpcaaGreat
open Go Go.Vm Go.Num Go.Tow
section
variable {k : Nat}
theorem hvL (a : Tow.El (k + 1)) : ((toL k a.1 ++ toL k a.2).map dq).length = 2 * 2 ^ k := by rw [lq, List.length_append, toL_length, toL_length]; omega
theorem hvT (a : Tow.El (k + 1)) : ((toL k a.1 ++ toL k a.2).map dq).take (2 ^ k) = (toL k a.1).map dq := by rw [← List.map_take, ← toL_length k a.1, List.take_left]
theorem hvD (a : Tow.El (k + 1)) : ((toL k a.1 ++ toL k a.2).map dq).drop (2 ^ k) = (toL k a.2).map dq := by rw [← List.map_drop, ← toL_length k a.1, List.drop_left]
theorem hv_le (a : Tow.El (k + 1)) : 2 ^ k ≤ ((toL k a.1 ++ toL k a.2).map dq).length := by rw [hvL]; have := Nat.two_pow_pos k; omega
theorem twL (t : Tw (k + 1)) : ((toT k t.1 ++ [toL k t.2]).map dqs).length = k + 1 := by rw [lt', List.length_append, toT_length]; rfl
theorem tw_le (t : Tw (k + 1)) : k ≤ ((toT k t.1 ++ [toL k t.2]).map dqs).length := by rw [twL]; omega
theorem twT (t : Tw (k + 1)) : ((toT k t.1 ++ [toL k t.2]).map dqs).take k = (toT k t.1).map dqs := by rw [← List.map_take, List.take_left' (toT_length k t.1)]
theorem twU (t : Tw (k + 1)) : ((toT k t.1 ++ [toL k t.2]).map dqs)[k]? = some (de t.2) := by rw [List.getElem?_map, List.getElem?_append_right (by rw [toT_length]; exact Nat.le_refl _), toT_length, Nat.sub_self]; rfl
theorem hvq (a : Tow.El (k + 1)) (hk : k ≤ 16) : arB .quo .i64 (((toL k a.1 ++ toL k a.2).map dq).length : Nat) 2 (2 ^ k : Nat) := quo2 (hvL a) (Nat.le_trans (p16 hk) (by decide))
theorem tw1 (t : Tw (k + 1)) (hk : k ≤ 16) : arB .sub .i64 (((toT k t.1 ++ [toL k t.2]).map dqs).length : Nat) 1 k := wr (by rw [twL]; omega) (by simp only [inK]; omega)
end
end Go.Proofs.YtfmgfaeheljpcaaGreat
namespace Go.Proofs.YtfmgfaeheljpcaaGreat.R6
open Go Go.Vm Go.Num Go.Tow Go.Proofs.YtfmgfaeheljpcaaGreat
theorem Norm_ok {k r s : Nat} {t : Tw (k + 1)} {a : Tow.El (k + 1)} (hT : TS r (k + 1) t) (ha : Sz s (toL (k + 1) a)) (hk : k + 1 ≤ 16) (hs : nB r k s ≤ 4398046511104) : C0 115 [.d (dt t), .d (de a)] (· = .d (de (Tow.norm k t a))) := by
  have hx : Sz s (toL k a.1) := Sz.left ha
  have hy : Sz s (toL k a.2) := Sz.right ha
  have hn : nB r k s = 4 * s + 3 * cB r k + r + 1 := rfl
  refine En Tryz.func115 fun _ _ => ?_
  refine Ar (2 ^ k : Nat) rfl ?_ (hvq a (by omega))
  refine Dw rfl ?_
  refine Ar k rfl ?_ (tw1 t (by omega))
  refine Tk k ((toT k t.1).map dqs) rfl rfl (tw_le t) (twT t) ?_
  refine Ar k rfl ?_ (tw1 t (by omega))
  refine Ix k rfl (twU t) ?_
  refine Dw rfl ?_
  refine Tk (2 ^ k) ((toL k a.1).map dq) rfl rfl (hv_le a) (hvT a) ?_
  refine Tk (2 ^ k) ((toL k a.1).map dq) rfl rfl (hv_le a) (hvT a) ?_
  refine Ce rfl (Mul_el hT.1 hx hx (by omega) (by omega)) ?_
  refine Dp (2 ^ k) ((toL k a.2).map dq) rfl rfl (hv_le a) (hvD a) ?_
  refine Dp (2 ^ k) ((toL k a.2).map dq) rfl rfl (hv_le a) (hvD a) ?_
  refine Ce rfl (Mul_el hT.1 hy hy (by omega) (by omega)) ?_
  refine Ce rfl (Mul_el hT.1 (hy.mul hT.1 hy) hT.2 (by omega) (by omega)) ?_
  refine Ce rfl (Sub_el (by omega) (hx.mul hT.1 hx).ps ((hy.mul hT.1 hy).mul hT.1 hT.2) (by omega)) ?_
  exact R0
theorem Root_ok {k i r : Nat} {t : Tw k} (hk : k ≤ 16) (hi : i < k) : C0 317 [.d (dt t), .d (.int .i64 i)] (· = .d (de (root k i))) := by
  have hp := p16 hk
  have hpi : 2 ^ i < 2 ^ k := Nat.pow_lt_pow_right (by decide) hi
  have h0 := Nat.two_pow_pos k
  have e : (0 : Rat) :: List.replicate (2 ^ (toT k t).length - 1) 0 = List.replicate (2 ^ k) 0 := by rw [toT_length, ← List.replicate_succ, show 2 ^ k - 1 + 1 = 2 ^ k by omega]
  refine En Tryz.func317 fun _ _ => ?_
  refine Ce rfl (R2.FromInt_ok (z := 0) (by decide)) ?_
  refine Cr rfl (e ▸ FromRat_own (t := toT k t) (x := 0) (by rw [toT_length]; omega) (by rw [toT_length]; omega)) ?_
  refine Dw rfl ?_
  refine Ar (2 ^ i : Nat) rfl ?_ (shl_one (by omega))
  refine Ce rfl (R2.FromInt_ok (z := 1) (by decide)) ?_
  refine Eo (2 ^ i) rfl (by simp only [lq, List.length_replicate]; omega) ?_
  refine Sto rfl (by simp only [lq, List.length_replicate]; omega) (ms (f := dq) (u := 1)) ?_
  refine R1 rfl (.own rfl (by simp) ?_)
  rw [List.drop_zero, ← toL_root hi]
  exact List.take_of_length_le (by simp [toL_length])
/-- what an inverse comes back as -/
def InvR (k : Nat) (zs : List D) (v : AV) (H' : Hpl) : Prop := (k = 0 ∧ v = .tup (.pr (.lit 4 zs) (.d (.int .i64 0))) ∧ H' = []) ∨ (v = .tup (.pr (.gr 1000000 4 zs) (.d (.int .i64 0))) ∧ H' = [(1000000, .tok zs.length 4)])
theorem invd (x : Rat) : x⁻¹ = 1 / x := by rw [Rat.div_def, Rat.one_mul]
theorem red_inv {k : Nat} {t : Tw k} (h : red k t) {a : Tow.El k} (h0 : a ≠ zero k) : ∃ b, Tow.inv k t a = some b := (red_fld h).2 a h0
theorem one_ne0 {k : Nat} {t : Tw k} (h : red k t) : zero k ≠ rat k 1 := fun e => by
  have h1 := sgn_rat (x := 1) (red_real h)
  rw [← e, (red_zero h).2 rfl, sgnQ_pos (by decide)] at h1
  cases h1
theorem inv_ne0 {k : Nat} {t : Tw k} (h : red k t) {a b : Tow.El k} (e : Tow.inv k t a = some b) : a ≠ zero k := fun h0 => by
  have h1 := inv_mul e
  rw [h0, (ring k t).mz] at h1
  exact one_ne0 h h1
theorem inv_low {k : Nat} {t : Tw (k + 1)} {a : Tow.El (k + 1)} {x : Tow.El k} {y : Tow.El (k + 1)} (ha : a.2 = zero k) (hx : Tow.inv k t.1 a.1 = some x) (hy : Tow.inv (k + 1) t a = some y) : y = (x, zero k) := by
  refine inv_uniq (t := t) (a := a) (inv_mul hy) ?_
  have e : a = up k a.1 := by show (a.1, a.2) = (a.1, zero k); rw [ha]
  rw [e]
  exact (mul_up k t x a.1).trans (by rw [inv_mul hx]; rfl)
theorem Inv_own {k : Nat} : ∀ {r s : Nat} {t : Tw k} {a : Tow.El k}, TS r k t → Sz s (toL k a) → red k t → a ≠ zero k → k ≤ 16 → iB r k s ≤ 4398046511104 → ∃ x, Tow.inv k t a = some x ∧ CW0 53 [.d (dt t), .d (de a)] [] (InvR k ((toL k x).map dq)) := by
  induction k with
  | zero =>
    intro r s t a hT ha hR h0 hk hs
    have hs : s + 1 ≤ 4398046511104 := hs
    have e : ∀ y : Rat, y ≠ 0 → Tow.inv 0 () y = some (1 / y : Rat) := fun y hy => by rw [inv0, if_neg hy]
    refine ⟨_, e a h0, ?_⟩
    refine EnW Tryz.func53 fun _ _ _ => ?_
    refine Yes rfl rfl ?_
    refine Ix 0 rfl (u := dq a) rfl ?_
    refine No rfl (fun h => h0 (R2.zero_of h)) ?_
    refine Ix 0 rfl (u := dq a) rfl ?_
    refine Ce rfl (R2.Inv_ok (ha.qs (List.mem_singleton.2 rfl)) (by omega) h0) ?_
    exact Rw [] [] rfl (.tup (.cons (.rf rfl) (.one (.rf rfl) (fun _ _ e => by cases e) (fun _ _ e => by cases e)))) (.inl ⟨rfl, by rw [invd a]; rfl, rfl⟩)
  | succ k ih =>
    intro r s t a hT ha hR h0 hk hs
    have hx : Sz s (toL k a.1) := Sz.left ha
    have hy : Sz s (toL k a.2) := Sz.right ha
    have hlen := toL_length k
    have hp := p16 hk
    have hp1 : 2 ^ (k + 1) = 2 * 2 ^ k := by rw [Nat.pow_succ]; omega
    have hpk := Nat.two_pow_pos k
    obtain ⟨hi1, hi2⟩ := iB_norm hs
    have hN := ha.norm hT
    have hge := iB_ge r k (nB r k s)
    have hiB1 := iB_mono (Nat.le_refl r) (nB_ge r k s) (k := k)
    obtain ⟨x, hinv⟩ := red_inv hR h0
    refine ⟨x, hinv, ?_⟩
    have fit : ∀ {g : Hp} {K : Hpl} {o : Nat} {zs : List D}, idsIn K (.gr o 4 zs) = true → FitR g K (.tup (.pr (.gr o 4 zs) (.d (.int .i64 0)))) (.tup (.pr (.gr o 4 zs) (.d (.int .i64 0)))) := fun h => .tup (.cons (.rf h) (.one (.rf rfl) (fun _ _ e => by cases e) (fun _ _ e => by cases e)))
    refine EnW Tryz.func53 fun _ _ _ => ?_
    refine No rfl (by show ¬ ((((toT k t.1 ++ [toL k t.2]).map dqs).length : Nat) : Int) = 0; rw [twL]; omega) ?_
    refine Ar (2 ^ k : Nat) rfl ?_ (hvq a (by omega))
    refine Ar k rfl ?_ (tw1 t (by omega))
    refine Tk k ((toT k t.1).map dqs) rfl rfl (tw_le t) (twT t) ?_
    refine Dp (2 ^ k) ((toL k a.2).map dq) rfl rfl (hv_le a) (hvD a) ?_
    refine Ce rfl (Zero_ok (l := toL k a.2) (by rw [hlen]; omega)) ?_
    refine By rfl (fun h1 => ?_) fun h1 => ?_
    · have ea := (eq_zero_iff k a.2).2 h1
      have e1 : a.1 ≠ zero k := fun e => h0 (by show (a.1, a.2) = (zero k, zero k); rw [e, ea])
      obtain ⟨y, hy1, hc⟩ := ih hT.1 hx hR.1 e1 (by omega) (by omega)
      have ex := inv_low ea hy1 hinv
      have el : (toL (k + 1) x).map dq = (toL k y).map dq ++ ((0 : Rat) :: List.replicate (2 ^ (toT k t.1).length - 1) 0).map dq := by
        rw [ex, ← List.map_append, toT_length, ← List.replicate_succ, show 2 ^ k - 1 + 1 = 2 ^ k by omega, ← toL_zero]; rfl
      have hll : ((toL (k + 1) x).map dq).length ≤ 1048576 := by rw [lq, toL_length]; omega
      refine Tk (2 ^ k) ((toL k a.1).map dq) rfl rfl (hv_le a) (hvT a) ?_
      refine Cw [] rfl hc fun v H' _ hv => ?_
      rcases hv with ⟨_, rfl, rfl⟩ | ⟨rfl, rfl⟩
      · refine No rfl (by simp) ?_
        refine Ce rfl (R2.FromInt_ok (z := 0) (by decide)) ?_
        refine Ce rfl (FromRat_ok (t := toT k t.1) (x := 0) (by rw [toT_length]; omega)) ?_
        refine ApL ((toL (k + 1) x).map dq) rfl el.symm (by simp only [lq, List.length_cons]; omega) (by omega) ?_
        refine Og 4 rfl rfl ?_
        exact Rw [(54, 1000000)] [(1000000, .tok ((toL (k + 1) x).map dq).length 4)] rfl (fit rfl) (.inr ⟨rfl, rfl⟩)
      · refine No rfl (by simp) ?_
        refine Ce rfl (R2.FromInt_ok (z := 0) (by decide)) ?_
        refine Ce rfl (FromRat_ok (t := toT k t.1) (x := 0) (by rw [toT_length]; omega)) ?_
        refine ApG ((toL (k + 1) x).map dq) rfl el.symm (by omega) ?_
        exact Rw [(54, 1000000)] [(1000000, .tok ((toL (k + 1) x).map dq).length 4)] rfl (fit rfl) (.inr ⟨rfl, rfl⟩)
    · have hnz : Tow.norm k t a ≠ zero k := by
        have hh : Tow.inv (k + 1) t a = match Tow.inv k t.1 (Tow.norm k t a) with | none => none | some x => some (mul k t.1 a.1 x, Tow.neg k (mul k t.1 a.2 x)) := rfl
        cases h2 : Tow.inv k t.1 (Tow.norm k t a) with
        | none => rw [hinv, h2] at hh; cases hh
        | some y => exact inv_ne0 hR.1 h2
      obtain ⟨y, hy1, hc⟩ := ih hT.1 hN hR.1 hnz (by omega) (by omega)
      have hzx := hN.inv hT.1 hy1
      have ex : x = (mul k t.1 a.1 y, Tow.neg k (mul k t.1 a.2 y)) := by
        have hh : Tow.inv (k + 1) t a = match Tow.inv k t.1 (Tow.norm k t a) with | none => none | some x => some (mul k t.1 a.1 x, Tow.neg k (mul k t.1 a.2 x)) := rfl
        rw [hinv, hy1] at hh; injection hh
      have en : Tow.neg k (mul k t.1 a.2 y) = mul k t.1 (Tow.neg k a.2) y := ((ring k t.1).nm _ _).symm
      have el : (toL (k + 1) x).map dq = (toL k (mul k t.1 a.1 y)).map dq ++ (toL k (mul k t.1 (Tow.neg k a.2) y)).map dq := by rw [ex, en, ← List.map_append]; rfl
      have hll : ((toL (k + 1) x).map dq).length ≤ 1048576 := by rw [lq, toL_length]; omega
      have hcd : C0 53 [.d (dt t.1), .d (de (Tow.norm k t a))] (· = .tup (.pr (.d (de y)) (.d (.int .i64 0)))) := CW.data hc rfl fun v H' hv => by
        rcases hv with ⟨_, rfl, rfl⟩ | ⟨rfl, rfl⟩
        · exact ⟨_, .tup (.cons (.lit rfl) (.one (.rf rfl) (fun _ _ e => by cases e) (fun _ _ e => by cases e))), rfl⟩
        · exact ⟨_, .tup (.cons (.gr rfl) (.one (.rf rfl) (fun _ _ e => by cases e) (fun _ _ e => by cases e))), rfl⟩
      refine Ce rfl (Norm_ok hT ha hk (by omega)) ?_
      refine Ce rfl hcd ?_
      refine No rfl (by simp) ?_
      refine Dw rfl ?_
      refine Tk (2 ^ k) ((toL k a.1).map dq) rfl rfl (hv_le a) (hvT a) ?_
      rcases Mul_both hT.1 hx hzx (by omega) (by omega) with hm | hm
      · refine Ce rfl hm ?_
        refine Dp (2 ^ k) ((toL k a.2).map dq) rfl rfl (hv_le a) (hvD a) ?_
        refine Ce rfl (Neg_el (by omega) hy.ps (by omega)) ?_
        refine Ce rfl (Mul_el hT.1 (neg_sz hy) hzx (by omega) (by omega)) ?_
        refine ApL ((toL (k + 1) x).map dq) rfl el.symm (by rw [lq, hlen]; omega) (by omega) ?_
        refine Og 4 rfl rfl ?_
        exact Rw [(80, 1000000)] [(1000000, .tok ((toL (k + 1) x).map dq).length 4)] rfl (fit rfl) (.inr ⟨rfl, rfl⟩)
      · refine Cg rfl hm ?_
        refine Dp (2 ^ k) ((toL k a.2).map dq) rfl rfl (hv_le a) (hvD a) ?_
        refine Ce rfl (Neg_el (by omega) hy.ps (by omega)) ?_
        refine Ce rfl (Mul_el hT.1 (neg_sz hy) hzx (by omega) (by omega)) ?_
        refine ApG ((toL (k + 1) x).map dq) rfl el.symm (by omega) ?_
        exact Rw [(80, 1000000)] [(1000000, .tok ((toL (k + 1) x).map dq).length 4)] rfl (fit rfl) (.inr ⟨rfl, rfl⟩)
theorem Inv_ok {k r s : Nat} {t : Tw k} {a x : Tow.El k} (hT : TS r k t) (ha : Sz s (toL k a)) (hR : red k t) (hx : Tow.inv k t a = some x) (hk : k ≤ 16) (hs : iB r k s ≤ 4398046511104) : C0 53 [.d (dt t), .d (de a)] (· = .tup (.pr (.d (de x)) (.d (.int .i64 0)))) := by
  obtain ⟨y, hy, hc⟩ := Inv_own hT ha hR (inv_ne0 hR hx) hk hs
  rw [hx] at hy
  injection hy with hy
  subst hy
  exact CW.data hc rfl fun v H' hv => by
    rcases hv with ⟨_, rfl, rfl⟩ | ⟨rfl, rfl⟩
    · exact ⟨_, .tup (.cons (.lit rfl) (.one (.rf rfl) (fun _ _ e => by cases e) (fun _ _ e => by cases e))), rfl⟩
    · exact ⟨_, .tup (.cons (.gr rfl) (.one (.rf rfl) (fun _ _ e => by cases e) (fun _ _ e => by cases e))), rfl⟩
theorem Inv0_ok {k : Nat} : ∀ {t : Tw k}, k ≤ 16 → C0 53 [.d (dt t), .d (de (zero k))] (· = .tup (.pr (.d (dqs [])) (.d (.int .i64 6)))) := by
  induction k with
  | zero =>
    intro t hk
    refine En Tryz.func53 fun _ _ => ?_
    refine Yes rfl rfl ?_
    refine Ix 0 rfl (u := dq 0) rfl ?_
    refine Yes rfl (by decide +kernel) ?_
    exact RTt rfl (.cons (.nil rfl) (.one (.rf rfl) (fun _ _ e => by cases e) (fun _ _ e => by cases e)))
  | succ k ih =>
    intro t hk
    have hp := p16 hk
    have hp1 : 2 ^ (k + 1) = 2 * 2 ^ k := by rw [Nat.pow_succ]; omega
    refine En Tryz.func53 fun _ _ => ?_
    refine No rfl (by show ¬ ((((toT k t.1 ++ [toL k t.2]).map dqs).length : Nat) : Int) = 0; rw [twL]; omega) ?_
    refine Ar (2 ^ k : Nat) rfl ?_ (hvq (zero k, zero k) (by omega))
    refine Ar k rfl ?_ (tw1 t (by omega))
    refine Tk k ((toT k t.1).map dqs) rfl rfl (tw_le t) (twT t) ?_
    refine Dp (2 ^ k) ((toL k (zero k)).map dq) rfl rfl (hv_le (zero k, zero k)) (hvD (zero k, zero k)) ?_
    refine Ce rfl (Zero_ok (l := toL k (zero k)) (by rw [toL_length]; omega)) ?_
    refine Yes rfl ((eq_zero_iff k _).1 rfl) ?_
    refine Tk (2 ^ k) ((toL k (zero k)).map dq) rfl rfl (hv_le (zero k, zero k)) (hvT (zero k, zero k)) ?_
    refine Ce rfl (ih (t := t.1) (by omega)) ?_
    refine Yes rfl (by decide) ?_
    exact RTt rfl (.cons (.nil rfl) (.one (.rf rfl) (fun _ _ e => by cases e) (fun _ _ e => by cases e)))
end Go.Proofs.YtfmgfaeheljpcaaGreat.R6
