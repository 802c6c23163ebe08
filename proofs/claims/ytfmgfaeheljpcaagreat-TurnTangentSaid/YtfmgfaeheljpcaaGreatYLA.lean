/- signs of elements of towers. -/
import Derived.Test.YtfmgfaeheljpcaaGreatYKH
import Derived.Test.YtfmgfaeheljpcaaGreatYTK
set_option linter.unusedVariables false
set_option linter.unusedSimpArgs false
set_option maxRecDepth 10000
namespace Go.Proofs.YtfmgfaeheljpcaaGreat
open Go Go.Vm Go.Num Go.Tow
theorem sgnQ_cmp (x : Rat) : cmpI x.num 0 = sgnQ x := by
  rcases cmpI_tri x.num 0 with ⟨h, e⟩ | ⟨h, e⟩ | ⟨h, e⟩ <;> rw [e]
  · rw [sgnQ_neg (by rw [Rat.lt_iff]; show x.num * 1 < 0 * _; omega)]
  · rw [Rat.num_eq_zero.1 h]; rfl
  · rw [sgnQ_pos (by rw [Rat.lt_iff]; show 0 * _ < x.num * 1; omega)]
theorem sgn_sx {k : Nat} (t : Tw (k + 1)) (a : Tow.El (k + 1)) : sgn (k + 1) t a = if sgn k t.1 a.2 = 0 ∨ sgn k t.1 a.1 = sgn k t.1 a.2 then sgn k t.1 a.1 else if sgn k t.1 a.1 = 0 then sgn k t.1 a.2 else sgn k t.1 a.1 * sgn k t.1 (Tow.norm k t a) := rfl
theorem sgn_mul {k : Nat} {t t' : Tw k} {a b : Tow.El k} : arB .mul .i64 (sgn k t a) (sgn k t' b) (sgn k t a * sgn k t' b) := by
  rcases sgn_tri t a with h | h | h <;> rcases sgn_tri t' b with h' | h' | h' <;> rw [h, h'] <;> exact wr rfl (by simp [inK])
theorem value_ok {k : Nat} : ∀ {r s : Nat} {t : Tw k} {a : Tow.El k}, TS r k t → Sz s (toL k a) → k ≤ 16 → vB r k s ≤ 4398046511104 → r ≤ 4398046511104 → C0 168 [.d (dt t), .d (de a)] (· = .d (.int .i64 (sgn k t a))) := by
  induction k with
  | zero =>
    intro r s t a hT ha hk hs hr
    have hs : s ≤ 4398046511104 := hs
    have key : ∀ y : Rat, Qs s y → C0 168 [.d (dts []), .d (dqs [y])] (· = .d (.int .i64 (sgnQ y))) := fun y hy => by
      refine En Tryz.func168 fun _ _ => ?_
      refine Yes rfl rfl ?_
      refine Ix 0 rfl (u := dq y) rfl ?_
      refine Ce rfl (qSign_ok hy (by omega)) ?_
      rw [sgnQ_cmp]
      exact R0
    exact key a (ha.qs (List.mem_singleton.2 rfl))
  | succ k ih =>
    intro r s t a hT ha hk hs hr
    have hx : Sz s (toL k a.1) := Sz.left ha
    have hy : Sz s (toL k a.2) := Sz.right ha
    have hv : vB r k (nB r k s) ≤ 4398046511104 := hs
    have hv1 := vB_ge (r := r) k (nB r k s)
    have hv2 := vB_mono (r := r) (k := k) (nB_ge r k s)
    have hn : nB r k s = 4 * s + 3 * cB r k + r + 1 := rfl
    have hz := ha.norm hT
    refine En Tryz.func168 fun _ _ => ?_
    refine No rfl (by show ¬ ((((toT k t.1 ++ [toL k t.2]).map dqs).length : Nat) : Int) = 0; rw [twL]; omega) ?_
    refine Ar k rfl ?_ (tw1 t (by omega))
    refine Ar (2 ^ k : Nat) rfl ?_ (hvq a (by omega))
    refine Dw rfl ?_
    refine Tk k ((toT k t.1).map dqs) rfl rfl (tw_le t) (twT t) ?_
    refine Tk (2 ^ k) ((toL k a.1).map dq) rfl rfl (hv_le a) (hvT a) ?_
    refine Dp (2 ^ k) ((toL k a.2).map dq) rfl rfl (hv_le a) (hvD a) ?_
    refine Ce rfl (ih hT.1 hx (by omega) (by omega) hr) ?_
    refine Ce rfl (ih hT.1 hy (by omega) (by omega) hr) ?_
    rw [sgn_sx]
    refine By rfl (fun h => ?_) fun h => ?_
    · rw [if_pos (.inl h)]
      exact R0
    · refine By rfl (fun h1 => ?_) fun h1 => ?_
      · rw [if_pos (.inr h1)]
        exact R0
      · rw [if_neg (fun e => e.elim h h1)]
        refine By rfl (fun h2 => ?_) fun h2 => ?_
        · rw [if_pos h2]
          exact R0
        · rw [if_neg h2]
          refine Dw rfl ?_
          refine Ce rfl (tMul_ok hT.1 hx hx (by omega) (by omega) hr) ?_
          refine Ix k rfl (twU t) ?_
          refine Ce rfl (tMul_ok hT.1 hy hy (by omega) (by omega) hr) ?_
          refine Ce rfl (tMul_ok hT.1 hT.2 (hy.mul hT.1 hy) (by omega) (by omega) hr) ?_
          refine Ce rfl (tSub_ok hT.1 (hx.mul hT.1 hx) (hT.2.mul hT.1 (hy.mul hT.1 hy)) (by omega) (by omega) hr) ?_
          rw [(ring k t.1).mc t.2]
          refine Ce rfl (ih hT.1 hz (by omega) hv hr) ?_
          refine Ar _ rfl ?_ sgn_mul
          exact R0
theorem Tw.take {k : Nat} : ∀ {t : Tw k} {i : Nat}, i < k → ∃ (w : Tw i) (x : Tow.El i), (toT k t).take i = toT i w ∧ (toT k t)[i]? = some (toL i x) ∧ (∀ r, TS r k t → TS r i w ∧ Sz r (toL i x)) ∧ (real k t → real i w ∧ sgn i w x = 1) ∧ (red k t → red i w ∧ sgn i w x = 1 ∧ ¬ isSq i w x) := by
  induction k with
  | zero => intro t i h; omega
  | succ k ih =>
    intro t i h
    have hl := toT_length k t.1
    by_cases e : i = k
    · subst e
      refine ⟨t.1, t.2, List.take_left' hl, ?_, fun r h => h, fun h => h, fun h => h⟩
      show (toT i t.1 ++ [toL i t.2])[i]? = _
      rw [List.getElem?_append_right (by omega), hl, Nat.sub_self]; rfl
    · obtain ⟨w, x, h1, h2, h3, h4, h5⟩ := ih (t := t.1) (i := i) (by omega)
      refine ⟨w, x, ?_, ?_, fun r h => h3 r h.1, fun h => h4 h.1, fun h => h5 h.1⟩
      · show (toT k t.1 ++ [toL k t.2]).take i = _
        rw [List.take_append_of_le_length (by omega), h1]
      · show (toT k t.1 ++ [toL k t.2])[i]? = _
        rw [List.getElem?_append_left (by omega), h2]
theorem qs0 : Qs 1 0 := ⟨show (0 : Rat).num.natAbs < 2 ^ 1 by decide +kernel, show ((0 : Rat).den : Int).natAbs < 2 ^ 1 by decide +kernel⟩
section
variable {k r s : Nat} {t : Tw k} {a : Tow.El k}
theorem Real_ok (hT : TS r k t) (hR : real k t) (hk : k ≤ 16) (hv : vB r k r ≤ 4398046511104) (hr : r ≤ 4398046511104) : C0 226 [.d (dt t)] (· = .b true) := by
  refine En Tryz.func226 fun _ _ => ?_
  refine Ce rfl (qFromInt_ok (z := 0) (by decide)) ?_
  refine Ce rfl (tFromRat_ok (x := 0) (p := 1) hT hk hr qs0 (by decide)) ?_
  refine Ce rfl (tFormed_el hT (Sz.rat (p := 1) k qs0) hk (by decide) hr) ?_
  refine No rfl (by simp) ?_
  refine Lo (fun i : Nat => [(0, .d (dt t)), (11, .d (dt t)), (12, .d (.int .i64 ((toT k t).map dqs).length)), (13, .d (.int .i64 i))]) (fun _ => []) (fun i => i ≤ k) (fun i => k - i) 0 [] rfl (by omega) (fun i hi => ?_)
  refine By rfl (fun h => ?_) fun h => ?_ <;> simp only [lt', toT_length] at h
  · obtain ⟨w, x, h1, h2, h3, h4, h5⟩ := Tw.take (t := t) (i := i) (by omega)
    have hx := h3 r hT
    have h6 := vB_le (r := r) (s := r) (show i ≤ k by omega)
    refine Ix i rfl (mp h2) ?_
    refine Tk i ((toT i w).map dqs) rfl rfl (by rw [lt', toT_length]; omega) (by rw [← List.map_take, h1]) ?_
    refine Ce rfl (value_ok hx.1 hx.2 (by omega) (by omega) hr) ?_
    refine No rfl (by rw [(h4 hR).2]; decide) ?_
    refine Ar (i + 1 : Nat) rfl ?_
    exact Bk (i + 1) [] rfl (show i + 1 ≤ k by omega) (by show k - (i + 1) < k - i; omega)
  · exact R0
theorem good_ok {l : List (List Rat)} (hT : TS r k t) (hR : real k t) (hk : k ≤ 16) (hv : vB r k r ≤ 4398046511104) (hr : r ≤ 4398046511104) (hl : ∀ x ∈ l, ∃ a : Tow.El k, x = toL k a ∧ Sz s (toL k a)) (hn : l.length ≤ 1000) (hs : s ≤ 4398046511104) : C0 167 [.d (dt t), .d (dts l)] (· = .b true) := by
  refine En Tryz.func167 fun _ _ => ?_
  refine Lo (fun i : Nat => [(0, .d (dt t)), (7, .d (dts l)), (8, .d (.int .i64 (l.map dqs).length)), (9, .d (.int .i64 i))]) (fun _ => []) (fun i => i ≤ l.length) (fun i => l.length - i) 0 [] rfl (by omega) (fun i hi => ?_)
  refine By rfl (fun h => ?_) fun h => ?_ <;> simp only [lt'] at h
  · obtain ⟨x, hx⟩ : ∃ x, l[i]? = some x := ⟨_, List.getElem?_eq_getElem (by omega)⟩
    obtain ⟨a, rfl, ha⟩ := hl x (List.mem_of_getElem? hx)
    refine Ix i rfl (mp hx) ?_
    refine Ce rfl (tFormed_el hT ha hk hs hr) ?_
    refine No rfl (by simp) ?_
    refine Ar (i + 1 : Nat) rfl ?_
    exact Bk (i + 1) [] rfl (show i + 1 ≤ l.length by omega) (by show l.length - (i + 1) < l.length - i; omega)
  · refine Ce rfl (Real_ok hT hR hk hv hr) ?_
    exact R0
theorem Sign_el (hT : TS r k t) (ha : Sz s (toL k a)) (hR : real k t) (hk : k ≤ 16) (hs : vB r k s ≤ 4398046511104) (hv : vB r k r ≤ 4398046511104) (hr : r ≤ 4398046511104) : C0 99 [.d (dt t), .d (de a)] (· = .d (.int .i64 (sgn k t a))) := by
  have := vB_ge (r := r) k s
  refine En Tryz.func99 fun _ _ => ?_
  refine Ce rfl (good_ok (l := [toL k a]) (s := s) hT hR hk hv hr (fun x hx => ⟨a, List.mem_singleton.1 hx, ha⟩) (by simp) (by omega)) ?_
  refine No rfl (by simp) ?_
  refine Ce rfl (value_ok hT ha hk hs hr) ?_
  exact R0
end
end Go.Proofs.YtfmgfaeheljpcaaGreat
namespace Go.Proofs.YtfmgfaeheljpcaaGreat.R7
open Go Go.Vm Go.Num Go.Tow Go.Proofs.YtfmgfaeheljpcaaGreat
theorem sign_ok {k : Nat} : ∀ {r s : Nat} {t : Tw k} {a : Tow.El k}, TS r k t → Sz s (toL k a) → k ≤ 16 → vB r k s ≤ 4398046511104 → C0 111 [.d (dt t), .d (de a)] (· = .d (.int .i64 (sgn k t a))) := by
  induction k with
  | zero =>
    intro r s t a hT ha hk hs
    have hs : s ≤ 4398046511104 := hs
    have key : ∀ y : Rat, Qs s y → C0 111 [.d (dts []), .d (dqs [y])] (· = .d (.int .i64 (sgnQ y))) := fun y hy => by
      refine En Tryz.func111 fun _ _ => ?_
      refine Yes rfl rfl ?_
      refine Ix 0 rfl (u := dq y) rfl ?_
      refine Ce rfl (R2.Sign_ok hy (by omega)) ?_
      rw [sgnQ_cmp]
      exact R0
    exact key a (ha.qs (List.mem_singleton.2 rfl))
  | succ k ih =>
    intro r s t a hT ha hk hs
    have hx : Sz s (toL k a.1) := Sz.left ha
    have hy : Sz s (toL k a.2) := Sz.right ha
    have hv : vB r k (nB r k s) ≤ 4398046511104 := hs
    have hv1 := vB_ge (r := r) k (nB r k s)
    have hv2 := vB_mono (r := r) (k := k) (nB_ge r k s)
    have hz := ha.norm hT
    refine En Tryz.func111 fun _ _ => ?_
    refine No rfl (by show ¬ ((((toT k t.1 ++ [toL k t.2]).map dqs).length : Nat) : Int) = 0; rw [twL]; omega) ?_
    refine Ar k rfl ?_ (tw1 t (by omega))
    refine Dw rfl ?_
    refine Ar (2 ^ k : Nat) rfl ?_ (hvq a (by omega))
    refine Tk (2 ^ k) ((toL k a.1).map dq) rfl rfl (hv_le a) (hvT a) ?_
    refine Ar (2 ^ k : Nat) rfl ?_ (hvq a (by omega))
    refine Dp (2 ^ k) ((toL k a.2).map dq) rfl rfl (hv_le a) (hvD a) ?_
    refine Dw rfl ?_
    refine Tk k ((toT k t.1).map dqs) rfl rfl (tw_le t) (twT t) ?_
    refine Ce rfl (ih hT.1 hx (by omega) (by omega)) ?_
    refine Tk k ((toT k t.1).map dqs) rfl rfl (tw_le t) (twT t) ?_
    refine Ce rfl (ih hT.1 hy (by omega) (by omega)) ?_
    rw [sgn_sx]
    refine By rfl (fun h => ?_) fun h => ?_
    · rw [if_pos (.inl h)]
      exact R0
    · refine By rfl (fun h1 => ?_) fun h1 => ?_
      · rw [if_pos (.inr h1)]
        exact R0
      · rw [if_neg (fun e => e.elim h h1)]
        refine By rfl (fun h2 => ?_) fun h2 => ?_
        · rw [if_pos h2]
          exact R0
        · rw [if_neg h2]
          refine Dw rfl ?_
          refine Tk k ((toT k t.1).map dqs) rfl rfl (tw_le t) (twT t) ?_
          refine Ce rfl (R6.Norm_ok hT ha hk (by omega)) ?_
          refine Ce rfl (ih hT.1 hz (by omega) hv) ?_
          refine Ar _ rfl ?_ sgn_mul
          exact R0
section
variable {k r s : Nat} {t : Tw k} {a : Tow.El k}
theorem Real_ok (hT : TS r k t) (hR : real k t) (hk : k ≤ 16) (hv : vB r k r ≤ 4398046511104) : C0 302 [.d (dt t)] (· = .b true) := by
  have := vB_ge (r := r) k r
  refine En Tryz.func302 fun _ _ => ?_
  refine Ce rfl (R6.Tower_ok (TS.pt hT) (by omega) (by rw [toT_length]; omega)) ?_
  refine No rfl (by simp) ?_
  refine Lo (fun i : Nat => [(0, .d (dt t)), (3, .d (.int .i64 i))]) (fun _ => []) (fun i => i ≤ k) (fun i => k - i) 0 [] rfl (by omega) (fun i hi => ?_)
  refine By rfl (fun h => ?_) fun h => ?_ <;> simp only [lt', toT_length] at h
  · obtain ⟨w, x, h1, h2, h3, h4, h5⟩ := Tw.take (t := t) (i := i) (by omega)
    have hx := h3 r hT
    have h6 := vB_le (r := r) (s := r) (show i ≤ k by omega)
    refine Dw rfl ?_
    refine Tk i ((toT i w).map dqs) rfl rfl (by rw [lt', toT_length]; omega) (by rw [← List.map_take, h1]) ?_
    refine Ix i rfl (mp h2) ?_
    refine Ce rfl (sign_ok hx.1 hx.2 (by omega) (by omega)) ?_
    refine No rfl (by rw [(h4 hR).2]; simp) ?_
    refine Ar (i + 1 : Nat) rfl ?_
    exact Bk (i + 1) [] rfl (show i + 1 ≤ k by omega) (by show k - (i + 1) < k - i; omega)
  · exact R0
theorem Sign_ok (hT : TS r k t) (ha : Sz s (toL k a)) (hR : real k t) (hk : k ≤ 16) (hs : vB r k s ≤ 4398046511104) (hv : vB r k r ≤ 4398046511104) : C0 272 [.d (dt t), .d (de a)] (· = .d (.int .i64 (sgn k t a))) := by
  have := vB_ge (r := r) k s
  have := vB_ge (r := r) k r
  refine En Tryz.func272 fun _ _ => ?_
  refine Ce rfl (R6.Formed_ok (TS.pt hT) (by omega) ha.ps (by omega) (by rw [toT_length]; omega) (nlen t a)) ?_
  refine No rfl (by simp) ?_
  refine Ce rfl (Real_ok hT hR hk hv) ?_
  refine No rfl (by simp) ?_
  refine Ce rfl (sign_ok hT ha hk hs) ?_
  exact R0
theorem Fast_ok (hT : TS r k t) (ha : Sz s (toL k a)) (hk : k ≤ 16) (hs : vB r k s ≤ 4398046511104) : C0 52 [.d (dt t), .d (de a)] (· = .d (.int .i64 (sgn k t a))) := by
  refine En Tryz.func52 fun _ _ => ?_
  refine Ce rfl (sign_ok hT ha hk hs) ?_
  exact R0
end
end Go.Proofs.YtfmgfaeheljpcaaGreat.R7
