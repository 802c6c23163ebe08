/- the reference's towers: products. -/
import Derived.Test.YtfmgfaeheljpcaaGreatYKF
import Derived.Test.YtfmgfaeheljpcaaGreatYWI
set_option linter.unusedVariables false
set_option linter.unusedSimpArgs false
set_option maxRecDepth 10000
namespace Go.Proofs.YtfmgfaeheljpcaaGreat.R6
open Go Go.Vm Go.Num Go.Tow Go.Proofs.YtfmgfaeheljpcaaGreat
theorem Mul0_ok {x y : Rat} {p q : Nat} (hx : Qs p x) (hy : Qs q y) (h : p + q + 1 ≤ 8796093022208) : C0 108 [.d (dts []), .d (dqs [x]), .d (dqs [y])] (· = .lit 4 [dq (x * y)]) := by
  refine En Tryz.func108 fun _ _ => ?_
  refine Yes rfl rfl ?_
  refine Dw rfl ?_
  refine Ix 0 rfl (u := dq x) rfl ?_
  refine Ix 0 rfl (u := dq y) rfl ?_
  refine Ce rfl (R2.Mul_ok hx hy h) ?_
  exact R0
/-- one level up -/
theorem Mul_step {k : Nat} (muld : ∀ {r s s' : Nat} {t : Tw k} {a b : Tow.El k}, TS r k t → Sz s (toL k a) → Sz s' (toL k b) → k ≤ 16 → s + s' + cB r k ≤ 4398046511104 → C0 108 [.d (dt t), .d (de a), .d (de b)] (· = .d (de (mul k t a b))))
    (ihk : ∀ {r s s' : Nat} {t : Tw k} {a b : Tow.El k}, TS r k t → Sz s (toL k a) → Sz s' (toL k b) → k ≤ 16 → s + s' + cB r k ≤ 4398046511104 → C0 108 [.d (dt t), .d (de a), .d (de b)] (· = .lit 4 ((toL k (mul k t a b)).map dq)) ∨ CG0 108 [.d (dt t), .d (de a), .d (de b)] 4 ((toL k (mul k t a b)).map dq))
    {r s s' : Nat} {t : Tw (k + 1)} {a b : Tow.El (k + 1)} (hT : TS r (k + 1) t) (ha : Sz s (toL (k + 1) a)) (hb : Sz s' (toL (k + 1) b)) (hk : k + 1 ≤ 16) (hs : s + s' + cB r (k + 1) ≤ 4398046511104) : CG0 108 [.d (dt t), .d (de a), .d (de b)] 4 ((toL (k + 1) (mul (k + 1) t a b)).map dq) := by
  have hp := p16 hk
  have hp1 : 2 ^ (k + 1) = 2 * 2 ^ k := by rw [Nat.pow_succ]; omega
  have h0 := Nat.two_pow_pos k
  have hcB : cB r (k + 1) = 2 * cB r k + r + 1 := rfl
  have hax : Sz s (toL k a.1) := Sz.left ha
  have hay : Sz s (toL k a.2) := Sz.right ha
  have hbx : Sz s' (toL k b.1) := Sz.left hb
  have hby : Sz s' (toL k b.2) := Sz.right hb
  have hlen := toL_length k
  have L := ring k t.1
  have m1 : a.2 = zero k → toL (k + 1) (mul (k + 1) t a b) = toL k (mul k t.1 a.1 b.1) ++ toL k (mul k t.1 a.1 b.2) := fun e => by
    show toL k (Tow.add k _ (mul k t.1 (mul k t.1 a.2 b.2) t.2)) ++ toL k (Tow.add k _ (mul k t.1 a.2 b.1)) = _
    rw [e, L.zm, L.zm, L.zm, L.az, L.az]
  have m2 : b.2 = zero k → toL (k + 1) (mul (k + 1) t a b) = toL k (mul k t.1 a.1 b.1) ++ toL k (mul k t.1 a.2 b.1) := fun e => by
    show toL k (Tow.add k _ (mul k t.1 (mul k t.1 a.2 b.2) t.2)) ++ toL k (Tow.add k (mul k t.1 a.1 b.2) _) = _
    rw [e, L.mz, L.zm, L.mz, L.az, L.za]
  have m12 : a.2 = zero k → b.2 = zero k → toL (k + 1) (mul (k + 1) t a b) = toL k (mul k t.1 a.1 b.1) ++ toL k (zero k) := fun e e2 => by rw [m1 e, e2, L.mz]
  have la : ((toL k a.1 ++ toL k a.2).map dq).length = 2 * 2 ^ k := by rw [lq, List.length_append, hlen, hlen]; omega
  have lb : ((toL k b.1 ++ toL k b.2).map dq).length = 2 * 2 ^ k := by rw [lq, List.length_append, hlen, hlen]; omega
  have ta : ((toL k a.1 ++ toL k a.2).map dq).take (2 ^ k) = (toL k a.1).map dq := by rw [← List.map_take, ← hlen a.1, List.take_left]
  have da : ((toL k a.1 ++ toL k a.2).map dq).drop (2 ^ k) = (toL k a.2).map dq := by rw [← List.map_drop, ← hlen a.1, List.drop_left]
  have tb : ((toL k b.1 ++ toL k b.2).map dq).take (2 ^ k) = (toL k b.1).map dq := by rw [← List.map_take, ← hlen b.1, List.take_left]
  have db : ((toL k b.1 ++ toL k b.2).map dq).drop (2 ^ k) = (toL k b.2).map dq := by rw [← List.map_drop, ← hlen b.1, List.drop_left]
  have lt2 : ((toT k t.1 ++ [toL k t.2]).map dqs).length = k + 1 := by rw [lt', List.length_append, toT_length]; rfl
  have tt : ((toT k t.1 ++ [toL k t.2]).map dqs).take k = (toT k t.1).map dqs := by rw [← List.map_take, List.take_left' (toT_length k t.1)]
  have tu : ((toT k t.1 ++ [toL k t.2]).map dqs)[k]? = some (de t.2) := by rw [List.getElem?_map, List.getElem?_append_right (by rw [toT_length]; exact Nat.le_refl _), toT_length, Nat.sub_self]; rfl
  refine EnW Tryz.func108 fun _ _ _ => ?_
  refine No rfl (by show ¬ ((((toT k t.1 ++ [toL k t.2]).map dqs).length : Nat) : Int) = 0; omega) ?_
  refine Ar (2 ^ k : Nat) rfl ?_ (quo2 la (by omega))
  refine Dw rfl ?_
  refine Ar k rfl ?_ (wr (by show ((((toT k t.1 ++ [toL k t.2]).map dqs).length : Nat) : Int) - 1 = k; omega) (by simp only [inK]; omega))
  refine Tk k ((toT k t.1).map dqs) rfl rfl (by show k ≤ ((toT k t.1 ++ [toL k t.2]).map dqs).length; omega) tt ?_
  refine Ar k rfl ?_ (wr (by show ((((toT k t.1 ++ [toL k t.2]).map dqs).length : Nat) : Int) - 1 = k; omega) (by simp only [inK]; omega))
  refine Ix k rfl tu ?_
  refine Dw rfl ?_
  refine Dp (2 ^ k) ((toL k a.2).map dq) rfl rfl (by show _ ≤ ((toL k a.1 ++ toL k a.2).map dq).length; omega) da ?_
  refine Ce rfl (Zero_ok (l := toL k a.2) (by rw [hlen]; omega)) ?_
  refine Dp (2 ^ k) ((toL k b.2).map dq) rfl rfl (by show _ ≤ ((toL k b.1 ++ toL k b.2).map dq).length; omega) db ?_
  refine Ce rfl (Zero_ok (l := toL k b.2) (by rw [hlen]; omega)) ?_
  refine Dw rfl ?_
  refine Tk (2 ^ k) ((toL k a.1).map dq) rfl rfl (by show _ ≤ ((toL k a.1 ++ toL k a.2).map dq).length; omega) ta ?_
  refine Tk (2 ^ k) ((toL k b.1).map dq) rfl rfl (by show _ ≤ ((toL k b.1 ++ toL k b.2).map dq).length; omega) tb ?_
  rcases ihk hT.1 hax hbx (by omega) (by omega) with hc | hc
  · refine Ce rfl hc ?_
    refine By rfl (fun h1 => ?_) fun h1 => ?_
    · have ea := (eq_zero_iff k a.2).2 h1
      refine By rfl (fun h2 => ?_) fun h2 => ?_
      · have eb := (eq_zero_iff k b.2).2 h2
        refine Ce rfl (R2.FromInt_ok (z := 0) (by decide)) ?_
        refine Ce rfl (FromRat_ok (t := toT k t.1) (x := 0) (by rw [toT_length]; omega)) ?_
        refine ApL ((toL (k + 1) (mul (k + 1) t a b)).map dq) rfl (by rw [m12 ea eb, ← List.map_append, toT_length]; congr 2; rw [toL_zero, ← List.replicate_succ, show 2 ^ k - 1 + 1 = 2 ^ k by omega]) (by simp only [lq, List.length_cons, List.length_replicate, hlen]; omega) (by rw [lq, toL_length]; omega) ?_
        refine Og 6 rfl rfl ?_
        exact Rw [(62, 1000000)] [(1000000, .tok ((toL (k + 1) (mul (k + 1) t a b)).map dq).length 4)] rfl (.one (.rf rfl) rfl rfl) ⟨_, rfl, rfl, rfl⟩
      · refine Yes rfl h1 ?_
        refine Dw rfl ?_
        refine Tk (2 ^ k) ((toL k a.1).map dq) rfl rfl (by show _ ≤ ((toL k a.1 ++ toL k a.2).map dq).length; omega) ta ?_
        refine Dp (2 ^ k) ((toL k b.2).map dq) rfl rfl (by show _ ≤ ((toL k b.1 ++ toL k b.2).map dq).length; omega) db ?_
        refine Ce rfl (muld hT.1 hax hby (by omega) (by omega)) ?_
        refine ApL ((toL (k + 1) (mul (k + 1) t a b)).map dq) rfl (by rw [m1 ea, ← List.map_append]) (by simp only [lq, List.length_cons, List.length_replicate, hlen]; omega) (by rw [lq, toL_length]; omega) ?_
        refine Og 6 rfl rfl ?_
        exact Rw [(73, 1000000)] [(1000000, .tok ((toL (k + 1) (mul (k + 1) t a b)).map dq).length 4)] rfl (.one (.rf rfl) rfl rfl) ⟨_, rfl, rfl, rfl⟩
    · refine No rfl h1 ?_
      refine By rfl (fun h2 => ?_) fun h2 => ?_
      · have eb := (eq_zero_iff k b.2).2 h2
        refine Dw rfl ?_
        refine Dp (2 ^ k) ((toL k a.2).map dq) rfl rfl (by show _ ≤ ((toL k a.1 ++ toL k a.2).map dq).length; omega) da ?_
        refine Tk (2 ^ k) ((toL k b.1).map dq) rfl rfl (by show _ ≤ ((toL k b.1 ++ toL k b.2).map dq).length; omega) tb ?_
        refine Ce rfl (muld hT.1 hay hbx (by omega) (by omega)) ?_
        refine ApL ((toL (k + 1) (mul (k + 1) t a b)).map dq) rfl (by rw [m2 eb, ← List.map_append]) (by simp only [lq, List.length_cons, List.length_replicate, hlen]; omega) (by rw [lq, toL_length]; omega) ?_
        refine Og 6 rfl rfl ?_
        exact Rw [(84, 1000000)] [(1000000, .tok ((toL (k + 1) (mul (k + 1) t a b)).map dq).length 4)] rfl (.one (.rf rfl) rfl rfl) ⟨_, rfl, rfl, rfl⟩
      · refine Dw rfl ?_
        refine Dp (2 ^ k) ((toL k a.2).map dq) rfl rfl (by show _ ≤ ((toL k a.1 ++ toL k a.2).map dq).length; omega) da ?_
        refine Dp (2 ^ k) ((toL k b.2).map dq) rfl rfl (by show _ ≤ ((toL k b.1 ++ toL k b.2).map dq).length; omega) db ?_
        refine Ce rfl (muld hT.1 hay hby (by omega) (by omega)) ?_
        refine Ce rfl (muld hT.1 (hay.mul hT.1 hby) hT.2 (by omega) (by omega)) ?_
        refine Cg rfl (Add_ok (by rw [hlen, hlen]) (by rw [hlen]; omega) (hax.mul hT.1 hbx).ps ((hay.mul hT.1 hby).mul hT.1 hT.2).ps (by omega)) ?_
        refine Dw rfl ?_
        refine Tk (2 ^ k) ((toL k a.1).map dq) rfl rfl (by show _ ≤ ((toL k a.1 ++ toL k a.2).map dq).length; omega) ta ?_
        refine Dp (2 ^ k) ((toL k b.2).map dq) rfl rfl (by show _ ≤ ((toL k b.1 ++ toL k b.2).map dq).length; omega) db ?_
        refine Ce rfl (muld hT.1 hax hby (by omega) (by omega)) ?_
        refine Dp (2 ^ k) ((toL k a.2).map dq) rfl rfl (by show _ ≤ ((toL k a.1 ++ toL k a.2).map dq).length; omega) da ?_
        refine Tk (2 ^ k) ((toL k b.1).map dq) rfl rfl (by show _ ≤ ((toL k b.1 ++ toL k b.2).map dq).length; omega) tb ?_
        refine Ce rfl (muld hT.1 hay hbx (by omega) (by omega)) ?_
        refine Ce rfl (Add_el (by omega) (hax.mul hT.1 hby).ps (hay.mul hT.1 hbx).ps (by omega)) ?_
        refine ApG ((toL (k + 1) (mul (k + 1) t a b)).map dq) rfl (by rw [← List.map_append, ← toL_add]; rfl) (by rw [lq, toL_length]; omega) ?_
        exact Rw [(118, 1000000)] [(1000000, .tok ((toL (k + 1) (mul (k + 1) t a b)).map dq).length 4)] rfl (.one (.rf rfl) rfl rfl) ⟨_, rfl, rfl, rfl⟩
  · refine Cg rfl hc ?_
    refine By rfl (fun h1 => ?_) fun h1 => ?_
    · have ea := (eq_zero_iff k a.2).2 h1
      refine By rfl (fun h2 => ?_) fun h2 => ?_
      · have eb := (eq_zero_iff k b.2).2 h2
        refine Ce rfl (R2.FromInt_ok (z := 0) (by decide)) ?_
        refine Ce rfl (FromRat_ok (t := toT k t.1) (x := 0) (by rw [toT_length]; omega)) ?_
        refine ApG ((toL (k + 1) (mul (k + 1) t a b)).map dq) rfl (by rw [m12 ea eb, ← List.map_append, toT_length]; congr 2; rw [toL_zero, ← List.replicate_succ, show 2 ^ k - 1 + 1 = 2 ^ k by omega]) (by rw [lq, toL_length]; omega) ?_
        exact Rw [(62, 1000000)] [(1000000, .tok ((toL (k + 1) (mul (k + 1) t a b)).map dq).length 4)] rfl (.one (.rf rfl) rfl rfl) ⟨_, rfl, rfl, rfl⟩
      · refine Yes rfl h1 ?_
        refine Dw rfl ?_
        refine Tk (2 ^ k) ((toL k a.1).map dq) rfl rfl (by show _ ≤ ((toL k a.1 ++ toL k a.2).map dq).length; omega) ta ?_
        refine Dp (2 ^ k) ((toL k b.2).map dq) rfl rfl (by show _ ≤ ((toL k b.1 ++ toL k b.2).map dq).length; omega) db ?_
        refine Ce rfl (muld hT.1 hax hby (by omega) (by omega)) ?_
        refine ApG ((toL (k + 1) (mul (k + 1) t a b)).map dq) rfl (by rw [m1 ea, ← List.map_append]) (by rw [lq, toL_length]; omega) ?_
        exact Rw [(73, 1000000)] [(1000000, .tok ((toL (k + 1) (mul (k + 1) t a b)).map dq).length 4)] rfl (.one (.rf rfl) rfl rfl) ⟨_, rfl, rfl, rfl⟩
    · refine No rfl h1 ?_
      refine By rfl (fun h2 => ?_) fun h2 => ?_
      · have eb := (eq_zero_iff k b.2).2 h2
        refine Dw rfl ?_
        refine Dp (2 ^ k) ((toL k a.2).map dq) rfl rfl (by show _ ≤ ((toL k a.1 ++ toL k a.2).map dq).length; omega) da ?_
        refine Tk (2 ^ k) ((toL k b.1).map dq) rfl rfl (by show _ ≤ ((toL k b.1 ++ toL k b.2).map dq).length; omega) tb ?_
        refine Ce rfl (muld hT.1 hay hbx (by omega) (by omega)) ?_
        refine ApG ((toL (k + 1) (mul (k + 1) t a b)).map dq) rfl (by rw [m2 eb, ← List.map_append]) (by rw [lq, toL_length]; omega) ?_
        exact Rw [(84, 1000000)] [(1000000, .tok ((toL (k + 1) (mul (k + 1) t a b)).map dq).length 4)] rfl (.one (.rf rfl) rfl rfl) ⟨_, rfl, rfl, rfl⟩
      · refine Dw rfl ?_
        refine Dp (2 ^ k) ((toL k a.2).map dq) rfl rfl (by show _ ≤ ((toL k a.1 ++ toL k a.2).map dq).length; omega) da ?_
        refine Dp (2 ^ k) ((toL k b.2).map dq) rfl rfl (by show _ ≤ ((toL k b.1 ++ toL k b.2).map dq).length; omega) db ?_
        refine Ce rfl (muld hT.1 hay hby (by omega) (by omega)) ?_
        refine Ce rfl (muld hT.1 (hay.mul hT.1 hby) hT.2 (by omega) (by omega)) ?_
        refine Cg rfl (Add_ok (by rw [hlen, hlen]) (by rw [hlen]; omega) (hax.mul hT.1 hbx).ps ((hay.mul hT.1 hby).mul hT.1 hT.2).ps (by omega)) ?_
        refine Dw rfl ?_
        refine Tk (2 ^ k) ((toL k a.1).map dq) rfl rfl (by show _ ≤ ((toL k a.1 ++ toL k a.2).map dq).length; omega) ta ?_
        refine Dp (2 ^ k) ((toL k b.2).map dq) rfl rfl (by show _ ≤ ((toL k b.1 ++ toL k b.2).map dq).length; omega) db ?_
        refine Ce rfl (muld hT.1 hax hby (by omega) (by omega)) ?_
        refine Dp (2 ^ k) ((toL k a.2).map dq) rfl rfl (by show _ ≤ ((toL k a.1 ++ toL k a.2).map dq).length; omega) da ?_
        refine Tk (2 ^ k) ((toL k b.1).map dq) rfl rfl (by show _ ≤ ((toL k b.1 ++ toL k b.2).map dq).length; omega) tb ?_
        refine Ce rfl (muld hT.1 hay hbx (by omega) (by omega)) ?_
        refine Ce rfl (Add_el (by omega) (hax.mul hT.1 hby).ps (hay.mul hT.1 hbx).ps (by omega)) ?_
        refine ApG ((toL (k + 1) (mul (k + 1) t a b)).map dq) rfl (by rw [← List.map_append, ← toL_add]; rfl) (by rw [lq, toL_length]; omega) ?_
        exact Rw [(118, 1000000)] [(1000000, .tok ((toL (k + 1) (mul (k + 1) t a b)).map dq).length 4)] rfl (.one (.rf rfl) rfl rfl) ⟨_, rfl, rfl, rfl⟩
theorem Mul_both : ∀ {k : Nat} {r s s' : Nat} {t : Tw k} {a b : Tow.El k}, TS r k t → Sz s (toL k a) → Sz s' (toL k b) → k ≤ 16 → s + s' + cB r k ≤ 4398046511104 → C0 108 [.d (dt t), .d (de a), .d (de b)] (· = .lit 4 ((toL k (mul k t a b)).map dq)) ∨ CG0 108 [.d (dt t), .d (de a), .d (de b)] 4 ((toL k (mul k t a b)).map dq) := by
  intro k
  induction k with
  | zero => intro r s s' t a b hT ha hb hk hs; exact .inl (Mul0_ok (ha.qs (List.mem_singleton.2 rfl)) (hb.qs (List.mem_singleton.2 rfl)) (by omega))
  | succ k ih => intro r s s' t a b hT ha hb hk hs; exact .inr (Mul_step (fun hT ha hb hk hs => (ih hT ha hb hk hs).elim C.lit (fun h => CG.data h)) ih hT ha hb hk hs)
theorem Mul_el {k r s s' : Nat} {t : Tw k} {a b : Tow.El k} (hT : TS r k t) (ha : Sz s (toL k a)) (hb : Sz s' (toL k b)) (hk : k ≤ 16) (hs : s + s' + cB r k ≤ 4398046511104) : C0 108 [.d (dt t), .d (de a), .d (de b)] (· = .d (de (mul k t a b))) := (Mul_both hT ha hb hk hs).elim C.lit (fun h => CG.data h)
end Go.Proofs.YtfmgfaeheljpcaaGreat.R6
