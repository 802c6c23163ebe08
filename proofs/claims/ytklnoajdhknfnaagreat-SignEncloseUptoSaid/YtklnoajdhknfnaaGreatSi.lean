/- The reference's sign, and the real towers. -/
import Derived.Test.YtklnoajdhknfnaaGreatSf
import Derived.Test.YtklnoajdhknfnaaGreatRk
import Derived.Test.YtklnoajdhknfnaaGreatIdt
set_option linter.unusedVariables false
set_option linter.unusedSimpArgs false
set_option maxRecDepth 10000
set_option maxHeartbeats 4000000
namespace Go.Proofs.YtklnoajdhknfnaaGreat
open Go Go.Rx Go.Num Go.Tow
section
theorem ref07_sign0 {W : GW} {p q : Option Addr} {c m d : Nat} {a : Rat} (h' : Sl RQ W q m d (cl [a])) :
    Ok Tryz.prog 43 [.slice p 0 c, .slice q m d] W fun _ v => v = .int .i64 (sgnQ a) := by
  refine Ok.enter Tryz.func43 rfl rfl rfl rfl fun W0 iEn => ?_
  refine J.seq <| J.reg rfl <| O.as rfl <| JO.nil <| J.seq <| J.seq <| J.reg rfl <| O.mv rfl <| O.len rfl <| O.eq rfl rfl <| JO.nil <| J.condD rfl (fun h12 => ?_) (fun h12 => ?_)
  · skip
    refine J.seq <| J.reg rfl <| O.mv rfl <| O.iaT (j := 0) rfl rfl rfl h'.to (show (cl [a])[0]? = some (cq a) from rfl) rfl fun b14 o14 hb14 => O.ldT rfl hb14.to.h rfl rfl (fun h => nomatch h) fun v15 h15 => ?_
    refine O.call rfl (ref02_Sign_ok h15.to) fun W16 v16 i16 e16 h16 => ?_
    subst h16
    refine O.as rfl <| JO.nil <| J.ret1 rfl (.tmp rfl) fun W' iE iP => ?_
    rw [sgnQ_cmp]
  · skip
    exact absurd rfl h12 -- done
theorem ref07_sign_ok {k : Nat} : ∀ {W : GW} {p q : Option Addr} {n c m d r s : Nat} {t : Tw k} {a : El k}, Sl RE W p n c (ct (toT k t)) → Sl RQ W q m d (cl (toL k a)) →
    TS r k t → Sz s (toL k a) → k ≤ 16 → vB r k s ≤ 8796093022208 → r ≤ 8796093022208 →
    Ok Tryz.prog 43 [.slice p n c, .slice q m d] W fun _ v => v = .int .i64 (sgn k t a) := by
  induction k with
  | zero =>
    intro W p q n c m d r s t a h h' hT ha hk hs hr
    have hn : n = 0 := h.hn
    subst hn
    exact ref07_sign0 (a := a) h'
  | succ k ih =>
    intro W p q n c m d r s t a h h' hT ha hk hs hr
    have hn : n = k + 1 := by rw [h.hn, ct, List.length_map, toT_length]
    have hm : m = 2 ^ (k + 1) := by rw [h'.hn, cl_length, toL_length]
    have hp := pow_le hk
    have hp1 : 2 ^ (k + 1) = 2 * 2 ^ k := by rw [Nat.pow_succ]; omega
    have hx : Sz s (toL k a.1) := Sz.left ha
    have hy : Sz s (toL k a.2) := Sz.right ha
    have hnb : nB r k s = 4 * s + 3 * cB r k + r + 1 := rfl
    have hv : vB r k (nB r k s) ≤ 8796093022208 := hs
    have hv1 := vB_ge (r := r) k (nB r k s)
    have hv2 := vB_mono (r := r) (k := k) (vnB_ge r k s)
    have hc' := h'.hc
    have hC' := h'.hC
    have hcc := h.hc
    have hCC := h.hC
    have s24 := h'.take (2 ^ k) (by omega)
    rw [(cl_halves a).1] at s24
    have s29 := h'.drop (2 ^ k) (by omega)
    rw [(cl_halves a).2] at s29
    have s32 := h.take k (by omega)
    rw [ct_succ, List.take_left' (by rw [ct, List.length_map, toT_length])] at s32
    have hq : Int.tdiv (m : Int) 2 = ((2 ^ k : Nat) : Int) := by rw [show Int.tdiv (m : Int) 2 = ((m / 2 : Nat) : Int) from rfl]; omega
    have hsg : sgn (k + 1) t a = if sgn k t.1 a.2 = 0 ∨ sgn k t.1 a.1 = sgn k t.1 a.2 then sgn k t.1 a.1 else if sgn k t.1 a.1 = 0 then sgn k t.1 a.2 else sgn k t.1 a.1 * sgn k t.1 ((ring k t.1).nP t.2 a) := rfl
    have hde : Tow.norm k t a = (ring k t.1).nP t.2 a := by
      show add k (mul k t.1 a.1 a.1) (neg k (mul k t.1 (mul k t.1 a.2 a.2) t.2)) = _
      rfl
    have hd : Sz (nB r k s) (toL k (Tow.norm k t a)) := by
      show Sz _ (toL k (add k (mul k t.1 a.1 a.1) (neg k (mul k t.1 (mul k t.1 a.2 a.2) t.2))))
      rw [toL_add, toL_neg]
      exact ((hx.mul hT.1 hx).add ((hy.mul hT.1 hy).mul hT.1 hT.2).neg).mono (by omega)
    refine Ok.enter Tryz.func43 rfl rfl rfl rfl fun W0 iEn => ?_
    refine J.seq <| J.reg rfl <| O.as rfl <| JO.nil <| J.seq <| J.seq <| J.reg rfl <| O.mv rfl <| O.len rfl <| O.eq rfl rfl <| JO.nil <| J.condD rfl (fun h12 => ?_) (fun h12 => ?_)
    · skip
      omega -- done
    · skip
      refine J.skip <| J.seq <| J.reg rfl <| O.mv rfl <| O.len rfl <| O.sb (r := (k : Int)) rfl rfl ((wI (by omega)).trans (by omega)) <| O.as rfl <| JO.nil <| J.seq <| ?_
      refine J.draw [.ex _, .ex _, .ex _, .ex _, .ex _, .ex _, .ex _, .ex _, .ex _, .ex _, .ex _, .ex _] rfl rfl ⟨fun Wd id ed _ => O.mv rfl <| D.ex, fun Wd id ed _ => O.mv rfl <| D.ex, fun Wd id ed _ => O.len rfl <| D.ex, fun Wd id ed _ => O.quo (r := ((2 ^ k : Nat) : Int)) rfl rfl (by decide) (by rw [hq]; exact wI (by omega)) <| D.ex, fun Wd id ed _ => O.slh (hi := 2 ^ k) rfl rfl rfl (by omega) <| D.ex, fun Wd id ed _ => O.mv rfl <| D.ex, fun Wd id ed _ => O.mv rfl <| D.ex, fun Wd id ed _ => O.len rfl <| D.ex, fun Wd id ed _ => O.quo (r := ((2 ^ k : Nat) : Int)) rfl rfl (by decide) (by rw [hq]; exact wI (by omega)) <| D.ex, fun Wd id ed _ => O.sll (lo := 2 ^ k) rfl rfl rfl (by omega) <| D.ex, fun Wd id ed _ => O.as rfl <| D.ex, fun Wd id ed _ => O.as rfl <| D.ex, trivial⟩ ?_
      intro Wr4 ir4 er4
      refine JO.nil <| J.seq <| ?_
      refine J.draw [.ex _, .ex _, .ex _, .ex _, .ex _, .ex _, .ex _, .ex _, .ex _, .ex _, .ex _, .ex _] rfl rfl ⟨fun Wd id ed _ => O.mv rfl <| D.ex, fun Wd id ed _ => O.mv rfl <| D.ex, fun Wd id ed _ => O.slh (hi := k) rfl rfl rfl (by omega) <| D.ex, fun Wd id ed _ => O.mv rfl <| D.ex, fun Wd id ed _ => O.call rfl (ih s32.to s24.to hT.1 hx (by omega) (by omega) hr) fun Wd vd id ed hd => D.eq ed hd, fun Wd id ed _ => O.mv rfl <| D.ex, fun Wd id ed _ => O.mv rfl <| D.ex, fun Wd id ed _ => O.slh (hi := k) rfl rfl rfl (by omega) <| D.ex, fun Wd id ed _ => O.mv rfl <| D.ex, fun Wd id ed _ => O.call rfl (ih s32.to s29.to hT.1 hy (by omega) (by omega) hr) fun Wd vd id ed hd => D.eq ed hd, fun Wd id ed _ => O.as rfl <| D.ex, fun Wd id ed _ => O.as rfl <| D.ex, trivial⟩ ?_
      intro Wr5 ir5 er5
      refine JO.nil <| J.seq <| J.seq <| J.reg rfl <| O.mv rfl <| O.eq rfl rfl <| O.mv rfl <| ?_
      by_cases hg42 : sgn k t.1 a.2 = 0
      · skip
        refine O.set (t := 42) (.bool true) rfl (by simp only [Value.bool.injEq, decide_eq_true_eq, decide_eq_false_iff_not]; omega) <| O.gs rfl rfl rfl <| O.gs rfl rfl rfl <| O.gs rfl rfl rfl <| O.pickT rfl rfl <| JO.nil <| J.condT rfl <| J.seq <| J.reg rfl <| O.mv rfl <| O.as rfl <| JO.nil <| J.ret1 rfl (.tmp rfl) fun W' iE iP => ?_
        rw [hsg, if_pos (by first | exact .inl hg42 | exact .inr h46)]
      · skip
        refine O.set (t := 42) (.bool false) rfl (by simp only [Value.bool.injEq, decide_eq_true_eq, decide_eq_false_iff_not]; omega) <| O.gt rfl rfl <| O.mv rfl <| O.gt rfl rfl <| O.mv rfl <| O.gt rfl rfl <| O.eq rfl rfl <| O.pickF rfl rfl <| JO.nil <| J.condD rfl (fun h46 => ?_) (fun h46 => ?_)
        · skip
          refine J.seq <| J.reg rfl <| O.mv rfl <| O.as rfl <| JO.nil <| J.ret1 rfl (.tmp rfl) fun W' iE iP => ?_
          rw [hsg, if_pos (by first | exact .inl hg42 | exact .inr h46)]
        · skip
          refine J.skip <| J.seq <| J.seq <| J.reg rfl <| O.mv rfl <| O.eq rfl rfl <| JO.nil <| J.condD rfl (fun h49 => ?_) (fun h49 => ?_)
          · skip
            refine J.seq <| J.reg rfl <| O.mv rfl <| O.as rfl <| JO.nil <| J.ret1 rfl (.tmp rfl) fun W' iE iP => ?_
            rw [hsg, if_neg (fun e => e.elim hg42 h46), if_pos h49]
          · skip
            refine J.skip <| J.seq <| ?_
            refine J.draw [.ex _, .ex _, .ex _, .ex _, .ex _, .ex _, .rel _, .ex _] rfl rfl ⟨fun Wd id ed _ => O.mv rfl <| D.ex, fun Wd id ed _ => O.mv rfl <| D.ex, fun Wd id ed _ => O.mv rfl <| D.ex, fun Wd id ed _ => O.slh (hi := k) rfl rfl rfl (by omega) <| D.ex, fun Wd id ed _ => O.mv rfl <| D.ex, fun Wd id ed _ => O.mv rfl <| D.ex, fun Wd id ed _ => O.call rfl ((ref06_Norm_own h.to h'.to hT ha hk (by omega)).own) fun Wd vd id ed hd => D.rel ed hd V.me, fun Wd id ed _ => fun _ _ => fun v57 h57 => (by obtain ⟨p57, m57, c57, rfl, s57⟩ := h57.sl; exact O.call rfl (ih s32.to s57 hT.1 hd (by omega) (by omega) hr) fun Wd vd id ed hd => D.eq ed hd), trivial⟩ ?_
            intro Wr10 ir10 er10 v57 h57
            obtain ⟨p57, m57, c57, rfl, s57⟩ := h57.sl
            refine O.mul (r := sgn (k + 1) t a) rfl rfl ((by rw [hsg, if_neg (fun e => e.elim hg42 h46), if_neg h49, hde]; exact wI (by rcases sgn_tri t.1 a.1 with e | e | e <;> rcases sgn_tri t.1 ((ring k t.1).nP t.2 a) with e' | e' | e' <;> rw [e, e'] <;> decide))) <| O.as rfl <| JO.nil <| J.ret1 rfl (.tmp rfl) fun W' iE iP => ?_
            rfl
/-! real towers -/
theorem toT_inj : ∀ {k : Nat} {a b : Tw k}, toT k a = toT k b → a = b
  | 0, _, _, _ => rfl
  | k + 1, a, b, h => by
    have h' : toT k a.1 ++ [toL k a.2] = toT k b.1 ++ [toL k b.2] := h
    obtain ⟨h1, h2⟩ := append_inj' (by rw [toT_length, toT_length]) h'
    injection h2 with h2
    exact Prod.ext (toT_inj h1) (toL_inj h2)
theorem ct_inj : ∀ {a b : List (List Rat)}, ct a = ct b → a = b
  | [], [], _ => rfl
  | [], _ :: _, h => nomatch h
  | _ :: _, [], h => nomatch h
  | x :: a, y :: b, h => by
    injection h with h1 h2
    rw [cl_inj h1, ct_inj h2]
theorem low_ex : ∀ {k : Nat} (w : Tw k) {i : Nat}, i ≤ k → ∃ w' : Tw i, (toT k w).take i = toT i w' ∧ (∀ r, TS r k w → TS r i w') ∧ (real k w → real i w')
  | 0, w, i, hi => by
    have : i = 0 := by omega
    subst this
    exact ⟨w, rfl, fun _ h => h, fun h => h⟩
  | k + 1, w, i, hi => by
    by_cases hik : i = k + 1
    · subst hik
      exact ⟨w, List.take_of_length_le (by rw [toT_length]; exact Nat.le_refl _), fun _ h => h, fun h => h⟩
    · obtain ⟨w', h1, h2, h3⟩ := low_ex w.1 (i := i) (by omega)
      refine ⟨w', ?_, fun r h => h2 r h.1, fun h => h3 h.1⟩
      rw [show toT (k + 1) w = toT k w.1 ++ [toL k w.2] from rfl, List.take_append_of_le_length (by rw [toT_length]; omega), h1]
/-- a real tower, as it lies in memory -/
def realR (t : List (List Raw)) : Prop := ∃ (k : Nat) (w : Tw k), t = ct (toT k w) ∧ real k w
theorem realR_ct {k : Nat} {w : Tw k} : realR (ct (toT k w)) ↔ real k w := by
  refine ⟨fun ⟨j, v, e, h⟩ => ?_, fun h => ⟨k, w, rfl, h⟩⟩
  have e := ct_inj e
  have hkj : k = j := by rw [← toT_length k w, e, toT_length]
  subst hkj
  rw [toT_inj e]
  exact h
theorem realR_ok {t : List (List Raw)} (h : realR t) : okT t := by
  obtain ⟨k, w, rfl, _⟩ := h
  exact okT_ct w
/-- the numbers of a tower are at most so long -/
def TSR (r : Nat) (t : List (List Raw)) : Prop := ∀ (k : Nat) (w : Tw k), t = ct (toT k w) → TS r k w
theorem vB_le (r s : Nat) : ∀ {i k : Nat}, i ≤ k → vB r i s ≤ vB r k s := by
  intro i k h
  induction h with
  | refl => exact Nat.le_refl _
  | step h ih => exact Nat.le_trans ih (vB_mono (vnB_ge _ _ _))
/-- the tower of one more level -/
theorem low_up {k : Nat} {w : Tw k} {i : Nat} (hi : i < k) : ∃ w' : Tw (i + 1), (toT k w).take (i + 1) = toT (i + 1) w' ∧ (toT k w).take i = toT i w'.1 ∧ (toT k w)[i]? = some (toL i w'.2) ∧ (∀ r, TS r k w → TS r (i + 1) w') ∧ (real k w → real (i + 1) w') := by
  obtain ⟨w', h1, h2, h3⟩ := low_ex w (i := i + 1) hi
  have h1' : (toT k w).take (i + 1) = toT i w'.1 ++ [toL i w'.2] := h1
  refine ⟨w', h1, ?_, ?_, h2, h3⟩
  · have := congrArg (List.take i) h1'
    rwa [List.take_take, List.take_left' (toT_length i w'.1), Nat.min_eq_left (by omega)] at this
  · have : ((toT k w).take (i + 1))[i]? = (toT i w'.1 ++ [toL i w'.2])[i]? := by rw [h1']
    rwa [List.getElem?_take, if_pos (by omega), List.getElem?_append_right (by rw [toT_length]; exact Nat.le_refl _), toT_length, Nat.sub_self] at this
section
variable {W : GW} {p : Option Addr} {n c r : Nat} {t : List (List Raw)}
theorem ref07_Real_ok (h : Sl RE W p n c t) (hl : ∀ r ∈ t, ∀ i ∈ r, smallR i) (hn16 : n ≤ 16) (hT : TSR r t) (hv : vB r n r ≤ 8796093022208) :
    Ok Tryz.prog 14 [.slice p n c] W fun _ v => ∃ b, v = .bool b ∧ (b = true ↔ realR t) := by
  have hn := h.hn
  have hr : r ≤ 8796093022208 := Nat.le_trans (vB_ge n r) hv
  refine Ok.enter Tryz.func14 rfl rfl rfl rfl fun W0 iEn => ?_
  refine J.seq <| J.reg rfl <| O.as rfl <| JO.nil <| J.seq <| J.seq <| J.reg rfl <| O.mv rfl <| O.call rfl (ref06_Tower_ok h.to hl (by omega)) fun W5 v5 i5 e5 h5 => ?_
  obtain ⟨b, rfl, hb⟩ := h5
  refine O.not rfl <| JO.nil <| J.cond rfl (fun h6 => ?_) (fun h6 => ?_)
  · skip
    refine J.seq <| J.reg rfl <| O.as rfl <| JO.nil <| J.ret1 rfl (.tmp rfl) fun W' iE iP => ?_
    exact ⟨false, rfl, fun h => (nomatch h), fun h => by rw [hb.2 (realR_ok h)] at h6; cases h6⟩
  · skip
    refine J.skip <| J.seq <| J.seq <| J.reg rfl <| O.as rfl <| JO.nil <| J.block <| ?_
    obtain ⟨k, w, rfl⟩ : ∃ k, ∃ w : Tw k, t = ct (toT k w) := ⟨_, okT_typed (hb.1 (by simpa using h6))⟩
    rw [ct_length] at hn
    subst hn
    have hTw := hT n w rfl
    refine J.loop (α := Nat) (fun i => [(0, .slice p n c), (3, .int .i64 (i : Int))]) (fun i W' => Le W0 W' ∧ i ≤ n ∧ ∃ v : Tw i, (toT n w).take i = toT i v ∧ real i v) (fun i => n - i) 0 ⟨rfl, rfl, trivial⟩ ⟨inferInstance, Nat.zero_le _, (), rfl, trivial⟩ ?_
    rintro i W3 ⟨_, hi, v, hv1, hvr⟩
    refine J.seq <| J.seq <| J.reg rfl <| O.mv rfl <| O.mv rfl <| O.len rfl <| O.lt rfl rfl <| JO.nil <| J.condD rfl (fun h10 => ?_) (fun h10 => ?_)
    · skip
      obtain ⟨u, hu1, hu2, hu3, hu4, hu5⟩ := low_up (w := w) (i := i) (by omega)
      have hvu : v = u.1 := toT_inj (hv1.symm.trans hu2)
      subst hvu
      have s15 := h.take i (by omega)
      rw [ct, ← List.map_take, hu2] at s15
      have hTu := hu4 r hTw
      have hcC := h.hC
      have hcc := h.hc
      refine J.skip <| J.seq <| J.block <| J.seq <| ?_
      obtain ⟨b18, o18, rfl, hj18, hb18⟩ := (h).placeP (ct_get hu3)
      refine J.draw [.ex _, .ex _, .ex _, .ex _, .ex _, .ex _, .rel _] rfl rfl ⟨fun Wd id ed _ => O.mv rfl <| D.ex, fun Wd id ed _ => O.mv rfl <| D.ex, fun Wd id ed _ => O.slh (hi := i) rfl rfl rfl (by omega) <| D.ex, fun Wd id ed _ => O.mv rfl <| D.ex, fun Wd id ed _ => O.mv rfl <| D.ex, fun Wd id ed _ => O.ia (j := i) rfl rfl rfl hj18 <| D.ex, fun Wd id ed _ => O.ldTD rfl hb18.to.h rfl rfl (fun _ => rfl), trivial⟩ ?_
      intro Wr6 ir6 er6 v19 h19
      obtain ⟨p19, m19, c19, rfl, s19⟩ := h19.sl
      refine O.call rfl (ref07_sign_ok (t := u.1) (a := u.2) s15.to s19 hTu.1 hTu.2 (by omega) (Nat.le_trans (vB_le r r (by omega)) hv) hr) fun W20 v20 i20 e20 h20 => ?_
      subst h20
      refine O.ne rfl rfl <| JO.nil <| J.condD rfl (fun h21 => ?_) (fun h21 => ?_)
      · skip
        refine J.seq <| J.reg rfl <| O.as rfl <| JO.nil <| J.ret1 rfl (.tmp rfl) fun W' iE iP => ?_
        exact ⟨false, rfl, fun h => (nomatch h), fun h => absurd (hu5 (realR_ct.1 h)).2 h21⟩
      · skip
        refine J.skip <| J.bend <| J.reg rfl <| O.mv rfl <| O.add rfl rfl (wI (by omega)) <| O.as rfl <| JO.nil <| ?_
        exact J.at' (i + 1) ⟨rfl, rfl, trivial⟩ ⟨⟨inferInstance, by omega, u, hu1, hvr, by first | exact h21 | exact Decidable.not_not.1 h21⟩, by omega⟩
    · skip
      refine J.exit rfl <| J.seq <| J.reg rfl <| O.as rfl <| JO.nil <| J.ret1 rfl (.tmp rfl) fun W' iE iP => ?_
      refine ⟨true, rfl, fun _ => ?_, fun _ => rfl⟩
      have hin : i = n := by omega
      subst hin
      rw [List.take_of_length_le (by rw [toT_length]; exact Nat.le_refl _)] at hv1
      rw [toT_inj hv1]
      exact realR_ct.2 hvr
end
end
section
/-- the numbers of a list are at most so long -/
def SZR (s : Nat) (l : List Raw) : Prop := ∀ xs, l = cl xs → Sz s xs
/-- tower and elements as they are to be -/
def fine (t : List (List Raw)) (ls : List (List Raw)) : Prop := (∀ l ∈ ls, okE (2 ^ t.length) l) ∧ realR t
/-- the sign, 0 for what is none of a real tower -/
def SgnIs (t : List (List Raw)) (l : List Raw) (z : Int) : Prop := (∃ (k : Nat) (w : Tw k) (a : El k), t = ct (toT k w) ∧ l = cl (toL k a) ∧ real k w ∧ z = sgn k w a) ∨ (¬ fine t [l] ∧ z = 0)
def CmpIs (t : List (List Raw)) (l l' : List Raw) (z : Int) : Prop := (∃ (k : Nat) (w : Tw k) (a b : El k), t = ct (toT k w) ∧ l = cl (toL k a) ∧ l' = cl (toL k b) ∧ real k w ∧ z = sgn k w (add k a (neg k b))) ∨ (¬ fine t [l, l'] ∧ z = 0)
theorem fine1 {t : List (List Raw)} {l : List Raw} (h : fine t [l]) : ∃ (k : Nat) (w : Tw k) (a : El k), t = ct (toT k w) ∧ l = cl (toL k a) ∧ real k w := by
  obtain ⟨h1, k, w, rfl, hw⟩ := h
  obtain ⟨a, rfl⟩ := okE_typed (k := k) (l := l) (by have := h1 l (by simp); rwa [ct_length] at this)
  exact ⟨k, w, a, rfl, rfl, hw⟩
theorem fine2 {t : List (List Raw)} {l l' : List Raw} (h : fine t [l, l']) : ∃ (k : Nat) (w : Tw k) (a b : El k), t = ct (toT k w) ∧ l = cl (toL k a) ∧ l' = cl (toL k b) ∧ real k w := by
  obtain ⟨h1, k, w, rfl, hw⟩ := h
  obtain ⟨a, rfl⟩ := okE_typed (k := k) (l := l) (by have := h1 l (by simp); rwa [ct_length] at this)
  obtain ⟨b, rfl⟩ := okE_typed (k := k) (l := l') (by have := h1 l' (by simp); rwa [ct_length] at this)
  exact ⟨k, w, a, b, rfl, rfl, rfl, hw⟩
theorem fine_ct1 {k : Nat} {w : Tw k} {a : El k} (h : real k w) : fine (ct (toT k w)) [cl (toL k a)] := ⟨fun l hl => by
  rw [List.mem_singleton.1 hl, ct_length]
  exact okE_cl (toL_length k a), realR_ct.2 h⟩
theorem fine_ct2 {k : Nat} {w : Tw k} {a b : El k} (h : real k w) : fine (ct (toT k w)) [cl (toL k a), cl (toL k b)] := ⟨fun l hl => by
  rw [ct_length]
  rcases List.mem_cons.1 hl with rfl | hl
  · exact okE_cl (toL_length k a)
  · rw [List.mem_singleton.1 hl]; exact okE_cl (toL_length k b), realR_ct.2 h⟩
theorem SgnIs.ex (t : List (List Raw)) (l : List Raw) : ∃ z, SgnIs t l z := by
  by_cases h : fine t [l]
  · obtain ⟨k, w, a, h1, h2, h3⟩ := fine1 h
    exact ⟨_, .inl ⟨k, w, a, h1, h2, h3, rfl⟩⟩
  · exact ⟨0, .inr ⟨h, rfl⟩⟩
theorem SgnIs.ct {k : Nat} {w : Tw k} {a : El k} (h : real k w) : SgnIs (ct (toT k w)) (cl (toL k a)) (sgn k w a) := .inl ⟨k, w, a, rfl, rfl, h, rfl⟩
theorem CmpIs.ct {k : Nat} {w : Tw k} {a b : El k} (h : real k w) : CmpIs (ct (toT k w)) (cl (toL k a)) (cl (toL k b)) (sgn k w (add k a (neg k b))) := .inl ⟨k, w, a, b, rfl, rfl, rfl, h, rfl⟩
theorem Qs.zero : Qs 1 ((0 : Int) : Rat) := Qs.int (show (0 : Int).natAbs < 2 ^ 1 by decide) (Nat.le_refl _)
section
variable {W : GW} {p : Option Addr} {n c r s : Nat} {t : List (List Raw)}
theorem FromRat_gen (hl : ∀ r ∈ t, ∀ i ∈ r, smallR i) (hn16 : t.length ≤ 16) (hT : TSR r t) (hr : r ≤ 8796093022208) : ∃ l : List Raw, (∀ {W' : GW} {p' : Option Addr} {n' c' : Nat} {v : Value}, Sl RE W' p' n' c' t → V RQ W' v (cq ((0 : Int) : Rat)) →
      Ok Tryz.prog 39 [.slice p' n' c', v] W' fun W' v => V RE W' v l) ∧ (okT t → okE (2 ^ t.length) l) ∧ ∀ i ∈ l, smallR i := by
  have hz : smallR (cq ((0 : Int) : Rat)) := smallR_cq (p := 1) (Qs.zero) (by decide)
  by_cases hok : okT t
  · obtain ⟨k, w, rfl⟩ : ∃ k, ∃ w : Tw k, t = ct (toT k w) := ⟨_, okT_typed hok⟩
    rw [ct_length] at hn16
    refine ⟨cl (toL k (rat k ((0 : Int) : Rat))), fun h h' => tower_FromRat_ok h h' (hT k w rfl) hz hn16 (by omega), fun _ => okE_cl (by rw [toL_length, ct_length]), fun i hi => ?_⟩
    exact small_cl (p := 2) (Sz.rat k (p := 1) Qs.zero).qs' (by decide) i hi
  · exact ⟨[], fun h h' => tower_FromRat_nil h h' hl hz (by omega) (.inl hok), fun e => absurd e hok, fun i hi => nomatch hi⟩
theorem sign_Real_ok (h : Sl RE W p n c t) (hl : ∀ r ∈ t, ∀ i ∈ r, smallR i) (hn16 : n ≤ 16) (hT : TSR r t) (hv : vB r n r ≤ 8796093022208) :
    Ok Tryz.prog 13 [.slice p n c] W fun _ v => ∃ b, v = .bool b ∧ (b = true ↔ realR t) := by
  have hn := h.hn
  have hr : r ≤ 8796093022208 := Nat.le_trans (vB_ge n r) hv
  obtain ⟨L, hF, hI, hS⟩ := FromRat_gen (t := t) hl (by omega) hT hr
  refine Ok.enter Tryz.func13 rfl rfl rfl rfl fun W0 iEn => ?_
  refine J.seq <| J.reg rfl <| O.as rfl <| JO.nil <| J.seq <| J.seq <| J.reg rfl <| O.mv rfl <| O.mv rfl <| O.call rfl (rational_FromInt_ok (z := 0) (by decide)) fun W7 v7 i7 e7 h7 => ?_
  refine O.call rfl (hF h.to h7.to) fun W8 v8 i8 e8 h8 => ?_
  obtain ⟨p8, m8, c8, rfl, s8⟩ := h8.sl
  refine O.call rfl (tower_Formed_ok h.to s8.to hl hS (by omega)) fun W9 v9 i9 e9 h9 => ?_
  obtain ⟨b, rfl, hb⟩ := h9
  refine O.not rfl <| JO.nil <| J.cond rfl (fun h10 => ?_) (fun h10 => ?_)
  · skip
    refine J.seq <| J.reg rfl <| O.as rfl <| JO.nil <| J.ret1 rfl (.tmp rfl) fun W' iE iP => ?_
    exact ⟨false, rfl, fun h => (nomatch h), fun h => by rw [hb.2 ⟨realR_ok h, hI (realR_ok h)⟩] at h10; cases h10⟩
  · skip
    refine J.skip <| J.seq <| J.seq <| J.reg rfl <| O.mv rfl <| O.len rfl <| O.mv rfl <| JO.nil <| J.block <| ?_
    obtain ⟨k, w, rfl⟩ : ∃ k, ∃ w : Tw k, t = ct (toT k w) := ⟨_, okT_typed (hb.1 (by simpa using h10)).1⟩
    rw [ct_length] at hn
    subst hn
    have hTw := hT n w rfl
    refine J.loop (α := Nat) (fun i => [(0, .slice p n c), (11, .slice p n c), (12, .int .i64 (n : Int)), (13, .int .i64 (i : Int))]) (fun i W' => Le W0 W' ∧ i ≤ n ∧ ∃ v : Tw i, (toT n w).take i = toT i v ∧ real i v) (fun i => n - i) 0 ⟨rfl, rfl, rfl, rfl, trivial⟩ ⟨inferInstance, Nat.zero_le _, (), rfl, trivial⟩ ?_
    rintro i W3 ⟨_, hi, v, hv1, hvr⟩
    refine J.seq <| J.reg rfl <| O.lt rfl rfl <| JO.nil <| J.seq <| J.condD rfl (fun h14 => ?_) (fun h14 => ?_)
    · skip
      obtain ⟨u, hu1, hu2, hu3, hu4, hu5⟩ := low_up (w := w) (i := i) (by omega)
      have hvu : v = u.1 := toT_inj (hv1.symm.trans hu2)
      subst hvu
      have s20 := h.take i (by omega)
      rw [ct, ← List.map_take, hu2] at s20
      have hTu := hu4 r hTw
      have hcC := h.hC
      have hcc := h.hc
      refine J.skip <| J.seq <| J.block <| J.seq <| J.reg rfl <| O.mv rfl <| O.iaT (j := i) rfl rfl rfl h.to (ct_get hu3) rfl fun b16 o16 hb16 => ?_
      refine O.ldTs rfl hb16.to.h fun p17 m17 c17 s17 => ?_
      have h17 := s17.v
      refine O.as rfl <| O.as rfl <| JO.nil <| J.seq <| J.reg rfl <| O.mv rfl <| O.mv rfl <| O.slh (hi := i) rfl rfl rfl (by omega) <| O.mv rfl <| ?_
      refine O.call rfl (sign_value_ok (t := u.1) (a := u.2) s20.to s17.to hTu.1 hTu.2 (by omega) (Nat.le_trans (vB_le r r (by omega)) hv) hr) fun W22 v22 i22 e22 h22 => ?_
      subst h22
      refine O.le rfl rfl <| JO.nil <| J.condD rfl (fun h23 => ?_) (fun h23 => ?_)
      · skip
        refine J.seq <| J.reg rfl <| O.as rfl <| JO.nil <| J.ret1 rfl (.tmp rfl) fun W' iE iP => ?_
        exact ⟨false, rfl, fun h => (nomatch h), fun h => by have := (hu5 (realR_ct.1 h)).2; omega⟩
      · skip
        refine J.skip <| J.bend <| J.reg rfl <| O.add rfl rfl (wI (by omega)) <| O.mv rfl <| JO.nil <| ?_
        exact J.at' (i + 1) ⟨rfl, rfl, rfl, rfl, trivial⟩ ⟨⟨inferInstance, by omega, u, hu1, hvr, by rcases sgn_tri u.1 u.2 with e | e | e <;> omega⟩, by omega⟩
    · skip
      refine J.exit rfl <| J.seq <| J.reg rfl <| O.as rfl <| JO.nil <| J.ret1 rfl (.tmp rfl) fun W' iE iP => ?_
      refine ⟨true, rfl, fun _ => ?_, fun _ => rfl⟩
      have hin : i = n := by omega
      subst hin
      rw [List.take_of_length_le (by rw [toT_length]; exact Nat.le_refl _)] at hv1
      rw [toT_inj hv1]
      exact realR_ct.2 hvr
theorem sign_good_ok {q : Option Addr} {m d : Nat} {ls : List (List Raw)} (h : Sl RE W p n c t) (h' : Sl RE W q m d ls) (hl : ∀ r ∈ t, ∀ i ∈ r, smallR i) (hl' : ∀ r ∈ ls, ∀ i ∈ r, smallR i) (hn16 : n ≤ 16) (hT : TSR r t) (hv : vB r n r ≤ 8796093022208) :
    Ok Tryz.prog 44 [.slice p n c, .slice q m d] W fun _ v => ∃ b, v = .bool b ∧ (b = true ↔ fine t ls) := by
  have hn := h.hn
  have hm := h'.hn
  have hcC := h'.hC
  have hcc := h'.hc
  refine Ok.enter Tryz.func44 rfl rfl rfl rfl fun W0 iEn => ?_
  refine J.seq <| J.reg rfl <| O.as rfl <| JO.nil <| J.seq <| J.seq <| J.reg rfl <| O.mv rfl <| O.len rfl <| O.mv rfl <| JO.nil <| J.block <| ?_
  refine J.loop (α := Nat) (fun i => [(0, .slice p n c), (7, .slice q m d), (8, .int .i64 (m : Int)), (9, .int .i64 (i : Int))]) (fun i W' => Le W0 W' ∧ i ≤ m ∧ ∀ j l, j < i → ls[j]? = some l → okE (2 ^ t.length) l) (fun i => m - i) 0 ⟨rfl, rfl, rfl, rfl, trivial⟩ ⟨inferInstance, Nat.zero_le _, fun _ _ h => nomatch h⟩ ?_
  rintro i W3 ⟨_, hi, hd⟩
  refine J.seq <| J.reg rfl <| O.lt rfl rfl <| JO.nil <| J.seq <| J.condD rfl (fun h10 => ?_) (fun h10 => ?_)
  · skip
    obtain ⟨u, hu⟩ : ∃ u, ls[i]? = some u := ⟨_, List.getElem?_eq_getElem (by omega)⟩
    refine J.skip <| J.seq <| J.block <| J.seq <| J.reg rfl <| O.iaT (j := i) rfl rfl rfl h'.to hu rfl fun b11 o11 hb11 => ?_
    refine O.ldTs rfl hb11.to.h fun p12 m12 c12 s12 => ?_
    have h12 := s12.v
    refine O.as rfl <| JO.nil <| J.seq <| J.reg rfl <| O.mv rfl <| O.mv rfl <| O.call rfl (tower_Formed_ok h.to s12.to hl (hl' u (List.mem_of_getElem? hu)) (by omega)) fun W15 v15 i15 e15 h15 => ?_
    obtain ⟨b, rfl, hb⟩ := h15
    refine O.not rfl <| JO.nil <| J.cond rfl (fun h16 => ?_) (fun h16 => ?_)
    · skip
      refine J.seq <| J.reg rfl <| O.as rfl <| JO.nil <| J.ret1 rfl (.tmp rfl) fun W' iE iP => ?_
      exact ⟨false, rfl, fun h => (nomatch h), fun h => by rw [hb.2 ⟨realR_ok h.2, h.1 u (List.mem_of_getElem? hu)⟩] at h16; cases h16⟩
    · skip
      refine J.skip <| J.bend <| J.reg rfl <| O.add rfl rfl (wI (by omega)) <| O.mv rfl <| JO.nil <| ?_
      have hbt : b = true := by simpa using h16
      exact J.at' (i + 1) ⟨rfl, rfl, rfl, rfl, trivial⟩ ⟨⟨inferInstance, by omega, fun j l hj hjl => by
        by_cases hji : j = i
        · subst hji; rw [hu] at hjl; injection hjl with hjl; subst hjl; exact (hb.1 hbt).2
        · exact hd j l (by omega) hjl⟩, by omega⟩
  · skip
    refine J.exit rfl <| J.seq <| J.reg rfl <| O.mv rfl <| O.call rfl (sign_Real_ok h.to hl hn16 hT hv) fun W19 v19 i19 e19 h19 => ?_
    obtain ⟨b, rfl, hb⟩ := h19
    refine O.as rfl <| JO.nil <| J.ret1 rfl (.tmp rfl) fun W' iE iP => ?_
    refine ⟨b, rfl, fun e => ⟨fun l hl => ?_, hb.1 e⟩, fun e => hb.2 e.2⟩
    obtain ⟨j, hj⟩ := List.getElem?_of_mem hl
    refine hd j l ?_ hj
    have : j < ls.length := by
      by_cases h : j < ls.length
      · exact h
      · rw [List.getElem?_eq_none (by omega)] at hj; cases hj
    omega
theorem sign_Sign_ok {q : Option Addr} {m d : Nat} {l : List Raw} {z : Int} (hz : SgnIs t l z) (h : Sl RE W p n c t) (h' : Sl RQ W q m d l) (hl : ∀ r ∈ t, ∀ i ∈ r, smallR i) (hl' : ∀ i ∈ l, smallR i) (hn16 : n ≤ 16) (hT : TSR r t) (hS : SZR s l) (hv : vB r n r ≤ 8796093022208) (hv' : vB r n s ≤ 8796093022208) :
    Ok Tryz.prog 25 [.slice p n c, .slice q m d] W fun _ v => v = .int .i64 z := by
  have hn := h.hn
  refine Ok.enter Tryz.func25 rfl rfl rfl rfl fun W0 iEn => ?_
  refine J.seq <| J.reg rfl <| O.as rfl <| JO.nil <| J.seq <| J.seq <| J.reg rfl <| O.mv rfl <| O.mv rfl <| O.bs (r := RE) [l] rfl ⟨h'.to.v, trivial⟩ rfl rfl rfl (by decide) (.inr rfl) (by decide) fun W7 p7 i7 e7 s7 => O.call rfl (sign_good_ok h.to s7.to hl (fun r hr => by rw [List.mem_singleton.1 hr]; exact hl') hn16 hT hv) fun W8 v8 i8 e8 h8 => ?_
  obtain ⟨b, rfl, hb⟩ := h8
  refine O.not rfl <| JO.nil <| J.cond rfl (fun h9 => ?_) (fun h9 => ?_)
  · skip
    have hz0 : z = 0 := by
      rcases hz with ⟨k, w, a, rfl, rfl, hw, _⟩ | ⟨_, e⟩
      · rw [hb.2 (fine_ct1 hw)] at h9; cases h9
      · exact e
    subst hz0
    refine J.seq <| J.reg rfl <| O.as rfl <| JO.nil <| J.ret1 rfl (.tmp rfl) fun W' iE iP => ?_
    rfl
  · skip
    obtain ⟨k, w, a, rfl, rfl, hw, rfl⟩ := hz.elim id (fun e => absurd (hb.1 (by simpa using h9)) e.1)
    rw [ct_length] at hn
    subst hn
    refine J.skip <| J.seq <| J.reg rfl <| O.mv rfl <| O.mv rfl <| ?_
    refine O.call rfl (sign_value_ok h.to h'.to (hT _ _ rfl) (hS _ rfl) hn16 hv' (Nat.le_trans (vB_ge n r) hv)) fun W12 v12 i12 e12 h12 => ?_
    subst h12
    refine O.as rfl <| JO.nil <| J.ret1 rfl (.tmp rfl) fun W' iE iP => ?_
    rfl
theorem sign_Cmp_ok {q q2 : Option Addr} {m d m2 d2 s' : Nat} {l l' : List Raw} {z : Int} (hz : CmpIs t l l' z) (h : Sl RE W p n c t) (h' : Sl RQ W q m d l) (h2 : Sl RQ W q2 m2 d2 l') (hl : ∀ r ∈ t, ∀ i ∈ r, smallR i) (hl' : ∀ i ∈ l, smallR i) (hl2 : ∀ i ∈ l', smallR i) (hn16 : n ≤ 16) (hT : TSR r t) (hS : SZR s l) (hS2 : SZR s' l') (hv : vB r n r ≤ 8796093022208) (hv' : vB r n (s + s' + 1) ≤ 8796093022208) :
    Ok Tryz.prog 36 [.slice p n c, .slice q m d, .slice q2 m2 d2] W fun _ v => v = .int .i64 z := by
  have hn := h.hn
  have hr : r ≤ 8796093022208 := Nat.le_trans (vB_ge n r) hv
  have hss := Nat.le_trans (vB_ge (r := r) n (s + s' + 1)) hv'
  refine Ok.enter Tryz.func36 rfl rfl rfl rfl fun W0 iEn => ?_
  refine J.seq <| J.reg rfl <| O.as rfl <| JO.nil <| J.seq <| J.seq <| J.reg rfl <| O.mv rfl <| O.mv rfl <| O.mv rfl <| O.bs (r := RE) [l, l'] rfl ⟨h'.to.v, h2.to.v, trivial⟩ rfl rfl rfl (by decide) (.inr rfl) (by decide) fun W10 p10 i10 e10 s10 => O.call rfl (sign_good_ok h.to s10.to hl (fun r hr => by rcases List.mem_cons.1 hr with rfl | hr; exact hl'; rw [List.mem_singleton.1 hr]; exact hl2) hn16 hT hv) fun W11 v11 i11 e11 h11 => ?_
  obtain ⟨b, rfl, hb⟩ := h11
  refine O.not rfl <| JO.nil <| J.cond rfl (fun h12 => ?_) (fun h12 => ?_)
  · skip
    have hz0 : z = 0 := by
      rcases hz with ⟨k, w, a, b, rfl, rfl, rfl, hw, _⟩ | ⟨_, e⟩
      · rw [hb.2 (fine_ct2 hw)] at h12; cases h12
      · exact e
    subst hz0
    refine J.seq <| J.reg rfl <| O.as rfl <| JO.nil <| J.ret1 rfl (.tmp rfl) fun W' iE iP => ?_
    rfl
  · skip
    obtain ⟨k, w, x, y, rfl, rfl, rfl, hw, rfl⟩ := hz.elim id (fun e => absurd (hb.1 (by simpa using h12)) e.1)
    rw [ct_length] at hn
    subst hn
    have hd : Sz (s + s' + 1) (toL n (add n x (neg n y))) := by
      rw [toL_add, toL_neg]
      exact (hS _ rfl).add (hS2 _ rfl).neg
    refine J.skip <| J.seq <| J.reg rfl <| O.mv rfl <| O.mv rfl <| O.mv rfl <| O.mv rfl <| ?_
    refine O.call rfl (tower_Sub_ok h.to h'.to h2.to (hT _ _ rfl) (hS _ rfl) (hS2 _ rfl) (by omega) (by omega) (by omega)) fun W17 v17 i17 e17 h17 => ?_
    obtain ⟨p17, m17, c17, rfl, s17⟩ := h17.sl
    refine O.call rfl (sign_value_ok h.to s17.to (hT _ _ rfl) hd hn16 hv' hr) fun W18 v18 i18 e18 h18 => ?_
    subst h18
    refine O.as rfl <| JO.nil <| J.ret1 rfl (.tmp rfl) fun W' iE iP => ?_
    rfl
theorem ref07_Sign_ok {q : Option Addr} {m d : Nat} {l : List Raw} {z : Int} (hz : SgnIs t l z) (h : Sl RE W p n c t) (h' : Sl RQ W q m d l) (hl : ∀ r ∈ t, ∀ i ∈ r, smallR i) (hl' : ∀ i ∈ l, smallR i) (hn16 : n ≤ 16) (hT : TSR r t) (hS : SZR s l) (hv : vB r n r ≤ 8796093022208) (hv' : vB r n s ≤ 8796093022208) :
    Ok Tryz.prog 29 [.slice p n c, .slice q m d] W fun _ v => v = .int .i64 z := by
  have hn := h.hn
  have hfi : fine t [l] ↔ (okT t ∧ okE (2 ^ t.length) l) ∧ realR t := ⟨fun e => ⟨⟨realR_ok e.2, e.1 l (by simp)⟩, e.2⟩, fun e => ⟨fun x hx => by rw [List.mem_singleton.1 hx]; exact e.1.2, e.2⟩⟩
  obtain ⟨bF, hbF⟩ := dec_ex (okT t ∧ okE (2 ^ t.length) l)
  obtain ⟨bR, hbR⟩ := dec_ex (realR t)
  refine Ok.enter Tryz.func29 rfl rfl rfl rfl fun W0 iEn => ?_
  refine J.seq <| J.reg rfl <| O.as rfl <| JO.nil <| J.seq <| J.seq <| J.reg rfl <| O.mv rfl <| O.mv rfl <| ?_
  refine O.call rfl ((ref06_Formed_ok h.to h'.to hl hl' (by omega)).eqB hbF) fun W7 v7 i7 e7 h7 => ?_
  subst h7
  refine O.not rfl <| O.mv rfl <| ?_
  by_cases hg9 : bF = false
  · skip
    refine O.set (t := 9) (.bool true) rfl (by rw [hg9]; rfl) <| O.gs rfl rfl rfl <| O.gs rfl rfl rfl <| O.gs rfl rfl rfl <| O.pickT rfl rfl <| JO.nil <| J.condT rfl <| ?_
    have hz0 : z = 0 := by
      rcases hz with ⟨k, w, a, rfl, rfl, hw, _⟩ | ⟨_, e⟩
      · have := hfi.1 (fine_ct1 (a := a) hw)
        have h1 := hbF.2 this.1
        have h2 := hbR.2 this.2
        first
          | exact absurd hg9 (by rw [h1]; decide)
          | (rw [h2] at h13; cases h13)
      · exact e
    subst hz0
    refine J.seq <| J.reg rfl <| O.as rfl <| JO.nil <| J.ret1 rfl (.tmp rfl) fun W' iE iP => ?_
    rfl
  · skip
    refine O.set (t := 9) (.bool false) rfl (by cases bF <;> simp_all) <| O.gt rfl rfl <| O.mv rfl <| O.gt rfl rfl <| ?_
    refine O.call rfl ((ref07_Real_ok h.to hl hn16 hT hv).eqB hbR) fun W11 v11 i11 e11 h11 => ?_
    subst h11
    refine O.gt rfl rfl <| O.not rfl <| O.pickF rfl rfl <| JO.nil <| J.cond rfl (fun h13 => ?_) (fun h13 => ?_)
    · skip
      have hz0 : z = 0 := by
        rcases hz with ⟨k, w, a, rfl, rfl, hw, _⟩ | ⟨_, e⟩
        · have := hfi.1 (fine_ct1 (a := a) hw)
          have h1 := hbF.2 this.1
          have h2 := hbR.2 this.2
          first
            | exact absurd hg9 (by rw [h1]; decide)
            | (rw [h2] at h13; cases h13)
        · exact e
      subst hz0
      refine J.seq <| J.reg rfl <| O.as rfl <| JO.nil <| J.ret1 rfl (.tmp rfl) fun W' iE iP => ?_
      rfl
    · skip
      obtain ⟨k, w, a, rfl, rfl, hw, rfl⟩ := hz.elim id (fun e => absurd (hfi.2 ⟨hbF.1 (by cases bF <;> simp_all), hbR.1 (by cases bR <;> simp_all)⟩) e.1)
      rw [ct_length] at hn
      subst hn
      refine J.skip <| J.seq <| J.reg rfl <| O.mv rfl <| O.mv rfl <| ?_
      refine O.call rfl (ref07_sign_ok h.to h'.to (hT _ _ rfl) (hS _ rfl) hn16 hv' (Nat.le_trans (vB_ge n r) hv)) fun W16 v16 i16 e16 h16 => ?_
      subst h16
      refine O.as rfl <| JO.nil <| J.ret1 rfl (.tmp rfl) fun W' iE iP => ?_
      rfl
end
end
section
/-- a case -/
abbrev RC3 : Rep (List (List Raw) × List Raw × List Raw) := RP RT (RP RE RE)
def shortR (i : Raw) : Prop := i.1.2.length ≤ 2 ∧ i.2.2.length ≤ 1
def shortL (l : List Raw) : Prop := l.length ≤ 16 ∧ ∀ i ∈ l, shortR i
def smallC (t : List (List Raw)) (a b : List Raw) : Prop := t.length ≤ 3 ∧ ∀ l ∈ t ++ [a, b], shortL l
theorem shortR.small {i : Raw} (h : shortR i) : smallR i := ⟨Nat.le_trans h.1 (by decide), Nat.le_trans h.2 (by decide)⟩
theorem ref07_Small_ok {W : GW} {v : Value} {t : List (List Raw)} {a b : List Raw} (hv : V RC3 W v (t, a, b)) (ht : t.length ≤ 1099511627776) :
    Ok Tryz.prog 12 [v] W fun _ r => ∃ f, r = .bool f ∧ (f = true ↔ smallC t a b) := by
  refine Ok.enter Tryz.func12 rfl rfl rfl rfl fun W0 iEn => ?_
  refine J.seq <| J.reg rfl <| O.boxT rfl hv.to fun W1 b1 i1 hb1 => O.as rfl <| JO.nil <| J.seq <| ?_
  refine J.draw [.rel _, .ex _, .rel _, .rel _, .ex _, .rel _, .ex _, .rel _, .rel _] rfl rfl ⟨fun Wd id ed _ => O.bs (r := RE) (ps := []) (vs := []) [] rfl trivial rfl rfl rfl (by decide) (.inr rfl) (by decide) fun Wd pd id ed sd => D.rel (R := Nil0) ed ⟨pd, rfl⟩ Nil0.me, fun Wd id ed _ => O.fa rfl <| D.ex, fun Wd id ed _ => O.ldTD rfl hb1.to.h.f rfl rfl (fun _ => rfl), fun Wd id ed _ => fun v6 h6 => fun v8 h8 => O.app0O (r := RE) (W0 := W0) rfl rfl h6 h8 rfl rfl (Nat.le_trans (Nat.mul_le_mul_right _ ht) (by decide)) (Nat.lt_of_le_of_lt ht (by decide)) (inferInstance : Le W0 _).s.size fun Wd vd id ed hd => D.rel (R := fun W v => OwnR RE W0 W v t) ed hd OwnR.me, fun Wd id ed _ => O.fa rfl <| D.ex, fun Wd id ed _ => O.ldTD rfl hb1.to.h.s.f rfl rfl (fun _ => rfl), fun Wd id ed _ => O.fa rfl <| D.ex, fun Wd id ed _ => O.ldTD rfl hb1.to.h.s.s rfl rfl (fun _ => rfl), fun Wd id ed _ => fun v11 h11 => fun v13 h13 => O.bs (r := RE) [a, b] rfl ⟨h11.to, h13.to, trivial⟩ rfl rfl rfl (by decide) (.inr rfl) (by decide) fun Wd pd id ed sd => D.rel (R := fun W v => V RT W v [a, b]) ed sd.v V.me, trivial⟩ ?_
  intro Wr1 ir1 er1 v6 h6 v8 h8 v9 h9 v11 h11 v13 h13 v14 h14
  obtain ⟨p8, m8, c8, rfl, s8⟩ := h8.sl
  obtain ⟨p9, m9, c9, rfl, o9, f9⟩ := h9
  obtain ⟨p11, m11, c11, rfl, s11⟩ := h11.sl
  obtain ⟨p13, m13, c13, rfl, s13⟩ := h13.sl
  obtain ⟨p14, m14, c14, rfl, s14⟩ := h14.sl
  refine O.app rfl rfl o9 s14.to rfl rfl (by have := o9.hn; have := s14.hn; simp at this; omega) (by have := o9.hn; have := s14.hn; simp at this; omega) fun W15 p15 c15 i15 o15 => ?_
  refine O.pub o15 fun Wq iq s15 => ?_
  have hlen := s15.hn
  have hNb : m9 + m14 ≤ 1099511627778 := by have := o9.hn; have := s14.hn; simp at this; omega
  obtain ⟨N, hN⟩ : ∃ N, N = m9 + m14 := ⟨_, rfl⟩
  rw [← hN] at s15 hlen hNb ⊢
  refine O.as rfl <| JO.nil <| J.seq <| J.seq <| J.reg rfl <| O.as rfl <| JO.nil <| J.block <| ?_
  refine J.loop (α := Nat) (fun g => [(1, .pointer (some ⟨b1, 0, none⟩)), (3, .slice p15 N c15), (4, .int .i64 (g : Int))]) (fun g W' => Le W0 W' ∧ Le Wq W' ∧ Pt RC3 W' b1 0 (t, a, b) ∧ g ≤ N ∧ ∀ j l, j < g → (t ++ [a, b])[j]? = some l → shortL l) (fun g => N - g) 0 ⟨rfl, rfl, rfl, trivial⟩ ⟨inferInstance, inferInstance, hb1.to, Nat.zero_le _, fun _ _ h => nomatch h⟩ ?_
  rintro k W6 ⟨_, _, hb1, hk, hd⟩
  refine J.seq <| J.seq <| J.reg rfl <| O.mv rfl <| O.mv rfl <| O.len rfl <| O.lt rfl rfl <| JO.nil <| J.condD rfl (fun h19 => ?_) (fun h19 => ?_)
  · skip
    obtain ⟨u, hu⟩ : ∃ u, (t ++ [a, b])[k]? = some u := ⟨_, List.getElem?_eq_getElem (by omega)⟩
    refine J.skip <| J.seq <| J.block <| J.seq <| J.seq <| J.reg rfl <| O.mv rfl <| O.mv rfl <| O.iaT (j := k) rfl rfl rfl s15.to hu rfl fun b24 o24 hb24 => ?_
    refine O.ldTs rfl hb24.to.h fun p25 m25 c25 s25 => ?_
    have h25 := s25.v
    refine O.len rfl <| O.gtr rfl rfl <| JO.nil <| J.condD rfl (fun h27 => ?_) (fun h27 => ?_)
    · skip
      have hnu := s25.hn
      refine J.seq <| J.reg rfl <| O.as rfl <| JO.nil <| J.ret1 rfl (.tmp rfl) fun W' iE iP => ?_
      exact ⟨false, rfl, fun h => (nomatch h), fun h => by have := (h.2 u (List.mem_of_getElem? hu)).1; omega⟩
    · skip
      refine J.skip <| J.seq <| J.reg rfl <| O.as rfl <| JO.nil <| J.block <| ?_
      have hnu := s25.hn
      refine J.loop (α := Nat) (fun g => [(1, .pointer (some ⟨b1, 0, none⟩)), (3, .slice p15 N c15), (4, .int .i64 (k : Int)), (5, .int .i64 (g : Int))]) (fun g W' => Le W0 W' ∧ Le Wq W' ∧ Pt RC3 W' b1 0 (t, a, b) ∧ g ≤ m25 ∧ ∀ j i, j < g → u[j]? = some i → shortR i) (fun g => m25 - g) 0 ⟨rfl, rfl, rfl, rfl, trivial⟩ ⟨inferInstance, inferInstance, hb1.to, Nat.zero_le _, fun _ _ h => nomatch h⟩ ?_
      rintro g W7 ⟨_, _, hb1, hg, hd2⟩
      refine J.seq <| J.seq <| J.reg rfl <| O.mv rfl <| O.mv rfl <| O.mv rfl <| O.iaT (j := k) rfl rfl rfl s15.to hu rfl fun b31 o31 hb31 => ?_
      refine O.ldTs rfl hb31.to.h fun p32 m32 c32 s32 => ?_
      have h32 := s32.v
      have hm32 : m32 = m25 := by rw [s32.hn, hnu]
      subst hm32
      refine O.len rfl <| O.lt rfl rfl <| JO.nil <| J.condD rfl (fun h34 => ?_) (fun h34 => ?_)
      · skip
        obtain ⟨i, hi⟩ : ∃ i, u[g]? = some i := ⟨_, List.getElem?_eq_getElem (by omega)⟩
        refine J.skip <| J.seq <| J.block <| J.seq <| J.reg rfl <| O.mv rfl <| O.mv rfl <| O.iaT (j := k) rfl rfl rfl s15.to hu rfl fun b39 o39 hb39 => ?_
        refine O.ldTs rfl hb39.to.h fun p40 m40 c40 s40 => ?_
        have h40 := s40.v
        refine O.mv rfl <| O.iaT (j := g) rfl rfl rfl s40.to hi rfl fun b42 o42 hb42 => O.fa rfl <| O.fa rfl <| ?_
        refine O.ldTs rfl hb42.to.h.f.s fun p45 m45 c45 s45 => ?_
        have h45 := s45.v
        refine O.len rfl <| O.gtr rfl rfl <| O.mv rfl <| ?_
        by_cases hg48 : 2 < m45
        · skip
          refine O.set (t := 48) (.bool true) rfl (by simp only [Value.bool.injEq, decide_eq_true_eq, decide_eq_false_iff_not]; omega) <| O.gs rfl rfl rfl <| O.gs rfl rfl rfl <| O.gs rfl rfl rfl <| O.gs rfl rfl rfl <| O.gs rfl rfl rfl <| O.gs rfl rfl rfl <| O.gs rfl rfl rfl <| O.gs rfl rfl rfl <| O.gs rfl rfl rfl <| O.gs rfl rfl rfl <| O.gs rfl rfl rfl <| O.pickT rfl rfl <| JO.nil <| J.condT rfl <| J.seq <| J.reg rfl <| O.as rfl <| JO.nil <| J.ret1 rfl (.tmp rfl) fun W' iE iP => ?_
          refine ⟨false, rfl, fun h => (nomatch h), fun h => ?_⟩
          have := (h.2 u (List.mem_of_getElem? hu)).2 i (List.mem_of_getElem? hi)
          have h3 := this.1
          have h4 := this.2
          have h5 : m45 = i.1.2.length := s45.hn
          first
            | omega
            | (have h6 : m57 = i.2.2.length := s57.hn; omega)
        · skip
          refine O.set (t := 48) (.bool false) rfl (by simp only [Value.bool.injEq, decide_eq_true_eq, decide_eq_false_iff_not]; omega) <| O.gt rfl rfl <| O.mv rfl <| O.gt rfl rfl <| O.mv rfl <| O.gt rfl rfl <| O.iaT (j := k) rfl rfl rfl s15.to hu rfl fun b51 o51 hb51 => O.gt rfl rfl <| ?_
          refine O.ldTs rfl hb51.to.h fun p52 m52 c52 s52 => ?_
          have h52 := s52.v
          refine O.gt rfl rfl <| O.mv rfl <| O.gt rfl rfl <| O.iaT (j := g) rfl rfl rfl s52.to hi rfl fun b54 o54 hb54 => O.gt rfl rfl <| O.fa rfl <| O.gt rfl rfl <| O.fa rfl <| O.gt rfl rfl <| ?_
          refine O.ldTs rfl hb54.to.h.s.s fun p57 m57 c57 s57 => ?_
          have h57 := s57.v
          refine O.gt rfl rfl <| O.len rfl <| O.gt rfl rfl <| O.gtr rfl rfl <| O.pickF rfl rfl <| JO.nil <| J.condD rfl (fun h60 => ?_) (fun h60 => ?_)
          · skip
            refine J.seq <| J.reg rfl <| O.as rfl <| JO.nil <| J.ret1 rfl (.tmp rfl) fun W' iE iP => ?_
            refine ⟨false, rfl, fun h => (nomatch h), fun h => ?_⟩
            have := (h.2 u (List.mem_of_getElem? hu)).2 i (List.mem_of_getElem? hi)
            have h3 := this.1
            have h4 := this.2
            have h5 : m45 = i.1.2.length := s45.hn
            first
              | omega
              | (have h6 : m57 = i.2.2.length := s57.hn; omega)
          · skip
            refine J.skip <| J.bend <| J.reg rfl <| O.mv rfl <| O.add rfl rfl (wI (by omega)) <| O.as rfl <| JO.nil <| ?_
            have hn45 : m45 = i.1.2.length := s45.hn
            have hn57 : m57 = i.2.2.length := s57.hn
            exact J.at' (g + 1) ⟨rfl, rfl, rfl, rfl, trivial⟩ ⟨⟨inferInstance, inferInstance, hb1.to, by omega, fun j x hj hjx => by
              by_cases hjg : j = g
              · subst hjg; rw [hi] at hjx; injection hjx with hjx; subst hjx; exact ⟨by show i.1.2.length ≤ 2; omega, by show i.2.2.length ≤ 1; omega⟩
              · exact hd2 j x (by omega) hjx⟩, by omega⟩
      · skip
        refine J.exit rfl <| J.bend <| J.reg rfl <| O.mv rfl <| O.add rfl rfl (wI (by omega)) <| O.as rfl <| JO.nil <| ?_
        exact J.at' (k + 1) ⟨rfl, rfl, rfl, trivial⟩ ⟨⟨inferInstance, inferInstance, hb1.to, by omega, fun j x hj hjx => by
          by_cases hjk : j = k
          · subst hjk; rw [hu] at hjx; injection hjx with hjx; subst hjx
            refine ⟨by omega, fun i hi => ?_⟩
            obtain ⟨j2, hj2⟩ := List.getElem?_of_mem hi
            refine hd2 j2 i ?_ hj2
            have : j2 < u.length := by
              by_cases h : j2 < u.length
              · exact h
              · rw [List.getElem?_eq_none (by omega)] at hj2; cases hj2
            omega
          · exact hd j x (by omega) hjx⟩, by omega⟩
  · skip
    refine J.exit rfl <| J.seq <| J.reg rfl <| O.fa rfl <| ?_
    refine O.ldTs rfl hb1.to.h.f fun p62 m62 c62 s62 => ?_
    have h62 := s62.v
    refine O.len rfl <| O.le rfl rfl <| O.as rfl <| JO.nil <| J.ret1 rfl (.tmp rfl) fun W' iE iP => ?_
    have hn62 := s62.hn
    refine ⟨_, rfl, ⟨fun e => ⟨by have := of_decide_eq_true e; omega, fun l hl => ?_⟩, fun e => decide_eq_true (by have := e.1; omega)⟩⟩
    obtain ⟨j, hj⟩ := List.getElem?_of_mem hl
    refine hd j l ?_ hj
    have : j < (t ++ [a, b]).length := by
      by_cases h : j < (t ++ [a, b]).length
      · exact h
      · rw [List.getElem?_eq_none (by omega)] at hj; cases hj
    omega
theorem shortL.small {l : List Raw} (h : shortL l) : ∀ i ∈ l, smallR i := fun i hi => (h.2 i hi).small
theorem short_nat {n m : Nat} (h : (dig n).length ≤ m) : n < 2 ^ (32 * m) := by
  have h1 := dig_ub n
  have h2 : 4294967296 ^ (dig n).length ≤ 4294967296 ^ m := Nat.pow_le_pow_right (by decide) h
  have h3 : (4294967296 : Nat) ^ m = 2 ^ (32 * m) := by rw [Nat.pow_mul]
  omega
theorem short_qs {x : Rat} (h : shortR (cq x)) : Qs 64 x := ⟨short_nat (m := 2) h.1, Nat.lt_trans (show x.den < 2 ^ (32 * 1) from short_nat (m := 1) h.2) (by decide)⟩
theorem short_sz {xs : List Rat} (h : shortL (cl xs)) : Sz 1025 xs := by
  have h1 : xs.length ≤ 16 := by rw [← cl_length]; exact h.1
  exact (Sz.all (p := 64) fun x hx => short_qs (h.2 _ (List.mem_map.2 ⟨x, hx, rfl⟩))).mono (by omega)
theorem short_ts {k : Nat} {w : Tw k} (h : ∀ l ∈ ct (toT k w), shortL l) : TS 1025 k w := by
  induction k with
  | zero => trivial
  | succ k ih =>
    refine ⟨ih fun l hl => h l ?_, short_sz (h _ ?_)⟩
    · rw [ct_succ]; exact List.mem_append_left _ hl
    · rw [ct_succ]; exact List.mem_append_right _ (List.mem_singleton.2 rfl)
theorem short_TSR {t : List (List Raw)} (h : ∀ l ∈ t, shortL l) : TSR 1025 t := fun k w e => by subst e; exact short_ts h
theorem short_SZR {l : List Raw} (h : shortL l) : SZR 1025 l := fun xs e => by subst e; exact short_sz h
theorem vB_all {k s : Nat} (hk : k ≤ 4) (hs : s ≤ 1000000) : vB 1025 k s ≤ 8796093022208 :=
  Nat.le_trans (vB_le 1025 s hk) (Nat.le_trans (vB_mono hs) (by decide))
theorem fine2_iff {t : List (List Raw)} {a b : List Raw} : fine t [a, b] ↔ realR t ∧ (okT t ∧ okE (2 ^ t.length) a) ∧ okT t ∧ okE (2 ^ t.length) b :=
  ⟨fun h => ⟨h.2, ⟨realR_ok h.2, h.1 a (by simp)⟩, realR_ok h.2, h.1 b (by simp)⟩, fun h => ⟨fun l hl => by
    rcases List.mem_cons.1 hl with rfl | hl
    · exact h.2.1.2
    · rw [List.mem_singleton.1 hl]; exact h.2.2.2, h.1⟩⟩
structure SmallC (t : List (List Raw)) (a b : List Raw) : Prop where
  l : t.length ≤ 3
  t : ∀ l ∈ t, shortL l
  a : shortL a
  b : shortL b
theorem smallC.s {t : List (List Raw)} {a b : List Raw} (h : smallC t a b) : SmallC t a b :=
  ⟨h.1, fun l hl => h.2 l (List.mem_append_left _ hl), h.2 a (by simp), h.2 b (by simp)⟩
theorem SmallC.st {t : List (List Raw)} {a b : List Raw} (h : SmallC t a b) : ∀ r ∈ t, ∀ i ∈ r, smallR i := fun r hr => (h.t r hr).small
theorem ref07_Right_ok {W : GW} {v : Value} {t : List (List Raw)} {a b : List Raw} (hv : V RC3 W v (t, a, b)) (ht : t.length ≤ 1099511627776) :
    Ok Tryz.prog 24 [v] W fun _ r => ∃ f, r = .bool f ∧ (f = true ↔ smallC t a b ∧ fine t [a, b]) := by
  refine Ok.enter Tryz.func24 rfl rfl rfl rfl fun W0 iEn => ?_
  refine J.seq <| J.reg rfl <| O.boxT rfl hv.to fun W1 b1 i1 hb1 => O.as rfl <| JO.nil <| J.seq <| J.reg rfl <| O.ldT rfl hb1.to.h rfl rfl (fun h => nomatch h) fun v3 h3 => O.call rfl (ref07_Small_ok h3.to ht) fun W4 v4 i4 e4 h4 => ?_
  obtain ⟨f1, rfl, hf1⟩ := h4
  refine O.mv rfl <| ?_
  by_cases hg5 : f1 = true
  · skip
    have hS := (hf1.1 hg5).s
    have hl3 := hS.l
    obtain ⟨bR, hbR⟩ := dec_ex (realR t)
    obtain ⟨bA, hbA⟩ := dec_ex (okT t ∧ okE (2 ^ t.length) a)
    obtain ⟨bB, hbB⟩ := dec_ex (okT t ∧ okE (2 ^ t.length) b)
    refine O.set (t := 5) (.bool true) rfl (by rw [hg5]) <| O.gt rfl rfl <| O.fa rfl <| O.gt rfl rfl <| ?_
    refine O.ldTs rfl hb1.to.h.f fun p7 m7 c7 s7 => ?_
    have h7 := s7.v
    refine O.gt rfl rfl <| ?_
    refine O.call rfl ((ref07_Real_ok s7.to hS.st (by have := s7.hn; omega) (short_TSR hS.t) (vB_all (by have := s7.hn; omega) (by decide))).eqB hbR) fun W8 v8 i8 e8 h8 => ?_
    subst h8
    refine O.pickT rfl rfl <| O.mv rfl <| ?_
    by_cases hg10 : bR = true
    · skip
      refine O.set (t := 10) (.bool true) rfl (by rw [hg10]) <| O.gt rfl rfl <| O.fa rfl <| O.gt rfl rfl <| ?_
      refine O.ldTs rfl hb1.to.h.f fun p12 m12 c12 s12 => ?_
      have h12 := s12.v
      refine O.gt rfl rfl <| O.fa rfl <| O.gt rfl rfl <| ?_
      refine O.ldTs rfl hb1.to.h.s.f fun p14 m14 c14 s14 => ?_
      have h14 := s14.v
      refine O.gt rfl rfl <| ?_
      refine O.call rfl ((ref06_Formed_ok s12.to s14.to hS.st hS.a.small (by omega)).eqB hbA) fun W15 v15 i15 e15 h15 => ?_
      subst h15
      refine O.pickT rfl rfl <| O.mv rfl <| ?_
      by_cases hg17 : bA = true
      · skip
        refine O.set (t := 17) (.bool true) rfl (by rw [hg17]) <| O.gt rfl rfl <| O.fa rfl <| O.gt rfl rfl <| ?_
        refine O.ldTs rfl hb1.to.h.f fun p19 m19 c19 s19 => ?_
        have h19 := s19.v
        refine O.gt rfl rfl <| O.fa rfl <| O.gt rfl rfl <| ?_
        refine O.ldTs rfl hb1.to.h.s.s fun p21 m21 c21 s21 => ?_
        have h21 := s21.v
        refine O.gt rfl rfl <| ?_
        refine O.call rfl ((ref06_Formed_ok s19.to s21.to hS.st hS.b.small (by omega)).eqB hbB) fun W22 v22 i22 e22 h22 => ?_
        subst h22
        refine O.pickT rfl rfl <| O.as rfl <| JO.nil <| J.ret1 rfl (.tmp rfl) fun W' iE iP => ?_
        exact ⟨_, rfl, hbB.trans ⟨fun h => ⟨hf1.1 hg5, fine2_iff.2 ⟨hbR.1 hg10, hbA.1 hg17, h⟩⟩, fun h => (fine2_iff.1 h.2).2.2⟩⟩
      · skip
        refine O.set (t := 17) (.bool false) rfl (by rw [Bool.eq_false_iff.2 hg17]) <| O.gs rfl rfl rfl <| O.gs rfl rfl rfl <| O.gs rfl rfl rfl <| O.gs rfl rfl rfl <| O.gs rfl rfl rfl <| O.pickF rfl rfl <| O.as rfl <| JO.nil <| J.ret1 rfl (.tmp rfl) fun W' iE iP => ?_
        exact ⟨_, rfl, fun h => (nomatch h), fun h => absurd (hbA.2 (fine2_iff.1 h.2).2.1) hg17⟩
    · skip
      refine O.set (t := 10) (.bool false) rfl (by rw [Bool.eq_false_iff.2 hg10]) <| O.gs rfl rfl rfl <| O.gs rfl rfl rfl <| O.gs rfl rfl rfl <| O.gs rfl rfl rfl <| O.gs rfl rfl rfl <| O.pickF rfl rfl <| O.mv rfl <| O.gs rfl rfl rfl <| O.gs rfl rfl rfl <| O.gs rfl rfl rfl <| O.gs rfl rfl rfl <| O.gs rfl rfl rfl <| O.pickF rfl rfl <| O.as rfl <| JO.nil <| J.ret1 rfl (.tmp rfl) fun W' iE iP => ?_
      exact ⟨_, rfl, fun h => (nomatch h), fun h => absurd (hbR.2 (fine2_iff.1 h.2).1) hg10⟩
  · skip
    refine O.set (t := 5) (.bool false) rfl (by rw [Bool.eq_false_iff.2 hg5]) <| O.gs rfl rfl rfl <| O.gs rfl rfl rfl <| O.gs rfl rfl rfl <| O.pickF rfl rfl <| O.mv rfl <| O.gs rfl rfl rfl <| O.gs rfl rfl rfl <| O.gs rfl rfl rfl <| O.gs rfl rfl rfl <| O.gs rfl rfl rfl <| O.pickF rfl rfl <| O.mv rfl <| O.gs rfl rfl rfl <| O.gs rfl rfl rfl <| O.gs rfl rfl rfl <| O.gs rfl rfl rfl <| O.gs rfl rfl rfl <| O.pickF rfl rfl <| O.as rfl <| JO.nil <| J.ret1 rfl (.tmp rfl) fun W' iE iP => ?_
    exact ⟨_, rfl, fun h => (nomatch h), fun h => absurd (hf1.2 h.1) hg5⟩
end
end Go.Proofs.YtklnoajdhknfnaaGreat
