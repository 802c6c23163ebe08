/- The reference's sign, and the real towers. -/
import Derived.Test.YtcaikjefkkejbaaGreatSf
import Derived.Test.YtcaikjefkkejbaaGreatRk
import Derived.Test.YtcaikjefkkejbaaGreatIdt
set_option linter.unusedVariables false
set_option linter.unusedSimpArgs false
set_option maxRecDepth 10000
set_option maxHeartbeats 4000000
namespace Go.Proofs.YtcaikjefkkejbaaGreat
open Go Go.Rx Go.Num Go.Tow
section
theorem ref07_sign0 {W : GW} {p q : Option Addr} {c m d : Nat} {a : Rat} (h' : Sl RQ W q m d (cl [a])) :
    Ok Tryz.prog 44 [.slice p 0 c, .slice q m d] W fun _ v => v = .int .i64 (sgnQ a) := by
  refine Ok.enter Tryz.func44 rfl rfl rfl rfl fun W0 iEn => ?_
  refine J.seq <| J.reg rfl <| O.as rfl <| JO.nil <| J.seq <| J.seq <| J.reg rfl <| O.mv rfl <| O.len rfl <| O.eq rfl rfl <| JO.nil <| J.condD rfl (fun h12 => ?_) (fun h12 => ?_)
  · skip
    refine J.seq <| J.reg rfl <| O.mv rfl <| O.iaT (j := 0) rfl rfl rfl h'.to (show (cl [a])[0]? = some (cq a) from rfl) rfl fun b14 o14 hb14 => O.ldT rfl hb14.to.h rfl rfl (fun h => nomatch h) fun v15 h15 => ?_
    refine O.call rfl (ref02_Sign_ok h15.to) fun W16 v16 i16 e16 h16 => ?_
    subst h16
    refine O.as rfl <| JO.nil <| J.ret1 rfl (.tmp rfl) fun W' iE iP => ?_
    rw [sgnQ_cmp]
  · skip
    exact absurd rfl h12 -- done
theorem ref07_sign_ok {k : Nat} : ∀ {W : GW} {p q : Option Addr} {n c m d r s : Nat} {t : Tw k} {a : El k}, Sl RE W p n c (ct (toT k t)) → Sl RQ W q m d (cl (toL k a)) →
    TS r k t → Sz s (toL k a) → k ≤ 16 → vB r k s ≤ 8796093022208 → r ≤ 8796093022208 →
    Ok Tryz.prog 44 [.slice p n c, .slice q m d] W fun _ v => v = .int .i64 (sgn k t a) := by
  induction k with
  | zero =>
    intro W p q n c m d r s t a h h' hT ha hk hs hr
    have hn : n = 0 := h.hn
    subst hn
    exact ref07_sign0 (a := a) h'
  | succ k ih =>
    intro W p q n c m d r s t a h h' hT ha hk hs hr
    have hn : n = k + 1 := by rw [h.hn, ct, List.length_map, toT_length]
    have hm : m = 2 ^ (k + 1) := by rw [h'.hn, cl_length, toL_length]
    have hp := pow_le hk
    have hp1 : 2 ^ (k + 1) = 2 * 2 ^ k := by rw [Nat.pow_succ]; omega
    have hx : Sz s (toL k a.1) := Sz.left ha
    have hy : Sz s (toL k a.2) := Sz.right ha
    have hnb : nB r k s = 4 * s + 3 * cB r k + r + 1 := rfl
    have hv : vB r k (nB r k s) ≤ 8796093022208 := hs
    have hv1 := vB_ge (r := r) k (nB r k s)
    have hv2 := vB_mono (r := r) (k := k) (vnB_ge r k s)
    have hc' := h'.hc
    have hC' := h'.hC
    have hcc := h.hc
    have hCC := h.hC
    have s24 := h'.take (2 ^ k) (by omega)
    rw [(cl_halves a).1] at s24
    have s29 := h'.drop (2 ^ k) (by omega)
    rw [(cl_halves a).2] at s29
    have s32 := h.take k (by omega)
    rw [ct_succ, List.take_left' (by rw [ct, List.length_map, toT_length])] at s32
    have hq : Int.tdiv (m : Int) 2 = ((2 ^ k : Nat) : Int) := by rw [show Int.tdiv (m : Int) 2 = ((m / 2 : Nat) : Int) from rfl]; omega
    have hsg : sgn (k + 1) t a = if sgn k t.1 a.2 = 0 ∨ sgn k t.1 a.1 = sgn k t.1 a.2 then sgn k t.1 a.1 else if sgn k t.1 a.1 = 0 then sgn k t.1 a.2 else sgn k t.1 a.1 * sgn k t.1 ((ring k t.1).nP t.2 a) := rfl
    have hde : Tow.norm k t a = (ring k t.1).nP t.2 a := by
      show add k (mul k t.1 a.1 a.1) (neg k (mul k t.1 (mul k t.1 a.2 a.2) t.2)) = _
      rfl
    have hd : Sz (nB r k s) (toL k (Tow.norm k t a)) := by
      show Sz _ (toL k (add k (mul k t.1 a.1 a.1) (neg k (mul k t.1 (mul k t.1 a.2 a.2) t.2))))
      rw [toL_add, toL_neg]
      exact ((hx.mul hT.1 hx).add ((hy.mul hT.1 hy).mul hT.1 hT.2).neg).mono (by omega)
    refine Ok.enter Tryz.func44 rfl rfl rfl rfl fun W0 iEn => ?_
    refine J.seq <| J.reg rfl <| O.as rfl <| JO.nil <| J.seq <| J.seq <| J.reg rfl <| O.mv rfl <| O.len rfl <| O.eq rfl rfl <| JO.nil <| J.condD rfl (fun h12 => ?_) (fun h12 => ?_)
    · skip
      omega -- done
    · skip
      refine J.skip <| J.seq <| J.reg rfl <| O.mv rfl <| O.len rfl <| O.sb (r := (k : Int)) rfl rfl ((wI (by omega)).trans (by omega)) <| O.as rfl <| JO.nil <| J.seq <| ?_
      refine J.draw [.ex _, .ex _, .ex _, .ex _, .ex _, .ex _, .ex _, .ex _, .ex _, .ex _, .ex _, .ex _] rfl rfl ⟨fun Wd id ed _ => O.mv rfl <| D.ex, fun Wd id ed _ => O.mv rfl <| D.ex, fun Wd id ed _ => O.len rfl <| D.ex, fun Wd id ed _ => O.quo (r := ((2 ^ k : Nat) : Int)) rfl rfl (by decide) (by rw [hq]; exact wI (by omega)) <| D.ex, fun Wd id ed _ => O.slh (hi := 2 ^ k) rfl rfl rfl (by omega) <| D.ex, fun Wd id ed _ => O.mv rfl <| D.ex, fun Wd id ed _ => O.mv rfl <| D.ex, fun Wd id ed _ => O.len rfl <| D.ex, fun Wd id ed _ => O.quo (r := ((2 ^ k : Nat) : Int)) rfl rfl (by decide) (by rw [hq]; exact wI (by omega)) <| D.ex, fun Wd id ed _ => O.sll (lo := 2 ^ k) rfl rfl rfl (by omega) <| D.ex, fun Wd id ed _ => O.as rfl <| D.ex, fun Wd id ed _ => O.as rfl <| D.ex, trivial⟩ ?_
      intro Wr4 ir4 er4
      refine JO.nil <| J.seq <| ?_
      refine J.draw [.ex _, .ex _, .ex _, .ex _, .ex _, .ex _, .ex _, .ex _, .ex _, .ex _, .ex _, .ex _] rfl rfl ⟨fun Wd id ed _ => O.mv rfl <| D.ex, fun Wd id ed _ => O.mv rfl <| D.ex, fun Wd id ed _ => O.slh (hi := k) rfl rfl rfl (by omega) <| D.ex, fun Wd id ed _ => O.mv rfl <| D.ex, fun Wd id ed _ => O.call rfl (ih s32.to s24.to hT.1 hx (by omega) (by omega) hr) fun Wd vd id ed hd => D.eq ed hd, fun Wd id ed _ => O.mv rfl <| D.ex, fun Wd id ed _ => O.mv rfl <| D.ex, fun Wd id ed _ => O.slh (hi := k) rfl rfl rfl (by omega) <| D.ex, fun Wd id ed _ => O.mv rfl <| D.ex, fun Wd id ed _ => O.call rfl (ih s32.to s29.to hT.1 hy (by omega) (by omega) hr) fun Wd vd id ed hd => D.eq ed hd, fun Wd id ed _ => O.as rfl <| D.ex, fun Wd id ed _ => O.as rfl <| D.ex, trivial⟩ ?_
      intro Wr5 ir5 er5
      refine JO.nil <| J.seq <| J.seq <| J.reg rfl <| O.mv rfl <| O.eq rfl rfl <| O.mv rfl <| ?_
      by_cases hg42 : sgn k t.1 a.2 = 0
      · skip
        refine O.set (t := 42) (.bool true) rfl (by simp only [Value.bool.injEq, decide_eq_true_eq, decide_eq_false_iff_not]; omega) <| O.gs rfl rfl rfl <| O.gs rfl rfl rfl <| O.gs rfl rfl rfl <| O.pickT rfl rfl <| JO.nil <| J.condT rfl <| J.seq <| J.reg rfl <| O.mv rfl <| O.as rfl <| JO.nil <| J.ret1 rfl (.tmp rfl) fun W' iE iP => ?_
        rw [hsg, if_pos (by first | exact .inl hg42 | exact .inr h46)]
      · skip
        refine O.set (t := 42) (.bool false) rfl (by simp only [Value.bool.injEq, decide_eq_true_eq, decide_eq_false_iff_not]; omega) <| O.gt rfl rfl <| O.mv rfl <| O.gt rfl rfl <| O.mv rfl <| O.gt rfl rfl <| O.eq rfl rfl <| O.pickF rfl rfl <| JO.nil <| J.condD rfl (fun h46 => ?_) (fun h46 => ?_)
        · skip
          refine J.seq <| J.reg rfl <| O.mv rfl <| O.as rfl <| JO.nil <| J.ret1 rfl (.tmp rfl) fun W' iE iP => ?_
          rw [hsg, if_pos (by first | exact .inl hg42 | exact .inr h46)]
        · skip
          refine J.skip <| J.seq <| J.seq <| J.reg rfl <| O.mv rfl <| O.eq rfl rfl <| JO.nil <| J.condD rfl (fun h49 => ?_) (fun h49 => ?_)
          · skip
            refine J.seq <| J.reg rfl <| O.mv rfl <| O.as rfl <| JO.nil <| J.ret1 rfl (.tmp rfl) fun W' iE iP => ?_
            rw [hsg, if_neg (fun e => e.elim hg42 h46), if_pos h49]
          · skip
            refine J.skip <| J.seq <| ?_
            refine J.draw [.ex _, .ex _, .ex _, .ex _, .ex _, .ex _, .rel _, .ex _] rfl rfl ⟨fun Wd id ed _ => O.mv rfl <| D.ex, fun Wd id ed _ => O.mv rfl <| D.ex, fun Wd id ed _ => O.mv rfl <| D.ex, fun Wd id ed _ => O.slh (hi := k) rfl rfl rfl (by omega) <| D.ex, fun Wd id ed _ => O.mv rfl <| D.ex, fun Wd id ed _ => O.mv rfl <| D.ex, fun Wd id ed _ => O.call rfl ((ref06_Norm_own h.to h'.to hT ha hk (by omega)).own) fun Wd vd id ed hd => D.rel ed hd V.me, fun Wd id ed _ => fun _ _ => fun v57 h57 => (by obtain ⟨p57, m57, c57, rfl, s57⟩ := h57.sl; exact O.call rfl (ih s32.to s57 hT.1 hd (by omega) (by omega) hr) fun Wd vd id ed hd => D.eq ed hd), trivial⟩ ?_
            intro Wr10 ir10 er10 v57 h57
            obtain ⟨p57, m57, c57, rfl, s57⟩ := h57.sl
            refine O.mul (r := sgn (k + 1) t a) rfl rfl ((by rw [hsg, if_neg (fun e => e.elim hg42 h46), if_neg h49, hde]; exact wI (by rcases sgn_tri t.1 a.1 with e | e | e <;> rcases sgn_tri t.1 ((ring k t.1).nP t.2 a) with e' | e' | e' <;> rw [e, e'] <;> decide))) <| O.as rfl <| JO.nil <| J.ret1 rfl (.tmp rfl) fun W' iE iP => ?_
            rfl
/-! real towers -/
theorem toT_inj : ∀ {k : Nat} {a b : Tw k}, toT k a = toT k b → a = b
  | 0, _, _, _ => rfl
  | k + 1, a, b, h => by
    have h' : toT k a.1 ++ [toL k a.2] = toT k b.1 ++ [toL k b.2] := h
    obtain ⟨h1, h2⟩ := append_inj' (by rw [toT_length, toT_length]) h'
    injection h2 with h2
    exact Prod.ext (toT_inj h1) (toL_inj h2)
theorem ct_inj : ∀ {a b : List (List Rat)}, ct a = ct b → a = b
  | [], [], _ => rfl
  | [], _ :: _, h => nomatch h
  | _ :: _, [], h => nomatch h
  | x :: a, y :: b, h => by
    injection h with h1 h2
    rw [cl_inj h1, ct_inj h2]
theorem low_ex : ∀ {k : Nat} (w : Tw k) {i : Nat}, i ≤ k → ∃ w' : Tw i, (toT k w).take i = toT i w' ∧ (∀ r, TS r k w → TS r i w') ∧ (real k w → real i w')
  | 0, w, i, hi => by
    have : i = 0 := by omega
    subst this
    exact ⟨w, rfl, fun _ h => h, fun h => h⟩
  | k + 1, w, i, hi => by
    by_cases hik : i = k + 1
    · subst hik
      exact ⟨w, List.take_of_length_le (by rw [toT_length]; exact Nat.le_refl _), fun _ h => h, fun h => h⟩
    · obtain ⟨w', h1, h2, h3⟩ := low_ex w.1 (i := i) (by omega)
      refine ⟨w', ?_, fun r h => h2 r h.1, fun h => h3 h.1⟩
      rw [show toT (k + 1) w = toT k w.1 ++ [toL k w.2] from rfl, List.take_append_of_le_length (by rw [toT_length]; omega), h1]
/-- a real tower, as it lies in memory -/
def realR (t : List (List Raw)) : Prop := ∃ (k : Nat) (w : Tw k), t = ct (toT k w) ∧ real k w
theorem realR_ct {k : Nat} {w : Tw k} : realR (ct (toT k w)) ↔ real k w := by
  refine ⟨fun ⟨j, v, e, h⟩ => ?_, fun h => ⟨k, w, rfl, h⟩⟩
  have e := ct_inj e
  have hkj : k = j := by rw [← toT_length k w, e, toT_length]
  subst hkj
  rw [toT_inj e]
  exact h
theorem realR_ok {t : List (List Raw)} (h : realR t) : okT t := by
  obtain ⟨k, w, rfl, _⟩ := h
  exact okT_ct w
/-- the numbers of a tower are at most so long -/
def TSR (r : Nat) (t : List (List Raw)) : Prop := ∀ (k : Nat) (w : Tw k), t = ct (toT k w) → TS r k w
theorem vB_le (r s : Nat) : ∀ {i k : Nat}, i ≤ k → vB r i s ≤ vB r k s := by
  intro i k h
  induction h with
  | refl => exact Nat.le_refl _
  | step h ih => exact Nat.le_trans ih (vB_mono (vnB_ge _ _ _))
/-- the tower of one more level -/
theorem low_up {k : Nat} {w : Tw k} {i : Nat} (hi : i < k) : ∃ w' : Tw (i + 1), (toT k w).take (i + 1) = toT (i + 1) w' ∧ (toT k w).take i = toT i w'.1 ∧ (toT k w)[i]? = some (toL i w'.2) ∧ (∀ r, TS r k w → TS r (i + 1) w') ∧ (real k w → real (i + 1) w') := by
  obtain ⟨w', h1, h2, h3⟩ := low_ex w (i := i + 1) hi
  have h1' : (toT k w).take (i + 1) = toT i w'.1 ++ [toL i w'.2] := h1
  refine ⟨w', h1, ?_, ?_, h2, h3⟩
  · have := congrArg (List.take i) h1'
    rwa [List.take_take, List.take_left' (toT_length i w'.1), Nat.min_eq_left (by omega)] at this
  · have : ((toT k w).take (i + 1))[i]? = (toT i w'.1 ++ [toL i w'.2])[i]? := by rw [h1']
    rwa [List.getElem?_take, if_pos (by omega), List.getElem?_append_right (by rw [toT_length]; exact Nat.le_refl _), toT_length, Nat.sub_self] at this
section
variable {W : GW} {p : Option Addr} {n c r : Nat} {t : List (List Raw)}
theorem ref07_Real_ok (h : Sl RE W p n c t) (hl : ∀ r ∈ t, ∀ i ∈ r, smallR i) (hn16 : n ≤ 16) (hT : TSR r t) (hv : vB r n r ≤ 8796093022208) :
    Ok Tryz.prog 43 [.slice p n c] W fun _ v => ∃ b, v = .bool b ∧ (b = true ↔ realR t) := by
  have hn := h.hn
  have hr : r ≤ 8796093022208 := Nat.le_trans (vB_ge n r) hv
  refine Ok.enter Tryz.func43 rfl rfl rfl rfl fun W0 iEn => ?_
  refine J.seq <| J.reg rfl <| O.as rfl <| JO.nil <| J.seq <| J.seq <| J.reg rfl <| O.mv rfl <| O.call rfl (ref06_Tower_ok h.to hl (by omega)) fun W5 v5 i5 e5 h5 => ?_
  obtain ⟨b, rfl, hb⟩ := h5
  refine O.not rfl <| JO.nil <| J.cond rfl (fun h6 => ?_) (fun h6 => ?_)
  · skip
    refine J.seq <| J.reg rfl <| O.as rfl <| JO.nil <| J.ret1 rfl (.tmp rfl) fun W' iE iP => ?_
    exact ⟨false, rfl, fun h => (nomatch h), fun h => by rw [hb.2 (realR_ok h)] at h6; cases h6⟩
  · skip
    refine J.skip <| J.seq <| J.seq <| J.reg rfl <| O.as rfl <| JO.nil <| J.block <| ?_
    obtain ⟨k, w, rfl⟩ : ∃ k, ∃ w : Tw k, t = ct (toT k w) := ⟨_, okT_typed (hb.1 (by simpa using h6))⟩
    rw [ct_length] at hn
    subst hn
    have hTw := hT n w rfl
    refine J.loop (α := Nat) (fun i => [(0, .slice p n c), (3, .int .i64 (i : Int))]) (fun i W' => Le W0 W' ∧ i ≤ n ∧ ∃ v : Tw i, (toT n w).take i = toT i v ∧ real i v) (fun i => n - i) 0 ⟨rfl, rfl, trivial⟩ ⟨inferInstance, Nat.zero_le _, (), rfl, trivial⟩ ?_
    rintro i W3 ⟨_, hi, v, hv1, hvr⟩
    refine J.seq <| J.seq <| J.reg rfl <| O.mv rfl <| O.mv rfl <| O.len rfl <| O.lt rfl rfl <| JO.nil <| J.condD rfl (fun h10 => ?_) (fun h10 => ?_)
    · skip
      obtain ⟨u, hu1, hu2, hu3, hu4, hu5⟩ := low_up (w := w) (i := i) (by omega)
      have hvu : v = u.1 := toT_inj (hv1.symm.trans hu2)
      subst hvu
      have s15 := h.take i (by omega)
      rw [ct, ← List.map_take, hu2] at s15
      have hTu := hu4 r hTw
      have hcC := h.hC
      have hcc := h.hc
      refine J.skip <| J.seq <| J.block <| J.seq <| ?_
      obtain ⟨b18, o18, rfl, hj18, hb18⟩ := (h).placeP (ct_get hu3)
      refine J.draw [.ex _, .ex _, .ex _, .ex _, .ex _, .ex _, .rel _] rfl rfl ⟨fun Wd id ed _ => O.mv rfl <| D.ex, fun Wd id ed _ => O.mv rfl <| D.ex, fun Wd id ed _ => O.slh (hi := i) rfl rfl rfl (by omega) <| D.ex, fun Wd id ed _ => O.mv rfl <| D.ex, fun Wd id ed _ => O.mv rfl <| D.ex, fun Wd id ed _ => O.ia (j := i) rfl rfl rfl hj18 <| D.ex, fun Wd id ed _ => O.ldTD rfl hb18.to.h rfl rfl (fun _ => rfl), trivial⟩ ?_
      intro Wr6 ir6 er6 v19 h19
      obtain ⟨p19, m19, c19, rfl, s19⟩ := h19.sl
      refine O.call rfl (ref07_sign_ok (t := u.1) (a := u.2) s15.to s19 hTu.1 hTu.2 (by omega) (Nat.le_trans (vB_le r r (by omega)) hv) hr) fun W20 v20 i20 e20 h20 => ?_
      subst h20
      refine O.ne rfl rfl <| JO.nil <| J.condD rfl (fun h21 => ?_) (fun h21 => ?_)
      · skip
        refine J.seq <| J.reg rfl <| O.as rfl <| JO.nil <| J.ret1 rfl (.tmp rfl) fun W' iE iP => ?_
        exact ⟨false, rfl, fun h => (nomatch h), fun h => absurd (hu5 (realR_ct.1 h)).2 h21⟩
      · skip
        refine J.skip <| J.bend <| J.reg rfl <| O.mv rfl <| O.add rfl rfl (wI (by omega)) <| O.as rfl <| JO.nil <| ?_
        exact J.at' (i + 1) ⟨rfl, rfl, trivial⟩ ⟨⟨inferInstance, by omega, u, hu1, hvr, by first | exact h21 | exact Decidable.not_not.1 h21⟩, by omega⟩
    · skip
      refine J.exit rfl <| J.seq <| J.reg rfl <| O.as rfl <| JO.nil <| J.ret1 rfl (.tmp rfl) fun W' iE iP => ?_
      refine ⟨true, rfl, fun _ => ?_, fun _ => rfl⟩
      have hin : i = n := by omega
      subst hin
      rw [List.take_of_length_le (by rw [toT_length]; exact Nat.le_refl _)] at hv1
      rw [toT_inj hv1]
      exact realR_ct.2 hvr
end
end
section
/-- the numbers of a list are at most so long -/
def SZR (s : Nat) (l : List Raw) : Prop := ∀ xs, l = cl xs → Sz s xs
/-- tower and elements as they are to be -/
def fine (t : List (List Raw)) (ls : List (List Raw)) : Prop := (∀ l ∈ ls, okE (2 ^ t.length) l) ∧ realR t
/-- the sign, 0 for what is none of a real tower -/
def SgnIs (t : List (List Raw)) (l : List Raw) (z : Int) : Prop := (∃ (k : Nat) (w : Tw k) (a : El k), t = ct (toT k w) ∧ l = cl (toL k a) ∧ real k w ∧ z = sgn k w a) ∨ (¬ fine t [l] ∧ z = 0)
theorem fine_ct1 {k : Nat} {w : Tw k} {a : El k} (h : real k w) : fine (ct (toT k w)) [cl (toL k a)] := ⟨fun l hl => by
  rw [List.mem_singleton.1 hl, ct_length]
  exact okE_cl (toL_length k a), realR_ct.2 h⟩
theorem SgnIs.ct {k : Nat} {w : Tw k} {a : El k} (h : real k w) : SgnIs (ct (toT k w)) (cl (toL k a)) (sgn k w a) := .inl ⟨k, w, a, rfl, rfl, h, rfl⟩
theorem Qs.zero : Qs 1 ((0 : Int) : Rat) := Qs.int (show (0 : Int).natAbs < 2 ^ 1 by decide) (Nat.le_refl _)
section
variable {W : GW} {p : Option Addr} {n c r s : Nat} {t : List (List Raw)}
theorem FromRat_gen (hl : ∀ r ∈ t, ∀ i ∈ r, smallR i) (hn16 : t.length ≤ 16) (hT : TSR r t) (hr : r ≤ 8796093022208) : ∃ l : List Raw, (∀ {W' : GW} {p' : Option Addr} {n' c' : Nat} {v : Value}, Sl RE W' p' n' c' t → V RQ W' v (cq ((0 : Int) : Rat)) →
      Ok Tryz.prog 83 [.slice p' n' c', v] W' fun W' v => V RE W' v l) ∧ (okT t → okE (2 ^ t.length) l) ∧ ∀ i ∈ l, smallR i := by
  have hz : smallR (cq ((0 : Int) : Rat)) := smallR_cq (p := 1) (Qs.zero) (by decide)
  by_cases hok : okT t
  · obtain ⟨k, w, rfl⟩ : ∃ k, ∃ w : Tw k, t = ct (toT k w) := ⟨_, okT_typed hok⟩
    rw [ct_length] at hn16
    refine ⟨cl (toL k (rat k ((0 : Int) : Rat))), fun h h' => tower_FromRat_ok h h' (hT k w rfl) hz hn16 (by omega), fun _ => okE_cl (by rw [toL_length, ct_length]), fun i hi => ?_⟩
    exact small_cl (p := 2) (Sz.rat k (p := 1) Qs.zero).qs' (by decide) i hi
  · exact ⟨[], fun h h' => tower_FromRat_nil h h' hl hz (by omega) (.inl hok), fun e => absurd e hok, fun i hi => nomatch hi⟩
theorem sign_Real_ok (h : Sl RE W p n c t) (hl : ∀ r ∈ t, ∀ i ∈ r, smallR i) (hn16 : n ≤ 16) (hT : TSR r t) (hv : vB r n r ≤ 8796093022208) :
    Ok Tryz.prog 100 [.slice p n c] W fun _ v => ∃ b, v = .bool b ∧ (b = true ↔ realR t) := by
  have hn := h.hn
  have hr : r ≤ 8796093022208 := Nat.le_trans (vB_ge n r) hv
  obtain ⟨L, hF, hI, hS⟩ := FromRat_gen (t := t) hl (by omega) hT hr
  refine Ok.enter Tryz.func100 rfl rfl rfl rfl fun W0 iEn => ?_
  refine J.seq <| J.reg rfl <| O.as rfl <| JO.nil <| J.seq <| J.seq <| J.reg rfl <| O.mv rfl <| O.mv rfl <| O.call rfl (rational_FromInt_ok (z := 0) (by decide)) fun W7 v7 i7 e7 h7 => ?_
  refine O.call rfl (hF h.to h7.to) fun W8 v8 i8 e8 h8 => ?_
  obtain ⟨p8, m8, c8, rfl, s8⟩ := h8.sl
  refine O.call rfl (tower_Formed_ok h.to s8.to hl hS (by omega)) fun W9 v9 i9 e9 h9 => ?_
  obtain ⟨b, rfl, hb⟩ := h9
  refine O.not rfl <| JO.nil <| J.cond rfl (fun h10 => ?_) (fun h10 => ?_)
  · skip
    refine J.seq <| J.reg rfl <| O.as rfl <| JO.nil <| J.ret1 rfl (.tmp rfl) fun W' iE iP => ?_
    exact ⟨false, rfl, fun h => (nomatch h), fun h => by rw [hb.2 ⟨realR_ok h, hI (realR_ok h)⟩] at h10; cases h10⟩
  · skip
    refine J.skip <| J.seq <| J.seq <| J.reg rfl <| O.mv rfl <| O.len rfl <| O.mv rfl <| JO.nil <| J.block <| ?_
    obtain ⟨k, w, rfl⟩ : ∃ k, ∃ w : Tw k, t = ct (toT k w) := ⟨_, okT_typed (hb.1 (by simpa using h10)).1⟩
    rw [ct_length] at hn
    subst hn
    have hTw := hT n w rfl
    refine J.loop (α := Nat) (fun i => [(0, .slice p n c), (11, .slice p n c), (12, .int .i64 (n : Int)), (13, .int .i64 (i : Int))]) (fun i W' => Le W0 W' ∧ i ≤ n ∧ ∃ v : Tw i, (toT n w).take i = toT i v ∧ real i v) (fun i => n - i) 0 ⟨rfl, rfl, rfl, rfl, trivial⟩ ⟨inferInstance, Nat.zero_le _, (), rfl, trivial⟩ ?_
    rintro i W3 ⟨_, hi, v, hv1, hvr⟩
    refine J.seq <| J.reg rfl <| O.lt rfl rfl <| JO.nil <| J.seq <| J.condD rfl (fun h14 => ?_) (fun h14 => ?_)
    · skip
      obtain ⟨u, hu1, hu2, hu3, hu4, hu5⟩ := low_up (w := w) (i := i) (by omega)
      have hvu : v = u.1 := toT_inj (hv1.symm.trans hu2)
      subst hvu
      have s20 := h.take i (by omega)
      rw [ct, ← List.map_take, hu2] at s20
      have hTu := hu4 r hTw
      have hcC := h.hC
      have hcc := h.hc
      refine J.skip <| J.seq <| J.block <| J.seq <| J.reg rfl <| O.mv rfl <| O.iaT (j := i) rfl rfl rfl h.to (ct_get hu3) rfl fun b16 o16 hb16 => ?_
      refine O.ldTs rfl hb16.to.h fun p17 m17 c17 s17 => ?_
      have h17 := s17.v
      refine O.as rfl <| O.as rfl <| JO.nil <| J.seq <| J.reg rfl <| O.mv rfl <| O.mv rfl <| O.slh (hi := i) rfl rfl rfl (by omega) <| O.mv rfl <| ?_
      refine O.call rfl (sign_value_ok (t := u.1) (a := u.2) s20.to s17.to hTu.1 hTu.2 (by omega) (Nat.le_trans (vB_le r r (by omega)) hv) hr) fun W22 v22 i22 e22 h22 => ?_
      subst h22
      refine O.le rfl rfl <| JO.nil <| J.condD rfl (fun h23 => ?_) (fun h23 => ?_)
      · skip
        refine J.seq <| J.reg rfl <| O.as rfl <| JO.nil <| J.ret1 rfl (.tmp rfl) fun W' iE iP => ?_
        exact ⟨false, rfl, fun h => (nomatch h), fun h => by have := (hu5 (realR_ct.1 h)).2; omega⟩
      · skip
        refine J.skip <| J.bend <| J.reg rfl <| O.add rfl rfl (wI (by omega)) <| O.mv rfl <| JO.nil <| ?_
        exact J.at' (i + 1) ⟨rfl, rfl, rfl, rfl, trivial⟩ ⟨⟨inferInstance, by omega, u, hu1, hvr, by rcases sgn_tri u.1 u.2 with e | e | e <;> omega⟩, by omega⟩
    · skip
      refine J.exit rfl <| J.seq <| J.reg rfl <| O.as rfl <| JO.nil <| J.ret1 rfl (.tmp rfl) fun W' iE iP => ?_
      refine ⟨true, rfl, fun _ => ?_, fun _ => rfl⟩
      have hin : i = n := by omega
      subst hin
      rw [List.take_of_length_le (by rw [toT_length]; exact Nat.le_refl _)] at hv1
      rw [toT_inj hv1]
      exact realR_ct.2 hvr
theorem sign_good_ok {q : Option Addr} {m d : Nat} {ls : List (List Raw)} (h : Sl RE W p n c t) (h' : Sl RE W q m d ls) (hl : ∀ r ∈ t, ∀ i ∈ r, smallR i) (hl' : ∀ r ∈ ls, ∀ i ∈ r, smallR i) (hn16 : n ≤ 16) (hT : TSR r t) (hv : vB r n r ≤ 8796093022208) :
    Ok Tryz.prog 60 [.slice p n c, .slice q m d] W fun _ v => ∃ b, v = .bool b ∧ (b = true ↔ fine t ls) := by
  have hn := h.hn
  have hm := h'.hn
  have hcC := h'.hC
  have hcc := h'.hc
  refine Ok.enter Tryz.func60 rfl rfl rfl rfl fun W0 iEn => ?_
  refine J.seq <| J.reg rfl <| O.as rfl <| JO.nil <| J.seq <| J.seq <| J.reg rfl <| O.mv rfl <| O.len rfl <| O.mv rfl <| JO.nil <| J.block <| ?_
  refine J.loop (α := Nat) (fun i => [(0, .slice p n c), (7, .slice q m d), (8, .int .i64 (m : Int)), (9, .int .i64 (i : Int))]) (fun i W' => Le W0 W' ∧ i ≤ m ∧ ∀ j l, j < i → ls[j]? = some l → okE (2 ^ t.length) l) (fun i => m - i) 0 ⟨rfl, rfl, rfl, rfl, trivial⟩ ⟨inferInstance, Nat.zero_le _, fun _ _ h => nomatch h⟩ ?_
  rintro i W3 ⟨_, hi, hd⟩
  refine J.seq <| J.reg rfl <| O.lt rfl rfl <| JO.nil <| J.seq <| J.condD rfl (fun h10 => ?_) (fun h10 => ?_)
  · skip
    obtain ⟨u, hu⟩ : ∃ u, ls[i]? = some u := ⟨_, List.getElem?_eq_getElem (by omega)⟩
    refine J.skip <| J.seq <| J.block <| J.seq <| J.reg rfl <| O.iaT (j := i) rfl rfl rfl h'.to hu rfl fun b11 o11 hb11 => ?_
    refine O.ldTs rfl hb11.to.h fun p12 m12 c12 s12 => ?_
    have h12 := s12.v
    refine O.as rfl <| JO.nil <| J.seq <| J.reg rfl <| O.mv rfl <| O.mv rfl <| O.call rfl (tower_Formed_ok h.to s12.to hl (hl' u (List.mem_of_getElem? hu)) (by omega)) fun W15 v15 i15 e15 h15 => ?_
    obtain ⟨b, rfl, hb⟩ := h15
    refine O.not rfl <| JO.nil <| J.cond rfl (fun h16 => ?_) (fun h16 => ?_)
    · skip
      refine J.seq <| J.reg rfl <| O.as rfl <| JO.nil <| J.ret1 rfl (.tmp rfl) fun W' iE iP => ?_
      exact ⟨false, rfl, fun h => (nomatch h), fun h => by rw [hb.2 ⟨realR_ok h.2, h.1 u (List.mem_of_getElem? hu)⟩] at h16; cases h16⟩
    · skip
      refine J.skip <| J.bend <| J.reg rfl <| O.add rfl rfl (wI (by omega)) <| O.mv rfl <| JO.nil <| ?_
      have hbt : b = true := by simpa using h16
      exact J.at' (i + 1) ⟨rfl, rfl, rfl, rfl, trivial⟩ ⟨⟨inferInstance, by omega, fun j l hj hjl => by
        by_cases hji : j = i
        · subst hji; rw [hu] at hjl; injection hjl with hjl; subst hjl; exact (hb.1 hbt).2
        · exact hd j l (by omega) hjl⟩, by omega⟩
  · skip
    refine J.exit rfl <| J.seq <| J.reg rfl <| O.mv rfl <| O.call rfl (sign_Real_ok h.to hl hn16 hT hv) fun W19 v19 i19 e19 h19 => ?_
    obtain ⟨b, rfl, hb⟩ := h19
    refine O.as rfl <| JO.nil <| J.ret1 rfl (.tmp rfl) fun W' iE iP => ?_
    refine ⟨b, rfl, fun e => ⟨fun l hl => ?_, hb.1 e⟩, fun e => hb.2 e.2⟩
    obtain ⟨j, hj⟩ := List.getElem?_of_mem hl
    refine hd j l ?_ hj
    have : j < ls.length := by
      by_cases h : j < ls.length
      · exact h
      · rw [List.getElem?_eq_none (by omega)] at hj; cases hj
    omega
theorem sign_Sign_ok {q : Option Addr} {m d : Nat} {l : List Raw} {z : Int} (hz : SgnIs t l z) (h : Sl RE W p n c t) (h' : Sl RQ W q m d l) (hl : ∀ r ∈ t, ∀ i ∈ r, smallR i) (hl' : ∀ i ∈ l, smallR i) (hn16 : n ≤ 16) (hT : TSR r t) (hS : SZR s l) (hv : vB r n r ≤ 8796093022208) (hv' : vB r n s ≤ 8796093022208) :
    Ok Tryz.prog 31 [.slice p n c, .slice q m d] W fun _ v => v = .int .i64 z := by
  have hn := h.hn
  refine Ok.enter Tryz.func31 rfl rfl rfl rfl fun W0 iEn => ?_
  refine J.seq <| J.reg rfl <| O.as rfl <| JO.nil <| J.seq <| J.seq <| J.reg rfl <| O.mv rfl <| O.mv rfl <| O.bs (r := RE) [l] rfl ⟨h'.to.v, trivial⟩ rfl rfl rfl (by decide) (.inr rfl) (by decide) fun W7 p7 i7 e7 s7 => O.call rfl (sign_good_ok h.to s7.to hl (fun r hr => by rw [List.mem_singleton.1 hr]; exact hl') hn16 hT hv) fun W8 v8 i8 e8 h8 => ?_
  obtain ⟨b, rfl, hb⟩ := h8
  refine O.not rfl <| JO.nil <| J.cond rfl (fun h9 => ?_) (fun h9 => ?_)
  · skip
    have hz0 : z = 0 := by
      rcases hz with ⟨k, w, a, rfl, rfl, hw, _⟩ | ⟨_, e⟩
      · rw [hb.2 (fine_ct1 hw)] at h9; cases h9
      · exact e
    subst hz0
    refine J.seq <| J.reg rfl <| O.as rfl <| JO.nil <| J.ret1 rfl (.tmp rfl) fun W' iE iP => ?_
    rfl
  · skip
    obtain ⟨k, w, a, rfl, rfl, hw, rfl⟩ := hz.elim id (fun e => absurd (hb.1 (by simpa using h9)) e.1)
    rw [ct_length] at hn
    subst hn
    refine J.skip <| J.seq <| J.reg rfl <| O.mv rfl <| O.mv rfl <| ?_
    refine O.call rfl (sign_value_ok h.to h'.to (hT _ _ rfl) (hS _ rfl) hn16 hv' (Nat.le_trans (vB_ge n r) hv)) fun W12 v12 i12 e12 h12 => ?_
    subst h12
    refine O.as rfl <| JO.nil <| J.ret1 rfl (.tmp rfl) fun W' iE iP => ?_
    rfl
theorem ref07_Sign_ok {q : Option Addr} {m d : Nat} {l : List Raw} {z : Int} (hz : SgnIs t l z) (h : Sl RE W p n c t) (h' : Sl RQ W q m d l) (hl : ∀ r ∈ t, ∀ i ∈ r, smallR i) (hl' : ∀ i ∈ l, smallR i) (hn16 : n ≤ 16) (hT : TSR r t) (hS : SZR s l) (hv : vB r n r ≤ 8796093022208) (hv' : vB r n s ≤ 8796093022208) :
    Ok Tryz.prog 19 [.slice p n c, .slice q m d] W fun _ v => v = .int .i64 z := by
  have hn := h.hn
  have hfi : fine t [l] ↔ (okT t ∧ okE (2 ^ t.length) l) ∧ realR t := ⟨fun e => ⟨⟨realR_ok e.2, e.1 l (by simp)⟩, e.2⟩, fun e => ⟨fun x hx => by rw [List.mem_singleton.1 hx]; exact e.1.2, e.2⟩⟩
  obtain ⟨bF, hbF⟩ := dec_ex (okT t ∧ okE (2 ^ t.length) l)
  obtain ⟨bR, hbR⟩ := dec_ex (realR t)
  refine Ok.enter Tryz.func19 rfl rfl rfl rfl fun W0 iEn => ?_
  refine J.seq <| J.reg rfl <| O.as rfl <| JO.nil <| J.seq <| J.seq <| J.reg rfl <| O.mv rfl <| O.mv rfl <| ?_
  refine O.call rfl ((ref06_Formed_ok h.to h'.to hl hl' (by omega)).eqB hbF) fun W7 v7 i7 e7 h7 => ?_
  subst h7
  refine O.not rfl <| O.mv rfl <| ?_
  by_cases hg9 : bF = false
  · skip
    refine O.set (t := 9) (.bool true) rfl (by rw [hg9]; rfl) <| O.gs rfl rfl rfl <| O.gs rfl rfl rfl <| O.gs rfl rfl rfl <| O.pickT rfl rfl <| JO.nil <| J.condT rfl <| ?_
    have hz0 : z = 0 := by
      rcases hz with ⟨k, w, a, rfl, rfl, hw, _⟩ | ⟨_, e⟩
      · have := hfi.1 (fine_ct1 (a := a) hw)
        have h1 := hbF.2 this.1
        have h2 := hbR.2 this.2
        first
          | exact absurd hg9 (by rw [h1]; decide)
          | (rw [h2] at h13; cases h13)
      · exact e
    subst hz0
    refine J.seq <| J.reg rfl <| O.as rfl <| JO.nil <| J.ret1 rfl (.tmp rfl) fun W' iE iP => ?_
    rfl
  · skip
    refine O.set (t := 9) (.bool false) rfl (by cases bF <;> simp_all) <| O.gt rfl rfl <| O.mv rfl <| O.gt rfl rfl <| ?_
    refine O.call rfl ((ref07_Real_ok h.to hl hn16 hT hv).eqB hbR) fun W11 v11 i11 e11 h11 => ?_
    subst h11
    refine O.gt rfl rfl <| O.not rfl <| O.pickF rfl rfl <| JO.nil <| J.cond rfl (fun h13 => ?_) (fun h13 => ?_)
    · skip
      have hz0 : z = 0 := by
        rcases hz with ⟨k, w, a, rfl, rfl, hw, _⟩ | ⟨_, e⟩
        · have := hfi.1 (fine_ct1 (a := a) hw)
          have h1 := hbF.2 this.1
          have h2 := hbR.2 this.2
          first
            | exact absurd hg9 (by rw [h1]; decide)
            | (rw [h2] at h13; cases h13)
        · exact e
      subst hz0
      refine J.seq <| J.reg rfl <| O.as rfl <| JO.nil <| J.ret1 rfl (.tmp rfl) fun W' iE iP => ?_
      rfl
    · skip
      obtain ⟨k, w, a, rfl, rfl, hw, rfl⟩ := hz.elim id (fun e => absurd (hfi.2 ⟨hbF.1 (by cases bF <;> simp_all), hbR.1 (by cases bR <;> simp_all)⟩) e.1)
      rw [ct_length] at hn
      subst hn
      refine J.skip <| J.seq <| J.reg rfl <| O.mv rfl <| O.mv rfl <| ?_
      refine O.call rfl (ref07_sign_ok h.to h'.to (hT _ _ rfl) (hS _ rfl) hn16 hv' (Nat.le_trans (vB_ge n r) hv)) fun W16 v16 i16 e16 h16 => ?_
      subst h16
      refine O.as rfl <| JO.nil <| J.ret1 rfl (.tmp rfl) fun W' iE iP => ?_
      rfl
end
end
section
theorem short_nat {n m : Nat} (h : (dig n).length ≤ m) : n < 2 ^ (32 * m) := by
  have h1 := dig_ub n
  have h2 : 4294967296 ^ (dig n).length ≤ 4294967296 ^ m := Nat.pow_le_pow_right (by decide) h
  have h3 : (4294967296 : Nat) ^ m = 2 ^ (32 * m) := by rw [Nat.pow_mul]
  omega
end
end Go.Proofs.YtcaikjefkkejbaaGreat
