/- The reference's intervals, second part: rounding, square roots, widths. -/
import Derived.Test.YtcaikjefkkejbaaGreatSd
import Derived.Test.YtcaikjefkkejbaaGreatUa
import Derived.Test.YtcaikjefkkejbaaGreatVy
set_option linter.unusedVariables false
set_option linter.unusedSimpArgs false
set_option maxRecDepth 10000
set_option maxHeartbeats 4000000
namespace Go.Proofs.YtcaikjefkkejbaaGreat
open Go Go.Rx Go.Num Go.Tow
section
/-- 2^b -/
def pw (b : Nat) : Rat := ((2 ^ b : Int) : Rat)
theorem Zs.floor {s : Nat} {x : Rat} (h : Qs s x) : Zs s x.floor := by
  have hn := h.n
  unfold Zs at *
  rw [Rat.floor_def]
  exact Nat.lt_of_le_of_lt (Int.natAbs_ediv_le_natAbs _ _) hn
end
section
/-- the square root of the integer below -/
def rtF (x : Rat) : Nat := rt x.floor.toNat
theorem rt_le (n : Nat) : rt n ≤ n := by
  have h := (rt_spec n).1
  by_cases h0 : rt n = 0
  · omega
  · have := Nat.mul_le_mul_left (rt n) (show 1 ≤ rt n by omega)
    omega
theorem floor_nat {x : Rat} (h : 0 ≤ x) : x.floor = (x.floor.toNat : Int) := by
  have : (0 : Int) ≤ x.floor := Rat.le_floor_iff.2 h
  omega
theorem rtF_zs {s : Nat} {x : Rat} (h : Qs s x) (h0 : 0 ≤ x) : Zs s (rtF x : Int) := by
  have h1 := Zs.floor h
  rw [floor_nat h0] at h1
  have h2 := rt_le x.floor.toNat
  unfold Zs at *
  have h1 : x.floor.toNat < 2 ^ s := h1
  show rt x.floor.toNat < 2 ^ s
  omega
theorem pw_pos (b : Nat) : 0 < pw b := Rat.intCast_pos.2 (Int.pow_pos (by decide))
def sq2 (x : Rat) (b : Nat) : Rat := x * (pw b * pw b)
def sqLo (x : Rat) (b : Nat) : Rat := Rat.divInt (rtF (sq2 x b) : Int) (2 ^ b)
end
section
/-- the size of what a sign looks at -/
def vB (r : Nat) : Nat → Nat → Nat
  | 0, s => s
  | k + 1, s => vB r k (nB r k s)
theorem vnB_ge (r k s : Nat) : s ≤ nB r k s := by unfold nB; omega
theorem nB_mono {r k s s' : Nat} (h : s ≤ s') : nB r k s ≤ nB r k s' := by unfold nB; omega
theorem vB_mono {r : Nat} : ∀ {k s s' : Nat}, s ≤ s' → vB r k s ≤ vB r k s'
  | 0, _, _, h => h
  | k + 1, _, _, h => vB_mono (k := k) (nB_mono h)
theorem vB_ge {r : Nat} : ∀ (k s : Nat), s ≤ vB r k s
  | 0, _ => Nat.le_refl _
  | k + 1, s => Nat.le_trans (vnB_ge r k s) (vB_ge k _)
theorem sgnQ_cmp (x : Rat) : cmpI x.num 0 = sgnQ x := by
  rcases cmpI_tri x.num 0 with ⟨h, e⟩ | ⟨h, e⟩ | ⟨h, e⟩ <;> rw [e]
  · rw [sgnQ_neg (by rw [Rat.lt_iff]; show x.num * 1 < 0 * _; omega)]
  · rw [Rat.num_eq_zero.1 h]; rfl
  · rw [sgnQ_pos (by rw [Rat.lt_iff]; show 0 * _ < x.num * 1; omega)]
theorem sign_value0 {W : GW} {p q : Option Addr} {c m d : Nat} {a : Rat} (h' : Sl RQ W q m d (cl [a])) :
    Ok Tryz.prog 61 [.slice p 0 c, .slice q m d] W fun _ v => v = .int .i64 (sgnQ a) := by
  refine Ok.enter Tryz.func61 rfl rfl rfl rfl fun W0 iEn => ?_
  refine J.seq <| J.reg rfl <| O.as rfl <| JO.nil <| J.seq <| J.seq <| J.reg rfl <| O.mv rfl <| O.len rfl <| O.eq rfl rfl <| JO.nil <| J.condD rfl (fun h15 => ?_) (fun h15 => ?_)
  · skip
    refine J.seq <| J.reg rfl <| O.mv rfl <| O.iaT (j := 0) rfl rfl rfl h'.to (show (cl [a])[0]? = some (cq a) from rfl) rfl fun b17 o17 hb17 => O.ldT rfl hb17.to.h rfl rfl (fun h => nomatch h) fun v18 h18 => ?_
    refine O.call rfl (rational_Sign_ok h18.to) fun W19 v19 i19 e19 h19 => ?_
    subst h19
    refine O.as rfl <| JO.nil <| J.ret1 rfl (.tmp rfl) fun W' iE iP => ?_
    rw [sgnQ_cmp]
  · skip
    exact absurd rfl h15 -- done
theorem sign_value_ok {k : Nat} : ∀ {W : GW} {p q : Option Addr} {n c m d r s : Nat} {t : Tw k} {a : El k}, Sl RE W p n c (ct (toT k t)) → Sl RQ W q m d (cl (toL k a)) →
    TS r k t → Sz s (toL k a) → k ≤ 16 → vB r k s ≤ 8796093022208 → r ≤ 8796093022208 →
    Ok Tryz.prog 61 [.slice p n c, .slice q m d] W fun _ v => v = .int .i64 (sgn k t a) := by
  induction k with
  | zero =>
    intro W p q n c m d r s t a h h' hT ha hk hs hr
    have hn : n = 0 := h.hn
    subst hn
    exact sign_value0 (a := a) h'
  | succ k ih =>
    intro W p q n c m d r s t a h h' hT ha hk hs hr
    have hn : n = k + 1 := by rw [h.hn, ct, List.length_map, toT_length]
    have hm : m = 2 ^ (k + 1) := by rw [h'.hn, cl_length, toL_length]
    have hp := pow_le hk
    have hp1 : 2 ^ (k + 1) = 2 * 2 ^ k := by rw [Nat.pow_succ]; omega
    have hx : Sz s (toL k a.1) := Sz.left ha
    have hy : Sz s (toL k a.2) := Sz.right ha
    have hnb : nB r k s = 4 * s + 3 * cB r k + r + 1 := rfl
    have hv : vB r k (nB r k s) ≤ 8796093022208 := hs
    have hv1 := vB_ge (r := r) k (nB r k s)
    have hv2 := vB_mono (r := r) (k := k) (vnB_ge r k s)
    have hc' := h'.hc
    have hC' := h'.hC
    have hcc := h.hc
    have hCC := h.hC
    have s31 := h'.take (2 ^ k) (by omega)
    rw [(cl_halves a).1] at s31
    have s34 := h'.drop (2 ^ k) (by omega)
    rw [(cl_halves a).2] at s34
    have s28 := h.take k (by omega)
    rw [ct_succ, List.take_left' (by rw [ct, List.length_map, toT_length])] at s28
    have hrr : (ct (toT (k + 1) t))[k]? = some (cl (toL k t.2)) := by
      rw [ct_succ, List.getElem?_append_right (by rw [ct, List.length_map, toT_length]; omega), ct, List.length_map, toT_length, Nat.sub_self]; rfl
    have hq : Int.tdiv (m : Int) 2 = ((2 ^ k : Nat) : Int) := by rw [show Int.tdiv (m : Int) 2 = ((m / 2 : Nat) : Int) from rfl]; omega
    have hsg : sgn (k + 1) t a = if sgn k t.1 a.2 = 0 ∨ sgn k t.1 a.1 = sgn k t.1 a.2 then sgn k t.1 a.1 else if sgn k t.1 a.1 = 0 then sgn k t.1 a.2 else sgn k t.1 a.1 * sgn k t.1 ((ring k t.1).nP t.2 a) := rfl
    have hd : Sz (nB r k s) (toL k (add k (mul k t.1 a.1 a.1) (neg k (mul k t.1 t.2 (mul k t.1 a.2 a.2))))) := by
      rw [toL_add, toL_neg]
      exact ((hx.mul hT.1 hx).add (hT.2.mul hT.1 (hy.mul hT.1 hy)).neg).mono (by omega)
    have hde : add k (mul k t.1 a.1 a.1) (neg k (mul k t.1 t.2 (mul k t.1 a.2 a.2))) = (ring k t.1).nP t.2 a := by
      unfold Laws.nP
      rw [(ring k t.1).mc t.2]
    refine Ok.enter Tryz.func61 rfl rfl rfl rfl fun W0 iEn => ?_
    refine J.seq <| J.reg rfl <| O.as rfl <| JO.nil <| J.seq <| J.seq <| J.reg rfl <| O.mv rfl <| O.len rfl <| O.eq rfl rfl <| JO.nil <| J.condD rfl (fun h15 => ?_) (fun h15 => ?_)
    · skip
      omega -- done
    · skip
      refine J.skip <| J.seq <| J.reg rfl <| O.mv rfl <| O.len rfl <| O.sb (r := (k : Int)) rfl rfl ((wI (by omega)).trans (by omega)) <| O.mv rfl <| O.len rfl <| O.quo (r := ((2 ^ k : Nat) : Int)) rfl rfl (by decide) (by rw [hq]; exact wI (by omega)) <| O.as rfl <| O.as rfl <| JO.nil <| J.seq <| ?_
      refine J.draw [.ex _, .ex _, .ex _, .ex _, .ex _, .ex _, .ex _, .ex _, .ex _, .ex _, .ex _, .ex _] rfl rfl ⟨fun Wd id ed _ => O.mv rfl <| D.ex, fun Wd id ed _ => O.mv rfl <| D.ex, fun Wd id ed _ => O.slh (hi := k) rfl rfl rfl (by omega) <| D.ex, fun Wd id ed _ => O.mv rfl <| D.ex, fun Wd id ed _ => O.mv rfl <| D.ex, fun Wd id ed _ => O.slh (hi := 2 ^ k) rfl rfl rfl (by omega) <| D.ex, fun Wd id ed _ => O.mv rfl <| D.ex, fun Wd id ed _ => O.mv rfl <| D.ex, fun Wd id ed _ => O.sll (lo := 2 ^ k) rfl rfl rfl (by omega) <| D.ex, fun Wd id ed _ => O.as rfl <| D.ex, fun Wd id ed _ => O.as rfl <| D.ex, fun Wd id ed _ => O.as rfl <| D.ex, trivial⟩ ?_
      intro Wr4 ir4 er4
      refine JO.nil <| J.seq <| J.reg rfl <| O.mv rfl <| O.mv rfl <| ?_
      refine O.call rfl (ih s28.to s31.to hT.1 hx (by omega) (by omega) hr) fun W37 v37 i37 e37 h37 => ?_
      subst h37
      refine O.mv rfl <| O.mv rfl <| ?_
      refine O.call rfl (ih s28.to s34.to hT.1 hy (by omega) (by omega) hr) fun W40 v40 i40 e40 h40 => ?_
      subst h40
      refine O.as rfl <| O.as rfl <| JO.nil <| J.seq <| J.block <| J.seq <| J.reg rfl <| O.mv rfl <| O.eq rfl rfl <| O.mv rfl <| ?_
      by_cases hg44 : sgn k t.1 a.2 = 0
      · skip
        refine O.set (t := 44) (.bool true) rfl (by simp only [Value.bool.injEq, decide_eq_true_eq, decide_eq_false_iff_not]; omega) <| O.gs rfl rfl rfl <| O.gs rfl rfl rfl <| O.gs rfl rfl rfl <| O.pickT rfl rfl <| O.as rfl <| JO.nil <| J.condT rfl <| J.seq <| J.reg rfl <| O.mv rfl <| O.as rfl <| JO.nil <| J.ret1 rfl (.tmp rfl) fun W' iE iP => ?_
        rw [hsg, if_pos (by first | exact .inl hg44 | exact .inr h41)]
      · skip
        refine O.set (t := 44) (.bool false) rfl (by simp only [Value.bool.injEq, decide_eq_true_eq, decide_eq_false_iff_not]; omega) <| O.gt rfl rfl <| O.mv rfl <| O.gt rfl rfl <| O.mv rfl <| O.gt rfl rfl <| O.eq rfl rfl <| O.pickF rfl rfl <| O.as rfl <| JO.nil <| J.condD rfl (fun h41 => ?_) (fun h41 => ?_)
        · skip
          refine J.seq <| J.reg rfl <| O.mv rfl <| O.as rfl <| JO.nil <| J.ret1 rfl (.tmp rfl) fun W' iE iP => ?_
          rw [hsg, if_pos (by first | exact .inl hg44 | exact .inr h41)]
        · skip
          refine J.seq <| J.reg rfl <| O.mv rfl <| O.eq rfl rfl <| O.as rfl <| JO.nil <| J.condD rfl (fun h50 => ?_) (fun h50 => ?_)
          · skip
            refine J.seq <| J.reg rfl <| O.mv rfl <| O.as rfl <| JO.nil <| J.ret1 rfl (.tmp rfl) fun W' iE iP => ?_
            rw [hsg, if_neg (fun e => e.elim hg44 h41), if_pos h50]
          · skip
            refine J.skip <| J.bend <| J.seq <| ?_
            obtain ⟨b62, o62, rfl, hj62, hb62⟩ := (h).placeP hrr
            refine J.draw [.ex _, .ex _, .ex _, .ex _, .rel _, .ex _, .ex _, .ex _, .ex _, .rel _, .ex _, .ex _, .ex _, .rel _, .rel _] rfl rfl ⟨fun Wd id ed _ => O.mv rfl <| D.ex, fun Wd id ed _ => O.mv rfl <| D.ex, fun Wd id ed _ => O.mv rfl <| D.ex, fun Wd id ed _ => O.mv rfl <| D.ex, fun Wd id ed _ => O.call rfl (tower_Mul_ok s28.to s31.to s31.to hT.1 hx hx (by omega) (by omega) (by omega)) fun Wd vd id ed hd => D.rel ed hd V.me, fun Wd id ed _ => O.mv rfl <| D.ex, fun Wd id ed _ => O.mv rfl <| D.ex, fun Wd id ed _ => O.mv rfl <| D.ex, fun Wd id ed _ => O.ia (j := k) rfl rfl rfl hj62 <| D.ex, fun Wd id ed _ => O.ldTD rfl hb62.to.h rfl rfl (fun _ => rfl), fun Wd id ed _ => O.mv rfl <| D.ex, fun Wd id ed _ => O.mv rfl <| D.ex, fun Wd id ed _ => O.mv rfl <| D.ex, fun Wd id ed _ => fun v58 h58 => (by obtain ⟨p58, m58, c58, rfl, s58⟩ := h58.sl; exact O.call rfl (tower_Mul_ok s28.to s34.to s34.to hT.1 hy hy (by omega) (by omega) (by omega)) fun Wd vd id ed hd => D.rel ed hd V.me), fun Wd id ed _ => fun v63 h63 => fun _ _ => fun v67 h67 => (by obtain ⟨p63, m63, c63, rfl, s63⟩ := h63.sl; obtain ⟨p67, m67, c67, rfl, s67⟩ := h67.sl; exact O.call rfl (tower_Mul_ok s28.to s63 s67 hT.1 hT.2 (hy.mul hT.1 hy) (by omega) (by omega) (by omega)) fun Wd vd id ed hd => D.rel ed hd V.me), trivial⟩ ?_
            intro Wr10 ir10 er10 v58 h58 v63 h63 v67 h67 v68 h68
            obtain ⟨p58, m58, c58, rfl, s58⟩ := h58.sl
            obtain ⟨p63, m63, c63, rfl, s63⟩ := h63.sl
            obtain ⟨p67, m67, c67, rfl, s67⟩ := h67.sl
            obtain ⟨p68, m68, c68, rfl, s68⟩ := h68.sl
            refine O.call rfl (tower_Sub_ok s28.to s58.to s68.to hT.1 (hx.mul hT.1 hx) (hT.2.mul hT.1 (hy.mul hT.1 hy)) (by omega) (by omega) (by omega)) fun W69 v69 i69 e69 h69 => ?_
            obtain ⟨p69, m69, c69, rfl, s69⟩ := h69.sl
            refine O.as rfl <| JO.nil <| J.seq <| J.reg rfl <| O.mv rfl <| O.mv rfl <| O.mv rfl <| ?_
            refine O.call rfl (ih s28.to s69.to hT.1 hd (by omega) (by omega) hr) fun W73 v73 i73 e73 h73 => ?_
            subst h73
            refine O.mul (r := sgn (k + 1) t a) rfl rfl ((by rw [hsg, if_neg (fun e => e.elim hg44 h41), if_neg h50, hde]; exact wI (by rcases sgn_tri t.1 a.1 with e | e | e <;> rcases sgn_tri t.1 ((ring k t.1).nP t.2 a) with e' | e' | e' <;> rw [e, e'] <;> decide))) <| O.as rfl <| JO.nil <| J.ret1 rfl (.tmp rfl) fun W' iE iP => ?_
            rfl
end
end Go.Proofs.YtcaikjefkkejbaaGreat
