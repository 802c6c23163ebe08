/- Enclosures of elements: the walk. -/
import Derived.Test.YtklnoajdhknfnaaGreatSm
set_option linter.unusedVariables false
set_option linter.unusedSimpArgs false
set_option maxRecDepth 10000
set_option maxHeartbeats 4000000
namespace Go.Proofs.YtklnoajdhknfnaaGreat
open Go Go.Rx Go.Num Go.Tow
section
def eB (s b : Nat) : Nat → Nat
  | 0 => s
  | k + 1 => 3 * eB s b k + 4 * b + 6
theorem eB_ge (s b : Nat) : ∀ k, s ≤ eB s b k
  | 0 => Nat.le_refl _
  | k + 1 => by have := eB_ge s b k; show s ≤ 3 * eB s b k + 4 * b + 6; omega
theorem enc_hi {k : Nat} {t : Tw (k + 1)} (h : real (k + 1) t) (b : Nat) : 0 ≤ (enc k t.1 t.2 b).2 := by
  have h0 : le k t.1 (rat k 0) t.2 := (nn_iff h.1).2 (by rw [h.2]; decide)
  exact (le_ratI h.1).1 (le_tr h.1 h0 (enc_in h.1 t.2 b).2)
def Q2 (s : Nat) (p : Rat × Rat) : Prop := Qs s p.1 ∧ Qs s p.2
theorem unit_qs (b : Nat) : Qs (b + 1) (Rat.divInt 1 (2 ^ b)) := Qs.divInt (Zs.one (by omega)) (Zs.two (Nat.le_refl _)) (two_ne b)
theorem rts_qs {s b : Nat} {p : Rat × Rat} (h : Q2 s p) (h0 : 0 ≤ p.2) (hs : 1 ≤ s) : Q2 (s + 3 * b + 4) (rts p b) :=
  ⟨(sqLo_qs (mx0_qs h.1 hs) (mx0_nn _) b).mono (by omega), ((sqLo_qs h.2 h0 b).add (unit_qs b)).mono (by omega)⟩
theorem mulI_qs {s s' : Nat} {p q : Rat × Rat} (h : Q2 s p) (h' : Q2 s' q) : Q2 (s + s') (mulI p q) := by
  have key : ∀ y ∈ p.1 * q.1 :: [p.1 * q.2, p.2 * q.1, p.2 * q.2], Qs (s + s') y := by
    intro y hy
    simp at hy
    rcases hy with rfl | rfl | rfl | rfl
    · exact h.1.mul h'.1
    · exact h.1.mul h'.2
    · exact h.2.mul h'.1
    · exact h.2.mul h'.2
  exact ⟨minL_qs key, maxL_qs key⟩
theorem addI_qs {s s' : Nat} {p q : Rat × Rat} (h : Q2 s p) (h' : Q2 s' q) : Q2 (s + s' + 1) (addI p q) := ⟨h.1.add h'.1, h.2.add h'.2⟩
theorem rnd_qs {s : Nat} {p : Rat × Rat} (h : Q2 s p) (b : Nat) : Q2 (s + b + 1) (rnd p b) := ⟨dnQ_qs h.1 b, upQ_qs h.2 b⟩
theorem Q2.mono {s s' : Nat} {p : Rat × Rat} (h : Q2 s p) (hs : s ≤ s') : Q2 s' p := ⟨h.1.mono hs, h.2.mono hs⟩
theorem enc_qs : ∀ {k : Nat} {t : Tw k} {a : El k} {s b : Nat}, real k t → TS s k t → Sz s (toL k a) → 1 ≤ s → Q2 (eB s b k) (enc k t a b)
  | 0, t, a, s, b, h, hT, ha, hs => ⟨ha.qs (List.mem_singleton.2 rfl), ha.qs (List.mem_singleton.2 rfl)⟩
  | k + 1, t, a, s, b, h, hT, ha, hs => by
    have hu := enc_qs (b := b) h.1 hT.1 (Sz.left (l := toL k a.1) (m := toL k a.2) ha) hs
    have hv := enc_qs (b := b) h.1 hT.1 (Sz.right (l := toL k a.1) (m := toL k a.2) ha) hs
    have hr := enc_qs (b := b) h.1 hT.1 hT.2 hs
    have hge := eB_ge s b k
    show Q2 (3 * eB s b k + 4 * b + 6) (if (∀ x ∈ toL k a.2, x = 0) then enc k t.1 a.1 b else rnd (addI (enc k t.1 a.1 b) (mulI (enc k t.1 a.2 b) (rts (enc k t.1 t.2 b) b))) b)
    split
    · exact hu.mono (by omega)
    · exact (rnd_qs (addI_qs hu (mulI_qs hv (rts_qs hr (enc_hi h b) (by omega)))) b).mono (by omega)
abbrev cp2 (p : Rat × Rat) : Raw × Raw := (cq p.1, cq p.2)
theorem sign_enclose0 {W : GW} {p q : Option Addr} {c m d b s : Nat} {a : Rat} (h' : Sl RQ W q m d (cl [a])) (ha : Qs s a) (hs : s ≤ 8796093022208) :
    Ok Tryz.prog 48 [.slice p 0 c, .slice q m d, .int .i64 (b : Int)] W fun W' v => V RV W' v (cq a, cq a) := by
  refine Ok.enter Tryz.func48 rfl rfl rfl rfl fun W0 iEn => ?_
  refine J.seq <| J.reg rfl <| ?_
  refine O.allocE fun W6 b6 i6 e6 hl6 hc6 hz6 => ?_
  refine JO.nil <| J.seq <| J.seq <| J.reg rfl <| O.mv rfl <| O.len rfl <| O.eq rfl rfl <| JO.nil <| J.condD rfl (fun h15 => ?_) (fun h15 => ?_)
  · skip
    refine J.seq <| J.reg rfl <| O.mv rfl <| O.iaT (j := 0) rfl rfl rfl h'.to (show (cl [a])[0]? = some (cq a) from rfl) rfl fun b17 o17 hb17 => O.ldT rfl hb17.to.h rfl rfl (fun h => nomatch h) fun v18 h18 => O.call rfl (interval_Point_ok h18.to ha hs) fun W19 v19 i19 e19 h19 => ?_
    refine O.stT rfl rfl hl6.to h19.to rfl fun Ws1 is1 hb6 F6 => ?_
    refine JO.nil <| J.retT rfl rfl hb6.to.h rfl rfl fun W' v' iE iP hv' => ?_
    exact hv'.to
  · skip
    exact absurd rfl h15 -- done
theorem sign_enclose_ok {k : Nat} : ∀ {W : GW} {p q : Option Addr} {n c m d s b : Nat} {t : Tw k} {a : El k}, Sl RE W p n c (ct (toT k t)) → Sl RQ W q m d (cl (toL k a)) →
    real k t → TS s k t → Sz s (toL k a) → 1 ≤ s → k ≤ 16 → eB s b k ≤ 274877906944 → b ≤ 274877906944 →
    Ok Tryz.prog 48 [.slice p n c, .slice q m d, .int .i64 (b : Int)] W fun W' v => V RV W' v (cp2 (enc k t a b)) := by
  induction k with
  | zero =>
    intro W p q n c m d s b t a h h' hR hT ha hs1 hk hs hb
    have hn : n = 0 := h.hn
    subst hn
    exact sign_enclose0 (a := a) h' (ha.qs (List.mem_singleton.2 rfl)) (Nat.le_trans hs (by decide))
  | succ k ih =>
    intro W p q n c m d s b t a h h' hR hT ha hs1 hk hs hb
    have hn : n = k + 1 := by rw [h.hn, ct, List.length_map, toT_length]
    have hm : m = 2 ^ (k + 1) := by rw [h'.hn, cl_length, toL_length]
    have hp := pow_le hk
    have hp1 : 2 ^ (k + 1) = 2 * 2 ^ k := by rw [Nat.pow_succ]; omega
    have hx : Sz s (toL k a.1) := Sz.left ha
    have hy : Sz s (toL k a.2) := Sz.right ha
    have hge := eB_ge s b k
    have hs' : 3 * eB s b k + 4 * b + 6 ≤ 274877906944 := hs
    have qu := enc_qs (b := b) hR.1 hT.1 hx hs1
    have qv := enc_qs (b := b) hR.1 hT.1 hy hs1
    have qr := enc_qs (b := b) hR.1 hT.1 hT.2 hs1
    have hhi := enc_hi hR b
    have qs := rts_qs (b := b) qr hhi (by omega)
    have qm := mulI_qs qv qs
    have qa := addI_qs qu qm
    have hc' := h'.hc
    have hC' := h'.hC
    have hcc := h.hc
    have hCC := h.hC
    have s32 := h'.take (2 ^ k) (by omega)
    rw [(cl_halves a).1] at s32
    have s37 := h'.drop (2 ^ k) (by omega)
    rw [(cl_halves a).2] at s37
    have s28 := h.take k (by omega)
    rw [ct_succ, List.take_left' (by rw [ct, List.length_map, toT_length])] at s28
    have hrr : (ct (toT (k + 1) t))[k]? = some (cl (toL k t.2)) := by
      rw [ct_succ, List.getElem?_append_right (by rw [ct, List.length_map, toT_length]; omega), ct, List.length_map, toT_length, Nat.sub_self]; rfl
    have hq : Int.tdiv (m : Int) 2 = ((2 ^ k : Nat) : Int) := by rw [show Int.tdiv (m : Int) 2 = ((m / 2 : Nat) : Int) from rfl]; omega
    refine Ok.enter Tryz.func48 rfl rfl rfl rfl fun W0 iEn => ?_
    refine J.seq <| J.reg rfl <| ?_
    refine O.allocE fun W6 b6 i6 e6 hl6 hc6 hz6 => ?_
    refine JO.nil <| J.seq <| J.seq <| J.reg rfl <| O.mv rfl <| O.len rfl <| O.eq rfl rfl <| JO.nil <| J.condD rfl (fun h15 => ?_) (fun h15 => ?_)
    · skip
      omega -- done
    · skip
      refine J.skip <| J.seq <| J.reg rfl <| O.mv rfl <| O.len rfl <| O.sb (r := (k : Int)) rfl rfl ((wI (by omega)).trans (by omega)) <| O.mv rfl <| O.len rfl <| O.quo (r := ((2 ^ k : Nat) : Int)) rfl rfl (by decide) (by rw [hq]; exact wI (by omega)) <| O.as rfl <| O.as rfl <| JO.nil <| J.seq <| J.reg rfl <| O.mv rfl <| O.mv rfl <| O.slh (hi := k) rfl rfl rfl (by omega) <| O.as rfl <| JO.nil <| J.seq <| J.reg rfl <| O.mv rfl <| O.mv rfl <| O.mv rfl <| O.slh (hi := 2 ^ k) rfl rfl rfl (by omega) <| O.mv rfl <| O.call rfl (ih s28.to s32.to hR.1 hT.1 hx hs1 (by omega) (by omega) hb) fun W34 v34 i34 e34 h34 => ?_
      refine O.allocE fun W10 b10 i10 e10 hl10 hc10 hz10 => ?_
      have n6_10 : b6 ≠ b10 := Nat.ne_of_lt (Nat.lt_of_lt_of_le (by exact hl6.to.lt) hz10)
      refine O.stT rfl rfl hl10.to h34.to rfl fun Ws1 is1 hb10 F10 => ?_
      have hl6 := F10.loc hl6.to n6_10
      refine JO.nil <| J.seq <| J.seq <| J.reg rfl <| O.mv rfl <| O.mv rfl <| O.sll (lo := 2 ^ k) rfl rfl rfl (by omega) <| ?_
      refine O.call rfl (tower_Zero_ok s37.to) fun W38 v38 i38 e38 h38 => ?_
      subst h38
      refine JO.nil <| J.condD rfl (fun h38 => ?_) (fun h38 => ?_)
      · skip
        have he : enc (k + 1) t a b = enc k t.1 a.1 b := if_pos h38
        refine J.seq <| J.reg rfl <| O.ldT rfl hb10.to.h rfl rfl (fun h => nomatch h) fun v39 h39 => ?_
        refine O.stT rfl rfl hl6.to h39.to rfl fun Ws2 is2 hb6 F6 => ?_
        refine JO.nil <| J.retT rfl rfl hb6.to.h rfl rfl fun W' v' iE iP hv' => ?_
        rw [he]
        exact hv'.to
      · skip
        have he : enc (k + 1) t a b = rnd (addI (enc k t.1 a.1 b) (mulI (enc k t.1 a.2 b) (rts (enc k t.1 t.2 b) b))) b := if_neg h38
        refine J.skip <| J.seq <| ?_
        obtain ⟨b49, o49, rfl, hj49, hb49⟩ := (h).placeP hrr
        refine J.drawN [.ex _, .ex _, .ex _, .ex _, .ex _, .rel _, .ex _, .ex _, .ex _, .ex _, .rel _, .ex _, .rel _, .rel _, .rel _] [false, false, false, false, false, false, false, false, false, false, false, false, false, true, true] [0, 0, 0, 1, 0, 2, 0, 0, 0, 1, 2, 0, 3, 0, 0] rfl rfl ⟨fun Wd id ed _ => O.mv rfl <| D.ex, fun Wd id ed _ => O.mv rfl <| D.ex, fun Wd id ed _ => O.mv rfl <| D.ex, fun Wd id ed _ => O.sll (lo := 2 ^ k) rfl rfl rfl (by omega) <| D.ex, fun Wd id ed _ => O.mv rfl <| D.ex, fun Wd id ed _ => O.call rfl (ih s28.to s37.to hR.1 hT.1 hy hs1 (by omega) (by omega) hb) fun Wd vd id ed hd => D.rel ed hd V.me, fun Wd id ed _ => O.mv rfl <| D.ex, fun Wd id ed _ => O.mv rfl <| D.ex, fun Wd id ed _ => O.mv rfl <| D.ex, fun Wd id ed _ => O.ia (j := k) rfl rfl rfl hj49 <| D.ex, fun Wd id ed _ => O.ldTD rfl hb49.to.h rfl rfl (fun _ => rfl), fun Wd id ed _ => O.mv rfl <| D.ex, fun Wd id ed _ => fun v50 h50 => fun v45 h45 => (by obtain ⟨p50, m50, c50, rfl, s50⟩ := h50.sl; exact O.call rfl (ih s28.to s50.to hR.1 hT.1 hT.2 hs1 (by omega) (by omega) hb) fun Wd vd id ed hd => D.rel ed hd V.me), fun Wd id ed _ => O.allocN (by rfl) ed.size, fun Wd id ed _ => O.allocN (by rfl) ed.size, trivial⟩ ?_
        intro Wr8 ir8 er8 v45 h45 v50 h50 v52 h52 v11 h11 ne11 v12 h12 ne12
        obtain ⟨p50, m50, c50, rfl, s50⟩ := h50.sl
        obtain ⟨b11, rfl, hl11, hz11⟩ := h11
        have n6_11 : b6 ≠ b11 := Nat.ne_of_lt (Nat.lt_of_lt_of_le (by exact hl6.to.lt) hz11)
        obtain ⟨b12, rfl, hl12, hz12⟩ := h12
        have n6_12 : b6 ≠ b12 := Nat.ne_of_lt (Nat.lt_of_lt_of_le (by exact hl6.to.lt) hz12)
        have n11_12 : b11 ≠ b12 := fun e => ne12.1 (by rw [e])
        refine O.stT rfl rfl hl11.to h45.to rfl fun Ws3 is3 hb11 F11 => ?_
        have hl6 := F11.loc hl6.to n6_11
        have hl12 := F11.loc hl12.to n11_12.symm
        refine O.stT rfl rfl hl12.to h52.to rfl fun Ws4 is4 hb12 F12 => ?_
        have hl6 := F12.loc hl6.to n6_12
        refine JO.nil <| J.seq <| ?_
        refine J.draw [.rel _, .rel _, .rel _, .ex _, .rel _, .rel _, .rel _, .ex _] rfl rfl ⟨fun Wd id ed _ => O.ldTD rfl hb10.to.h rfl rfl (fun h => nomatch h), fun Wd id ed _ => O.ldTD rfl hb11.to.h rfl rfl (fun h => nomatch h), fun Wd id ed _ => O.ldTD rfl hb12.to.h rfl rfl (fun h => nomatch h), fun Wd id ed _ => O.mv rfl <| D.ex, fun Wd id ed _ => fun v55 h55 => O.call rfl (sign_roots_ok h55.to qr.1 qr.2 hhi (by omega) (by omega) (by omega)) fun Wd vd id ed hd => D.rel ed hd V.me, fun Wd id ed _ => fun v54 h54 => fun _ _ => fun v57 h57 => O.call rfl (interval_Mul_ok h54.to h57.to qv.1 qv.2 qs.1 qs.2 (by omega)) fun Wd vd id ed hd => D.rel ed hd V.me, fun Wd id ed _ => fun v53 h53 => fun _ _ => fun v58 h58 => O.call rfl (interval_Add_ok h53.to h58.to qu.1 qu.2 qm.1 qm.2 (by omega)) fun Wd vd id ed hd => D.rel ed hd V.me, fun Wd id ed _ => O.mv rfl <| D.ex, trivial⟩ ?_
        intro Wr9 ir9 er9 v53 h53 v54 h54 v55 h55 v57 h57 v58 h58 v59 h59
        refine O.call rfl (sign_round_ok h59.to qa.1 qa.2 (by omega) (by omega)) fun W61 v61 i61 e61 h61 => ?_
        refine O.stT rfl rfl hl6.to h61.to rfl fun Ws5 is5 hb6 F6 => ?_
        refine JO.nil <| J.retT rfl rfl hb6.to.h rfl rfl fun W' v' iE iP hv' => ?_
        rw [he]
        exact hv'.to
end
section
/-- an interval without numbers in it -/
abbrev rv0 : Raw × Raw := (((false, []), (false, [])), ((false, []), (false, [])))
theorem eB_mono {s b b' : Nat} (h : b ≤ b') : ∀ k, eB s b k ≤ eB s b' k
  | 0 => Nat.le_refl _
  | k + 1 => by have := eB_mono (s := s) h k; show 3 * eB s b k + 4 * b + 6 ≤ 3 * eB s b' k + 4 * b' + 6; omega
theorem wid_iff {x y : Rat} {b : Nat} : cmpQ (y - x) (Rat.divInt 1 (2 ^ b)) ≤ 0 ↔ (y - x) * pw b ≤ 1 := by
  rw [cmpQ_le]
  have h := unit_eq b
  constructor
  · intro h1
    have := Rat.mul_le_mul_of_nonneg_right (show y - x ≤ Rat.divInt 1 (2 ^ b) by grind) (Rat.le_of_lt (pw_pos b))
    rwa [h] at this
  · intro h1 h2
    have := Rat.mul_pos (show 0 < y - x - Rat.divInt 1 (2 ^ b) by grind) (pw_pos b)
    grind
theorem rv0_v (W : GW) : V RV W (.agg #[.bool false, .slice none 0 0, .bool false, .slice none 0 0, .bool false, .slice none 0 0, .bool false, .slice none 0 0]) rv0 := ⟨_, ⟨_, _, rfl, rawz_at W, rawz_at W⟩, rfl⟩
section
variable {W : GW} {p q : Option Addr} {n c m d r s : Nat}
theorem sign_Enclose_no {t : List (List Raw)} {l : List Raw} {bits : Int} (hno : ¬ fine t [l] ∨ bits < 0 ∨ 1024 < bits) (h : Sl RE W p n c t) (h' : Sl RQ W q m d l) (hl : ∀ r ∈ t, ∀ i ∈ r, smallR i) (hl' : ∀ i ∈ l, smallR i) (hn16 : n ≤ 16) (hT : TSR r t) (hv : vB r n r ≤ 8796093022208) :
    Ok Tryz.prog 15 [.slice p n c, .slice q m d, .int .i64 bits] W fun W' v => V RV W' v rv0 := by
  have hn := h.hn
  refine Ok.enter Tryz.func15 rfl rfl rfl rfl fun W0 iEn => ?_
  refine J.seq <| J.reg rfl <| ?_
  refine O.allocE fun W6 b6 i6 e6 hl6 hc6 hz6 => ?_
  refine JO.nil <| J.seq <| J.seq <| J.reg rfl <| O.mv rfl <| O.lt rfl rfl <| O.mv rfl <| ?_
  by_cases hg13 : bits < 0
  · skip
    refine O.set (t := 13) (.bool true) rfl (by simp only [Value.bool.injEq, decide_eq_true_eq, decide_eq_false_iff_not]; omega) <| O.gs rfl rfl rfl <| O.gs rfl rfl rfl <| O.pickT rfl rfl <| O.mv rfl <| O.gs rfl rfl rfl <| O.gs rfl rfl rfl <| O.gs rfl rfl rfl <| O.gs rfl rfl rfl <| O.gs rfl rfl rfl <| O.pickT rfl rfl <| JO.nil <| J.condT rfl <| J.seq <| J.reg rfl <| O.bld0 <| ?_
    refine O.stT rfl rfl hl6.to (rv0_v _) rfl fun Ws1 is1 hb6 F6 => ?_
    refine JO.nil <| J.retT rfl rfl hb6.to.h rfl rfl fun W' v' iE iP hv' => ?_
    exact hv'.to
  · skip
    refine O.set (t := 13) (.bool false) rfl (by simp only [Value.bool.injEq, decide_eq_true_eq, decide_eq_false_iff_not]; omega) <| O.gt rfl rfl <| O.mv rfl <| O.gt rfl rfl <| O.gtr rfl rfl <| O.pickF rfl rfl <| O.mv rfl <| ?_
    by_cases hg17 : 1024 < bits
    · skip
      refine O.set (t := 17) (.bool true) rfl (by simp only [Value.bool.injEq, decide_eq_true_eq, decide_eq_false_iff_not]; omega) <| O.gs rfl rfl rfl <| O.gs rfl rfl rfl <| O.gs rfl rfl rfl <| O.gs rfl rfl rfl <| O.gs rfl rfl rfl <| O.pickT rfl rfl <| JO.nil <| J.condT rfl <| J.seq <| J.reg rfl <| O.bld0 <| ?_
      refine O.stT rfl rfl hl6.to (rv0_v _) rfl fun Ws2 is2 hb6 F6 => ?_
      refine JO.nil <| J.retT rfl rfl hb6.to.h rfl rfl fun W' v' iE iP hv' => ?_
      exact hv'.to
    · skip
      refine O.set (t := 17) (.bool false) rfl (by simp only [Value.bool.injEq, decide_eq_true_eq, decide_eq_false_iff_not]; omega) <| O.gt rfl rfl <| O.mv rfl <| O.gt rfl rfl <| O.mv rfl <| O.gt rfl rfl <| O.bs (r := RE) [l] rfl ⟨h'.to.v, trivial⟩ rfl rfl rfl (by decide) (.inr rfl) (by decide) fun W20 p20 i20 e20 s20 => O.gt rfl rfl <| O.call rfl (sign_good_ok h.to s20.to hl (fun r hr => by rw [List.mem_singleton.1 hr]; exact hl') hn16 hT hv) fun W21 v21 i21 e21 h21 => ?_
      obtain ⟨b, rfl, hb⟩ := h21
      obtain rfl : b = false := by cases b with | false => rfl | true => exact absurd (hb.1 rfl) (hno.elim id fun e => by omega)
      refine O.gt rfl rfl <| O.not rfl <| O.pickF rfl rfl <| JO.nil <| J.condT rfl <| J.seq <| J.reg rfl <| O.bld0 <| ?_
      refine O.stT rfl rfl hl6.to (rv0_v _) rfl fun Ws3 is3 hb6 F6 => ?_
      refine JO.nil <| J.retT rfl rfl hb6.to.h rfl rfl fun W' v' iE iP hv' => ?_
      exact hv'.to
theorem sign_Enclose_ok {k : Nat} {t : Tw k} {a : El k} {bits P : Nat} (hR : real k t) (hw : ∀ b, P ≤ b → Wid (enc k t a b) bits) (h : Sl RE W p n c (ct (toT k t))) (h' : Sl RQ W q m d (cl (toL k a))) (hT : TS s k t) (ha : Sz s (toL k a)) (hs1 : 1 ≤ s) (hk : k ≤ 16)
    (hv : vB s k s ≤ 8796093022208) (hb : bits ≤ 1024) (hP : P ≤ 1000000000) (he : eB s (2 * (P + bits + 16)) k ≤ 274877906944) :
    Ok Tryz.prog 15 [.slice p n c, .slice q m d, .int .i64 (bits : Int)] W fun W' v => ∃ x y, V RV W' v (cq x, cq y) ∧ inI k t a x y ∧ Wid (x, y) bits ∧ Qs (eB s (2 * (P + bits + 16)) k) x ∧ Qs (eB s (2 * (P + bits + 16)) k) y := by
  have hn : n = k := by rw [h.hn, ct_length]
  subst hn
  have hsb : s ≤ 8796093022208 := Nat.le_trans (vB_ge n s) hv
  have hTR : TSR s (ct (toT n t)) := fun j w e => by
    have e := ct_inj e
    obtain rfl : n = j := by rw [← toT_length n t, e, toT_length]
    rw [← toT_inj e]; exact hT
  obtain ⟨B, hB⟩ : ∃ B, B = eB s (2 * (P + bits + 16)) n := ⟨_, rfl⟩
  rw [← hB] at he ⊢
  have hq : ∀ b, b ≤ 2 * (P + bits + 16) → Q2 B (enc n t a b) := fun b hb => (enc_qs hR hT ha hs1).mono (by rw [hB]; exact eB_mono hb n)
  refine Ok.enter Tryz.func15 rfl rfl rfl rfl fun W0 iEn => ?_
  refine J.seq <| J.reg rfl <| ?_
  refine O.allocE fun W6 b6 i6 e6 hl6 hc6 hz6 => ?_
  refine JO.nil <| J.seq <| J.seq <| J.reg rfl <| O.mv rfl <| O.lt rfl rfl <| ?_
  refine O.set (t := 12) (.bool false) rfl (by simp only [Value.bool.injEq, decide_eq_false_iff_not]; omega) ?_
  refine O.mv rfl <| O.gt rfl rfl <| O.mv rfl <| O.gt rfl rfl <| O.gtr rfl rfl <| ?_
  refine O.set (t := 15) (.bool false) rfl (by simp only [Value.bool.injEq, decide_eq_false_iff_not]; omega) ?_
  refine O.pickF rfl rfl <| O.mv rfl <| O.gt rfl rfl <| O.mv rfl <| O.gt rfl rfl <| O.mv rfl <| O.gt rfl rfl <| O.bs (r := RE) [cl (toL n a)] rfl ⟨h'.to.v, trivial⟩ rfl rfl rfl (by decide) (.inr rfl) (by decide) fun W20 p20 i20 e20 s20 => O.gt rfl rfl <| O.call rfl (sign_good_ok h.to s20.to (small_ct hT (by omega)) (fun r hr => by rw [List.mem_singleton.1 hr]; exact small_cl ha.qs' (by omega)) hk hTR hv) fun W21 v21 i21 e21 h21 => ?_
  obtain ⟨b, rfl, hgb⟩ := h21
  obtain rfl : b = true := hgb.2 (fine_ct1 hR)
  refine O.gt rfl rfl <| O.not rfl <| O.pickF rfl rfl <| JO.nil <| J.condF rfl <| J.skip <| J.seq <| J.reg rfl <| O.call rfl (integer_FromInt_ok (z := 1) (by decide)) fun W26 v26 i26 e26 h26 => O.mv rfl <| O.call rfl (sign_power_ok (n := bits) (by omega)) fun W28 v28 i28 e28 h28 => O.call rfl (rational_Make_ok (p := bits + 1) (a := 1) (b := 2 ^ bits) h26.to h28.to (Zs.one (by omega)) (Zs.two (Nat.le_refl _)) (by omega) (two_ne bits)) fun W29 v29 i29 e29 h29 => ?_
  obtain ⟨v30, rfl, h30⟩ := h29
  refine O.mv rfl <| O.ext rfl rfl <| O.ext rfl rfl <| ?_
  refine O.allocE fun W7 b7 i7 e7 hl7 hc7 hz7 => ?_
  have n6_7 : b6 ≠ b7 := Nat.ne_of_lt (Nat.lt_of_lt_of_le (by exact hl6.to.lt) hz7)
  refine O.stT rfl rfl hl7.to h30.to rfl fun Ws1 is1 hb7 F7 => ?_
  have hl6 := F7.loc hl6.to n6_7
  refine O.as rfl <| JO.nil <| J.seq <| J.reg rfl <| O.mv rfl <| O.add (r := ((bits + 16 : Nat) : Int)) rfl rfl ((wI (by omega)).trans (by omega)) <| O.as rfl <| JO.nil <| J.block <| ?_
  refine J.loop (α := Nat) (fun g => [(0, .slice p n c), (1, .slice q m d), (6, .pointer (some ⟨b6, 0, none⟩)), (7, .pointer (some ⟨b7, 0, none⟩)), (9, .int .i64 (g : Int))]) (fun g W' => Le W0 W' ∧ Rx.Loc W' b6 8 ∧ Pt RQ W' b7 0 (cq (Rat.divInt 1 (2 ^ bits))) ∧ 1 ≤ g ∧ g ≤ 2 * (P + bits + 16)) (fun g => 2 * (P + bits + 16) - g) (bits + 16) ⟨rfl, rfl, rfl, rfl, rfl, trivial⟩ ⟨inferInstance, hl6.to, hb7.to, by omega, by omega⟩ ?_
  rintro g W3 ⟨_, hl6, hb7, hg1, hg⟩
  have hge := hq g hg
  have hin := enc_in hR a g
  have hle := enc_le hR a g
  have heB : eB s g n ≤ 274877906944 := Nat.le_trans (eB_mono hg n) (by omega)
  refine J.seq <| J.block <| J.seq <| J.reg rfl <| O.mv rfl <| O.mv rfl <| O.mv rfl <| O.call rfl (sign_enclose_ok h.to h'.to hR hT ha hs1 hk heB (by omega)) fun W39 v39 i39 e39 h39 => ?_
  refine O.allocE fun W10 b10 i10 e10 hl10 hc10 hz10 => ?_
  have n6_10 : b6 ≠ b10 := Nat.ne_of_lt (Nat.lt_of_lt_of_le (by exact hl6.to.lt) hz10)
  refine O.stT rfl rfl hl10.to h39.to rfl fun Ws2 is2 hb10 F10 => ?_
  have hl6 := F10.loc hl6.to n6_10
  refine JO.nil <| J.seq <| ?_
  refine J.draw [.rel _, .rel _, .rel _] rfl rfl ⟨fun Wd id ed _ => O.ldTD rfl hb10.to.h rfl rfl (fun h => nomatch h), fun Wd id ed _ => fun v40 h40 => O.call rfl (interval_Width_ok h40.to hge.1 hge.2 (by omega)) fun Wd vd id ed hd => D.rel ed hd V.me, fun Wd id ed _ => O.ldTD rfl hb7.to.h rfl rfl (fun h => nomatch h), trivial⟩ ?_
  intro Wr7 ir7 er7 v40 h40 v41 h41 v42 h42
  refine O.call rfl (rational_Cmp_ok h41.to h42.to (by rw [Rat.sub_eq_add_neg]; exact hge.2.add hge.1.neg) (unit_qs bits) (by omega) (by omega)) fun W43 v43 i43 e43 h43 => ?_
  subst h43
  refine O.le rfl rfl <| JO.nil <| J.condD rfl (fun h44 => ?_) (fun h44 => ?_)
  · skip
    refine J.seq <| J.reg rfl <| O.ldT rfl hb10.to.h rfl rfl (fun h => nomatch h) fun v45 h45 => ?_
    refine O.stT rfl rfl hl6.to h45.to rfl fun Ws3 is3 hb6 F6 => ?_
    refine JO.nil <| J.retT rfl rfl hb6.to.h rfl rfl fun W' v' iE iP hv' => ?_
    exact ⟨_, _, hv'.to, hin, ⟨hle, wid_iff.1 h44⟩, hge.1, hge.2⟩
  · skip
    refine J.skip <| J.bend <| J.reg rfl <| O.mv rfl <| O.mul (r := ((2 * g : Nat) : Int)) rfl rfl ((wI (by omega)).trans (by omega)) <| O.as rfl <| JO.nil <| ?_
    have hgP : g < P := by
      by_cases hgP : g < P
      · exact hgP
      · exact absurd (wid_iff.2 (hw g (by omega)).2) h44
    exact J.at' (2 * g) ⟨rfl, rfl, rfl, rfl, rfl, trivial⟩ ⟨⟨inferInstance, hl6.to, hb7.to, by omega, by omega⟩, by omega⟩
/-- the greatest integer that is not greater -/
def FloorOf (k : Nat) (t : Tw k) (a : El k) (z : Int) : Prop := le k t (rat k (z : Rat)) a ∧ sgn k t (add k a (neg k (rat k ((z + 1 : Int) : Rat)))) = -1
theorem lt_not {k : Nat} {t : Tw k} (h : real k t) {a b : El k} : sgn k t (add k a (neg k b)) = -1 ↔ ¬ le k t b a := by
  unfold le
  have := (sgn_ok h).tri (add k a (neg k b))
  omega
theorem FloorOf.uniq {k : Nat} {t : Tw k} {a : El k} {z z' : Int} (h : real k t) (i : FloorOf k t a z) (j : FloorOf k t a z') : z = z' := by
  have key : ∀ z z', FloorOf k t a z → FloorOf k t a z' → z ≤ z' := by
    intro z z' i j
    by_cases hz : z ≤ z'
    · exact hz
    · exact absurd (le_tr h ((le_ratI h).2 (Rat.intCast_le_intCast.2 (show z' + 1 ≤ z by omega))) i.1) ((lt_not h).1 j.2)
  have := key _ _ i j
  have := key _ _ j i
  omega
theorem floor_hi {k : Nat} {t : Tw k} {a : El k} {x y : Rat} (h : real k t) (i : inI k t a x y) (hw : Wid (x, y) 1) : (sgn k t (add k a (neg k (rat k (y.floor : Rat)))) < 0 → FloorOf k t a (y.floor - 1)) ∧ (¬ sgn k t (add k a (neg k (rat k (y.floor : Rat)))) < 0 → FloorOf k t a y.floor) := by
  have h1 := @Rat.floor_le y
  have h2 := @Rat.lt_floor y
  have h3 : (y - x) * 2 ≤ 1 := hw.2
  have e1 : ((1 : Int) : Rat) = 1 := rfl
  have hup : sgn k t (add k a (neg k (rat k ((y.floor + 1 : Int) : Rat)))) = -1 := by
    rw [lt_not h]
    intro hl
    have := (le_ratI h).1 (le_tr h hl i.2)
    rw [Rat.intCast_add, e1] at this
    grind
  refine ⟨fun hn => ⟨le_tr h ((le_ratI h).2 ?_) i.1, ?_⟩, fun hn => ⟨?_, hup⟩⟩
  · rw [Rat.intCast_sub, e1]
    grind
  · rw [show y.floor - 1 + 1 = y.floor by omega]
    have := (sgn_ok h).tri (add k a (neg k (rat k (y.floor : Rat))))
    omega
  · show 0 ≤ _
    omega
instance : TFv Tryz.prog 35 1 4 4 := ⟨⟨_, _, _, _, rfl, rfl, rfl, rfl, rfl, rfl, rfl⟩⟩
theorem sign_Floor_no {t : List (List Raw)} {l : List Raw} (hno : ¬ fine t [l]) (h : Sl RE W p n c t) (h' : Sl RQ W q m d l) (hl : ∀ r ∈ t, ∀ i ∈ r, smallR i) (hl' : ∀ i ∈ l, smallR i) (hn16 : n ≤ 16) (hT : TSR r t) (hv : vB r n r ≤ 8796093022208) :
    Ok Tryz.prog 20 [.slice p n c, .slice q m d] W fun W' v => V RI W' v (ci 0) := by
  have hn := h.hn
  refine Ok.enter Tryz.func20 rfl rfl rfl rfl fun W0 iEn => ?_
  refine J.seq <| J.reg rfl <| ?_
  refine O.allocE fun W4 b4 i4 e4 hl4 hc4 hz4 => ?_
  refine JO.nil <| J.seq <| J.seq <| J.reg rfl <| O.mv rfl <| O.mv rfl <| O.bs (r := RE) [l] rfl ⟨h'.to.v, trivial⟩ rfl rfl rfl (by decide) (.inr rfl) (by decide) fun W20 p20 i20 e20 s20 => O.call rfl (sign_good_ok h.to s20.to hl (fun r hr => by rw [List.mem_singleton.1 hr]; exact hl') hn16 hT hv) fun W11 v11 i11 e11 h11 => ?_
  obtain ⟨b, rfl, hb⟩ := h11
  obtain rfl : b = false := by cases b with | false => rfl | true => exact absurd (hb.1 rfl) hno
  refine O.not rfl <| JO.nil <| J.condT rfl <| J.seq <| J.reg rfl <| O.bld0 <| ?_
  refine O.stT rfl rfl hl4.to (mkI (nil_sl _ _ _)) rfl fun Ws1 is1 hb4 F4 => ?_
  refine JO.nil <| J.retT rfl rfl hb4.to.h rfl rfl fun W' v' iE iP hv' => ?_
  have e : ci 0 = (false, []) := by decide +kernel
  rw [e]
  exact hv'.to
theorem sign_Floor_ok {k : Nat} {t : Tw k} {a : El k} {P : Nat} (hR : real k t) (hw : ∀ b, P ≤ b → Wid (enc k t a b) 1) (h : Sl RE W p n c (ct (toT k t))) (h' : Sl RQ W q m d (cl (toL k a))) (hT : TS s k t) (ha : Sz s (toL k a)) (hs1 : 1 ≤ s) (hk : k ≤ 16)
    (hv : vB s k (s + eB s (2 * (P + 1 + 16)) k + 2) ≤ 8796093022208) (hP : P ≤ 1000000000) (he : eB s (2 * (P + 1 + 16)) k ≤ 274877906944) :
    Ok Tryz.prog 20 [.slice p n c, .slice q m d] W fun W' v => ∃ z, V RI W' v (ci z) ∧ FloorOf k t a z ∧ Zs (eB s (2 * (P + 1 + 16)) k + 1) z := by
  have hn : n = k := by rw [h.hn, ct_length]
  subst hn
  have hsB := Nat.le_trans (vB_ge (r := s) n _) hv
  have hv0 : vB s n s ≤ 8796093022208 := Nat.le_trans (vB_mono (by omega)) hv
  have hTR : TSR s (ct (toT n t)) := fun j w e => by
    have e := ct_inj e
    obtain rfl : n = j := by rw [← toT_length n t, e, toT_length]
    rw [← toT_inj e]; exact hT
  obtain ⟨B, hB⟩ : ∃ B, B = eB s (2 * (P + 1 + 16)) n := ⟨_, rfl⟩
  have hB1 : s ≤ B := by rw [hB]; exact eB_ge _ _ _
  have hE := @sign_Enclose_ok
  rw [← hB] at he hv hsB ⊢
  refine Ok.enter Tryz.func20 rfl rfl rfl rfl fun W0 iEn => ?_
  refine J.seq <| J.reg rfl <| ?_
  refine O.allocE fun W4 b4 i4 e4 hl4 hc4 hz4 => ?_
  refine JO.nil <| J.seq <| J.seq <| J.reg rfl <| O.mv rfl <| O.mv rfl <| O.bs (r := RE) [cl (toL n a)] rfl ⟨h'.to.v, trivial⟩ rfl rfl rfl (by decide) (.inr rfl) (by decide) fun W20 p20 i20 e20 s20 => O.call rfl (sign_good_ok h.to s20.to (small_ct hT (by omega)) (fun r hr => by rw [List.mem_singleton.1 hr]; exact small_cl ha.qs' (by omega)) hk hTR hv0) fun W11 v11 i11 e11 h11 => ?_
  obtain ⟨b, rfl, hgb⟩ := h11
  obtain rfl : b = true := hgb.2 (fine_ct1 hR)
  refine O.not rfl <| JO.nil <| J.condF rfl <| J.skip <| J.seq <| J.reg rfl <| O.mv rfl <| O.mv rfl <| O.call rfl (sign_Enclose_ok (bits := 1) (P := P) hR hw h.to h'.to hT ha hs1 hk hv0 (by decide) hP (by rw [← hB]; exact he)) fun W16 v16 i16 e16 h16 => ?_
  obtain ⟨x, y, h16, hin, hwd, qx, qy⟩ := h16
  rw [← hB] at qx qy
  have hz := Zs.floor qy
  have hfl := floor_hi hR hin hwd
  refine O.fldS rfl h16.to rfl rfl rfl fun v17 h17 => O.call rfl (rational_Floor_ok h17.to qy (by omega)) fun W18 v18 i18 e18 h18 => ?_
  refine O.allocE fun W5 b5 i5 e5 hl5 hc5 hz5 => ?_
  have n4_5 : b4 ≠ b5 := Nat.ne_of_lt (Nat.lt_of_lt_of_le (by exact hl4.to.lt) hz5)
  refine O.stM rfl rfl hl5.to h18.to rfl fun Ws1 is1 hk5 F5 => ?_
  refine JO.nil <| J.seq <| ?_
  refine J.drawM [.rel _, .rel _, .rel _, .rel _, .rel _, .ex _, .rel _] [false, false, false, false, false, false, true] 7 [5] [([], [[8]]), ([5], [[5, 8]])] (by decide +kernel) rfl rfl ⟨fun Wd id ed _ => O.ldTD rfl (hk5.ext ed).h rfl rfl (fun h => nomatch h), fun Wd id ed _ => O.call rfl (integer_FromInt_ok (z := 1) (by decide)) fun Wd vd id ed hd => D.rel ed hd V.me, fun Wd id ed _ => fun v20 h20 => fun _ _ => fun v21 h21 => O.call rfl (rational_Make_ok (p := B) (a := y.floor) (b := 1) h20.to h21.to hz (Zs.one (by omega)) (by omega) (by decide)) fun Wd vd id ed hd => D.rel (R := TV RQ _) ed hd TV.me, fun Wd id ed _ => fun v22 h22 => O.mv rfl <| D.rel (R := TV RQ (cq (Rat.divInt y.floor 1))) (Ext.refl _) h22 TV.me, fun Wd id ed _ => fun v19 h19 => (by obtain ⟨v1, rfl, hv1⟩ := h19; exact O.ext rfl rfl <| D.rel (R := fun W v => V RQ W v (cq (y.floor : Rat))) (Ext.refl _) (by rw [divInt1] at hv1; exact hv1) V.me), fun Wd id ed _ => fun v19 h19 => (by obtain ⟨v1, rfl, hv1⟩ := h19; exact O.ext rfl rfl <| D.ex), fun Wd id ed _ => O.allocN (by rfl) ed.size, trivial⟩ ⟨⟨?_, trivial⟩, ⟨?_, trivial⟩, trivial⟩
  · skip
    intro Wr4 ir4 er4 v20 h20 v21 h21 v22 h22 v19 h19 v23 h23 v6 h6 ne6
    obtain ⟨b6, rfl, hl6, hz6⟩ := h6
    have n4_6 : b4 ≠ b6 := Nat.ne_of_lt (Nat.lt_of_lt_of_le (by exact hl4.to.lt) hz6)
    have n5_6 : b5 ≠ b6 := Nat.ne_of_lt (Nat.lt_of_lt_of_le (by exact hl5.to.lt) hz6)
    obtain ⟨v1, rfl, hv1⟩ := h19
    refine O.stT rfl rfl hl6.to h23.to rfl fun Ws2 is2 hb6 F6 => ?_
    have hl4 := F6.loc hl4.to n4_6
    have hl5 := F6.loc hl5.to n5_6
    have hk5 := (hk5.ext er4).stf F6 n5_6
    refine O.as rfl <| JO.nil <| J.seq <| J.seq <| J.reg rfl <| O.mv rfl <| O.mv rfl <| O.mv rfl <| O.mv rfl <| O.ldT rfl hb6.to.h rfl rfl (fun h => nomatch h) fun v29 h29 => ?_
    refine O.call rfl (tower_FromRat_ok h.to h29.to hT (smallR_cq (p := B) (Qs.int hz (by omega)) (by omega)) hk (by omega)) fun W30 v30 i30 e30 h30 => ?_
    obtain ⟨p30, m30, c30, rfl, s30⟩ := h30.sl
    refine O.call rfl (tower_Sub_ok h.to h'.to s30.to hT ha (Sz.rat n (Qs.int hz (by omega))) (by omega) (by omega) (by omega)) fun W31 v31 i31 e31 h31 => ?_
    obtain ⟨p31, m31, c31, rfl, s31⟩ := h31.sl
    refine O.call rfl (sign_value_ok h.to s31.to hT (s := s + B + 2) (by rw [toL_add, toL_neg]; exact (ha.add (Sz.rat n (Qs.int hz (by omega))).neg).mono (by omega)) hk hv (by omega)) fun W32 v32 i32 e32 h32 => ?_
    subst h32
    refine O.lt rfl rfl <| JO.nil <| J.condD rfl (fun h33 => ?_) (fun h33 => ?_)
    · skip
      refine J.draw [.rel _, .rel _] rfl rfl ⟨fun Wd id ed _ => O.ldTD rfl ((((hk5.ext e30).ext e31).ext e32).ext ed).h rfl rfl (fun h => nomatch h), fun Wd id ed _ => O.call rfl (integer_FromInt_ok (z := 1) (by decide)) fun Wd vd id ed hd => D.rel ed hd V.me, trivial⟩ ?_
      intro Wr6 ir6 er6 v34 h34 v35 h35
      refine O.call rfl (integer_Sub_ok h34.to h35.to (hz.len (by omega)) ((Zs.one (p := 1) (by decide)).len (by decide))) fun W36 v36 i36 e36 h36 => ?_
      refine O.stM rfl rfl hl5.to h36.to rfl fun Ws3 is3 hk5 F5 => ?_
      refine JO.nil <| J.seq <| J.reg rfl <| O.ldT rfl hk5.h rfl rfl (fun h => nomatch h) fun v37 h37 => ?_
      refine O.stT rfl rfl hl4.to h37.to rfl fun Ws4 is4 hb4 F4 => ?_
      have hl5 := F4.loc hl5.to n4_5.symm
      have hk5 := hk5.stf F4 n4_5.symm
      refine JO.nil <| J.retT rfl rfl hb4.to.h rfl rfl fun W' v' iE iP hv' => ?_
      exact ⟨_, hv'.to, hfl.1 h33, by rw [Int.sub_eq_add_neg]; exact (hz.add (Zs.one (p := B) (by omega)).neg).mono (by omega)⟩
    · skip
      refine J.skip <| J.seq <| J.reg rfl <| O.ldT rfl (((hk5.ext e30).ext e31).ext e32).h rfl rfl (fun h => nomatch h) fun v37 h37 => ?_
      refine O.stT rfl rfl hl4.to h37.to rfl fun Ws5 is5 hb4 F4 => ?_
      have hl5 := F4.loc hl5.to n4_5.symm
      have hk5 := (((hk5.ext e30).ext e31).ext e32).stf F4 n4_5.symm
      refine JO.nil <| J.retT rfl rfl hb4.to.h rfl rfl fun W' v' iE iP hv' => ?_
      exact ⟨_, hv'.to, hfl.2 h33, hz.mono (by omega)⟩
  · skip
    intro Wr4 ir4 er4 v20 h20 v21 h21 v22 h22 v19 h19 v23 h23 v6 h6 ne6
    obtain ⟨b6, rfl, hl6, hz6⟩ := h6
    have n4_6 : b4 ≠ b6 := Nat.ne_of_lt (Nat.lt_of_lt_of_le (by exact hl4.to.lt) hz6)
    have n5_6 : b5 ≠ b6 := Nat.ne_of_lt (Nat.lt_of_lt_of_le (by exact hl5.to.lt) hz6)
    obtain ⟨v1, rfl, hv1⟩ := h19
    refine O.stT rfl rfl hl6.to h23.to rfl fun Ws6 is6 hb6 F6 => ?_
    have hl4 := F6.loc hl4.to n4_6
    have hl5 := F6.loc hl5.to n5_6
    have hk5 := (hk5.ext er4).stf F6 n5_6
    refine O.ext rfl rfl <| O.as rfl <| JO.nil <| J.seq <| J.seq <| J.reg rfl <| O.mv rfl <| O.mv rfl <| O.mv rfl <| O.mv rfl <| O.ldT rfl hb6.to.h rfl rfl (fun h => nomatch h) fun v29 h29 => ?_
    refine O.call rfl (tower_FromRat_ok h.to h29.to hT (smallR_cq (p := B) (Qs.int hz (by omega)) (by omega)) hk (by omega)) fun W30 v30 i30 e30 h30 => ?_
    obtain ⟨p30, m30, c30, rfl, s30⟩ := h30.sl
    refine O.call rfl (tower_Sub_ok h.to h'.to s30.to hT ha (Sz.rat n (Qs.int hz (by omega))) (by omega) (by omega) (by omega)) fun W31 v31 i31 e31 h31 => ?_
    obtain ⟨p31, m31, c31, rfl, s31⟩ := h31.sl
    refine O.call rfl (sign_value_ok h.to s31.to hT (s := s + B + 2) (by rw [toL_add, toL_neg]; exact (ha.add (Sz.rat n (Qs.int hz (by omega))).neg).mono (by omega)) hk hv (by omega)) fun W32 v32 i32 e32 h32 => ?_
    subst h32
    refine O.lt rfl rfl <| JO.nil <| J.condD rfl (fun h33 => ?_) (fun h33 => ?_)
    · skip
      refine J.draw [.rel _, .rel _] rfl rfl ⟨fun Wd id ed _ => O.ldTD rfl ((((hk5.ext e30).ext e31).ext e32).ext ed).h rfl rfl (fun h => nomatch h), fun Wd id ed _ => O.call rfl (integer_FromInt_ok (z := 1) (by decide)) fun Wd vd id ed hd => D.rel ed hd V.me, trivial⟩ ?_
      intro Wr6 ir6 er6 v34 h34 v35 h35
      refine O.call rfl (integer_Sub_ok h34.to h35.to (hz.len (by omega)) ((Zs.one (p := 1) (by decide)).len (by decide))) fun W36 v36 i36 e36 h36 => ?_
      refine O.stM rfl rfl hl5.to h36.to rfl fun Ws7 is7 hk5 F5 => ?_
      refine JO.nil <| J.seq <| J.reg rfl <| O.ldT rfl hk5.h rfl rfl (fun h => nomatch h) fun v37 h37 => ?_
      refine O.stT rfl rfl hl4.to h37.to rfl fun Ws8 is8 hb4 F4 => ?_
      have hl5 := F4.loc hl5.to n4_5.symm
      have hk5 := hk5.stf F4 n4_5.symm
      refine JO.nil <| J.retT rfl rfl hb4.to.h rfl rfl fun W' v' iE iP hv' => ?_
      exact ⟨_, hv'.to, hfl.1 h33, by rw [Int.sub_eq_add_neg]; exact (hz.add (Zs.one (p := B) (by omega)).neg).mono (by omega)⟩
    · skip
      refine J.skip <| J.seq <| J.reg rfl <| O.ldT rfl (((hk5.ext e30).ext e31).ext e32).h rfl rfl (fun h => nomatch h) fun v37 h37 => ?_
      refine O.stT rfl rfl hl4.to h37.to rfl fun Ws9 is9 hb4 F4 => ?_
      have hl5 := F4.loc hl5.to n4_5.symm
      have hk5 := (((hk5.ext e30).ext e31).ext e32).stf F4 n4_5.symm
      refine JO.nil <| J.retT rfl rfl hb4.to.h rfl rfl fun W' v' iE iP hv' => ?_
      exact ⟨_, hv'.to, hfl.2 h33, hz.mono (by omega)⟩
end
end
end Go.Proofs.YtklnoajdhknfnaaGreat
