/- The reference's boxes. -/
import Derived.Test.YtklnoajdhknfnaaGreatSn
set_option linter.unusedVariables false
set_option linter.unusedSimpArgs false
set_option maxRecDepth 10000
set_option maxHeartbeats 4000000
namespace Go.Proofs.YtklnoajdhknfnaaGreat
open Go Go.Rx Go.Num Go.Tow
section
noncomputable def rtb (p : Rat × Rat) (b : Nat) : Rat × Rat := (sqLo (mx0 p.1) b, sqHi p.2 b)
noncomputable def bx : (k : Nat) → Tw k → El k → Nat → Rat × Rat
  | 0 => fun _ (x : Rat) _ => (x, x)
  | k + 1 => fun t a b => rnd (addI (bx k t.1 a.1 b) (mulI (bx k t.1 a.2 b) (rtb (bx k t.1 t.2 b) b))) (b + 20)
theorem sqHi_eq (x : Rat) (b : Nat) : sqHi x b * pw b = ((sqUp (sq2 x b) : Int) : Rat) := by
  unfold sqHi
  rw [Rat.divInt_eq_div]
  have h := pw_pos b
  show ((sqUp (sq2 x b) : Int) : Rat) / pw b * pw b = _
  rw [Rat.div_mul_cancel (by grind)]
theorem sqUp_or (x : Rat) : (sqUp x = rtF x ∧ x ≤ ((rtF x : Int) : Rat) * ((rtF x : Int) : Rat)) ∨ sqUp x = rtF x + 1 := by
  unfold sqUp
  split
  · exact .inr rfl
  · rename_i h
    rw [Rat.intCast_mul] at h
    exact .inl ⟨rfl, by grind⟩
theorem sqUp_cast (x : Rat) : ((rtF x : Int) : Rat) ≤ ((sqUp x : Int) : Rat) ∧ ((sqUp x : Int) : Rat) ≤ ((rtF x : Int) : Rat) + 1 ∧ (0 ≤ x → x ≤ ((sqUp x : Int) : Rat) * ((sqUp x : Int) : Rat)) := by
  have e1 : ((1 : Int) : Rat) = 1 := rfl
  rcases sqUp_or x with ⟨h, h2⟩ | h
  · rw [h]; exact ⟨Rat.le_refl, by grind, fun _ => h2⟩
  · have e : ((sqUp x : Int) : Rat) = ((rtF x : Int) : Rat) + 1 := by
      rw [h, ← e1, ← Rat.intCast_add]; congr 1
    rw [e]
    exact ⟨by grind, Rat.le_refl, fun h0 => Rat.le_of_lt (rtF_hi h0)⟩
theorem rtb_of (r : Rat × Rat) (b : Nat) : RtOf r b (rtb r b) := by
  have h := sqUp_cast (sq2 r.2 b)
  have hp := pw_pos b
  refine ⟨rfl, ?_, ?_⟩
  · refine Rat.le_of_mul_le_mul_right ?_ hp
    rw [sqLo_eq]
    show _ ≤ sqHi r.2 b * pw b
    rw [sqHi_eq]; exact h.1
  · refine Rat.le_of_mul_le_mul_right ?_ hp
    show sqHi r.2 b * pw b ≤ _
    have e := sqLo_eq r.2 b
    have e2 := unit_eq b
    have e3 := sqHi_eq r.2 b
    have h2 := h.2.1
    grind
theorem sqHi_sq' {x : Rat} {b : Nat} (h : 0 ≤ x) : x ≤ sqHi x b * sqHi x b := by
  have hp := pw_pos b
  have hpp := Rat.mul_pos hp hp
  refine Rat.le_of_mul_le_mul_right ?_ hpp
  have h1 := (sqUp_cast (sq2 x b)).2.2 (sq2_nn h)
  rw [← sqHi_eq] at h1
  have h3 : sq2 x b = x * (pw b * pw b) := rfl
  rw [← h3]
  have h4 : sqHi x b * sqHi x b * (pw b * pw b) = sqHi x b * pw b * (sqHi x b * pw b) := by grind
  rw [h4]; exact h1
theorem sqHi_qs {s : Nat} {x : Rat} (h : Qs s x) (h0 : 0 ≤ x) (b : Nat) : Qs (s + (2 * b + 3)) (sqHi x b) := by
  refine Qs.divInt ?_ (Zs.two (by omega)) (two_ne b)
  have h1 := rtF_zs (sq2_qs (b := b) h) (sq2_nn h0)
  rcases sqUp_or (sq2 x b) with ⟨e, _⟩ | e <;> rw [e]
  · exact h1.mono (by omega)
  · exact (h1.add (Zs.one (p := 1) (by decide))).mono (by omega)
theorem lo_or {x : Rat} {b : Nat} : sqLo (mx0 x) b * sqLo (mx0 x) b ≤ x ∨ sqLo (mx0 x) b = 0 := by
  have h1 := sqLo_sq (b := b) (mx0_nn x)
  by_cases h0 : x < 0
  · right
    have e : mx0 x = 0 := if_pos h0
    rw [e] at h1 ⊢
    have h2 := sqLo_nn 0 b
    by_cases h3 : sqLo 0 b = 0
    · exact h3
    · have := Rat.mul_pos (show 0 < sqLo 0 b by grind) (show 0 < sqLo 0 b by grind)
      grind
  · left
    have e : mx0 x = x := if_neg h0
    rw [e] at h1 ⊢
    exact h1
theorem sgn_hi {k : Nat} {t : Tw (k + 1)} (h : real (k + 1) t) {x y : Rat} (i : inI k t.1 t.2 x y) : 0 ≤ y := by
  have h0 : le k t.1 (rat k 0) t.2 := (nn_iff h.1).2 (by rw [h.2]; decide)
  exact (le_ratI h.1).1 (le_tr h.1 h0 i.2)
theorem step_in {k : Nat} {t : Tw (k + 1)} (h : real (k + 1) t) {a : El (k + 1)} {u v r s : Rat × Rat} {b b' : Nat} (iu : inI k t.1 a.1 u.1 u.2) (iv : inI k t.1 a.2 v.1 v.2) (ir : inI k t.1 t.2 r.1 r.2) (R : RtOf r b s) (hs : r.2 ≤ s.2 * s.2) :
    inI (k + 1) t a (rnd (addI u (mulI v s)) b').1 (rnd (addI u (mulI v s)) b').2 := by
  have iu := inI_up (t := t) h.1 iu
  have iv := inI_up (t := t) h.1 iv
  have hr2 := sgn_hi h ir
  have h0 : 0 ≤ s.1 := by rw [R.lo]; exact sqLo_nn _ _
  have h2 : 0 ≤ s.2 := Rat.le_trans (sqLo_nn _ _) R.l
  have is := in_root h ir (c := s.1) (d := s.2) h0 h2 (by rw [R.lo]; exact lo_or) hs
  have im := inI_mul h iv is h0 (mulI_le v s).1 (mulI_le v s).2.1 (mulI_ge v s).2.2.1 (mulI_ge v s).2.2.2
  have ia := inI_add h iu im
  rw [← el_split a] at ia
  exact inI_mono h ia (dnQ_le _ _) (upQ_ge _ _)
theorem bx_succ {k : Nat} {t : Tw (k + 1)} {a : El (k + 1)} {b : Nat} : bx (k + 1) t a b = rnd (addI (bx k t.1 a.1 b) (mulI (bx k t.1 a.2 b) (rtb (bx k t.1 t.2 b) b))) (b + 20) := rfl
theorem bx_in : ∀ {k : Nat} {t : Tw k} (h : real k t) (a : El k) (b : Nat), inI k t a (bx k t a b).1 (bx k t a b).2
  | 0, t, h, a, b => ⟨(sgn_ok h).le_rf (ring 0 t) a, (sgn_ok h).le_rf (ring 0 t) a⟩
  | k + 1, t, h, a, b => by
    have hu := bx_in h.1 a.1 b
    have hv := bx_in h.1 a.2 b
    have hr := bx_in h.1 t.2 b
    have hs : (bx k t.1 t.2 b).2 ≤ (rtb (bx k t.1 t.2 b) b).2 * (rtb (bx k t.1 t.2 b) b).2 := sqHi_sq' (sgn_hi h hr)
    have R := rtb_of (bx k t.1 t.2 b) b
    rw [bx_succ]
    generalize rtb (bx k t.1 t.2 b) b = s at *
    exact step_in h hu hv hr R hs
theorem bx_le {k : Nat} {t : Tw k} (h : real k t) (a : El k) (b : Nat) : (bx k t a b).1 ≤ (bx k t a b).2 := inI_le h (bx_in h a b)
theorem rtb_le {r : Rat × Rat} {b : Nat} (h0 : 0 ≤ r.2) (h : r.1 ≤ r.2) : (rtb r b).1 ≤ (rtb r b).2 := by
  have hm : mx0 r.1 ≤ r.2 := by unfold mx0; split <;> assumption
  exact Rat.le_trans (sqLo_mono (b := b) (mx0_nn _) hm) (rtb_of r b).l
theorem bx_mg : ∀ {k : Nat} {t : Tw k} {a : El k} {m : Nat} (b : Nat), real k t → MgT m k t → MgL m (toL k a) → Mg (bx k t a b) (mW m k)
  | 0, t, a, m, b, h, hT, ha => mg_qs (ha _ (List.mem_singleton.2 rfl))
  | k + 1, t, a, m, b, h, hT, ha => by
    have hu := bx_mg (a := a.1) b h.1 hT.1 fun x hx => ha x (List.mem_append_left _ hx)
    have hv := bx_mg (a := a.2) b h.1 hT.1 fun x hx => ha x (List.mem_append_right _ hx)
    have hr := bx_mg b h.1 hT.1 hT.2
    have h0 := sgn_hi h (bx_in h.1 t.2 b)
    rw [bx_succ]
    exact step_mg hu hv hr h0 (rtb_le h0 (bx_le h.1 _ _)) (bx_le h.1 _ _) (rtb_of _ b)
theorem bx_wd : ∀ {k : Nat} {t : Tw k} {a : El k} {m b : Nat}, real k t → MgT m k t → MgL m (toL k a) → 0 < eW m b k → Wid (bx k t a b) (eW m b k)
  | 0, t, a, m, b, h, hT, ha, he => ⟨Rat.le_refl, (fun (x : Rat) => (by grind : (x - x) * pw (eW m b 0) ≤ 1)) a⟩
  | k + 1, t, a, m, b, h, hT, ha, he => by
    have he' : 0 < eW m b k / 2 - (mW m k + 3) := he
    have hle := eW_le m b k
    have hu := bx_wd (a := a.1) (m := m) (b := b) h.1 hT.1 (fun x hx => ha x (List.mem_append_left _ hx)) (by omega)
    have hv := bx_wd (a := a.2) (m := m) (b := b) h.1 hT.1 (fun x hx => ha x (List.mem_append_right _ hx)) (by omega)
    have hr := bx_wd (m := m) (b := b) h.1 hT.1 hT.2 (by omega)
    have mv := bx_mg (a := a.2) b h.1 hT.1 fun x hx => ha x (List.mem_append_right _ hx)
    have mr := bx_mg b h.1 hT.1 hT.2
    have h0 := sgn_hi h (bx_in h.1 t.2 b)
    rw [bx_succ]
    exact step_wd hu hv hr mv mr h0 (rtb_of _ b) (by omega) (by omega) (by omega)
def bB (s b : Nat) : Nat → Nat
  | 0 => s
  | k + 1 => 3 * bB s b k + 3 * b + 30
theorem bB_ge (s b : Nat) : ∀ k, s ≤ bB s b k
  | 0 => Nat.le_refl _
  | k + 1 => by have := bB_ge s b k; show s ≤ 3 * bB s b k + 3 * b + 30; omega
theorem rtb_qs {s b : Nat} {p : Rat × Rat} (h : Q2 s p) (h0 : 0 ≤ p.2) (hs : 1 ≤ s) : Q2 (s + 2 * b + 3) (rtb p b) :=
  ⟨(sqLo_qs (mx0_qs h.1 hs) (mx0_nn _) b).mono (by omega), (sqHi_qs h.2 h0 b).mono (by omega)⟩
theorem bx_qs : ∀ {k : Nat} {t : Tw k} {a : El k} {s b : Nat}, real k t → TS s k t → Sz s (toL k a) → 1 ≤ s → Q2 (bB s b k) (bx k t a b)
  | 0, t, a, s, b, h, hT, ha, hs => ⟨ha.qs (List.mem_singleton.2 rfl), ha.qs (List.mem_singleton.2 rfl)⟩
  | k + 1, t, a, s, b, h, hT, ha, hs => by
    have hu := bx_qs (b := b) h.1 hT.1 (Sz.left (l := toL k a.1) (m := toL k a.2) ha) hs
    have hv := bx_qs (b := b) h.1 hT.1 (Sz.right (l := toL k a.1) (m := toL k a.2) ha) hs
    have hr := bx_qs (b := b) h.1 hT.1 hT.2 hs
    have hge := bB_ge s b k
    rw [bx_succ]
    exact (rnd_qs (addI_qs hu (mulI_qs hv (rtb_qs hr (sgn_hi h (bx_in h.1 t.2 b)) (by omega)))) (b + 20)).mono (by show _ ≤ 3 * bB s b k + 3 * b + 30; omega)
end
section
theorem hull_add {a b c d : Rat} (h : a ≤ b) (h' : c ≤ d) : hl (a + c) [a + d, b + c, b + d] = (cq (a + c), cq (b + d)) := by
  have e1 : minL (a + c) [a + d, b + c, b + d] = a + c := by
    show lo2 (lo2 (lo2 (a + c) (a + d)) (b + c)) (b + d) = a + c
    have x1 : lo2 (a + c) (a + d) = a + c := if_neg (by grind)
    have x2 : lo2 (a + c) (b + c) = a + c := if_neg (by grind)
    have x3 : lo2 (a + c) (b + d) = a + c := if_neg (by grind)
    rw [x1, x2, x3]
  have e2 : maxL (a + c) [a + d, b + c, b + d] = b + d := by
    show hi2 (hi2 (hi2 (a + c) (a + d)) (b + c)) (b + d) = b + d
    have key : ∀ x, x ≤ b + d → hi2 x (b + d) = b + d := fun x hx => by
      unfold hi2
      split
      · rfl
      · grind
    apply key
    have hb1 : ∀ x y, x ≤ b + d → y ≤ b + d → hi2 x y ≤ b + d := fun x y hx hy => by unfold hi2; split <;> assumption
    exact hb1 _ _ (hb1 _ _ (by grind) (by grind)) (by grind)
  unfold hl
  rw [e1, e2]
theorem mulI_le2 (p q : Rat × Rat) : (mulI p q).1 ≤ (mulI p q).2 := Rat.le_trans (mulI_le p q).1 (mulI_ge p q).1
section
variable {W : GW} {v v' : Value} {P Q : Rat × Rat} {s t b : Nat}
theorem ref03_Mul_p (h : V RV W v (cp2 P)) (h' : V RV W v' (cp2 Q)) (hP : Q2 s P) (hQ : Q2 t Q) (hs : s + t + 1 ≤ 4398046511104) :
    Ok Tryz.prog 107 [v, v'] W fun W' r => V RV W' r (cp2 (mulI P Q)) := ref03_Mul_ok h h' hP.1 hP.2 hQ.1 hQ.2 hs
theorem ref03_Add_p (h : V RV W v (cp2 P)) (h' : V RV W v' (cp2 Q)) (hP : Q2 s P) (hQ : Q2 t Q) (lP : P.1 ≤ P.2) (lQ : Q.1 ≤ Q.2) (hs : s + t + 1 ≤ 4398046511104) :
    Ok Tryz.prog 106 [v, v'] W fun W' r => V RV W' r (cp2 (addI P Q)) := by
  have := ref03_Add_ok h h' hP.1 hP.2 hQ.1 hQ.2 hs
  rw [hull_add lP lQ] at this
  exact this
theorem ref03_Round_p (h : V RV W v (cp2 P)) (hP : Q2 s P) (hb : b ≤ 4096) (hs : s ≤ 4398046511104) :
    Ok Tryz.prog 105 [v, .int .i64 (b : Int)] W fun W' r => V RV W' r (cp2 (rnd P b)) := ref03_Round_ok h hP.1 hP.2 hb hs
theorem ref03_Sqrt_p {x : Rat} (h : V RV W v (cq x, cq P.2)) (hx : x = mx0 P.1) (hs1 : 1 ≤ s) (hP : Q2 s P) (hP0 : 0 ≤ P.2) (hb : b ≤ 4096) (hs : s ≤ 1099511627776) :
    Ok Tryz.prog 104 [v, .int .i64 (b : Int)] W fun W' r => ∃ v1, r = .tuple #[v1, .int .i64 0] ∧ V RV W' v1 (cp2 (rtb P b)) := by
  subst hx
  exact ref03_Sqrt_ok h (mx0_qs hP.1 hs1) hP.2 (mx0_nn _) hP0 hb hs
end
theorem ref07_Box0 {W : GW} {p q : Option Addr} {c m d b : Nat} {a : Rat} (h' : Sl RQ W q m d (cl [a])) :
    Ok Tryz.prog 60 [.slice p 0 c, .slice q m d, .int .i64 (b : Int)] W fun W' v => V RV W' v (cq a, cq a) := by
  refine Ok.enter Tryz.func60 rfl rfl rfl rfl fun W0 iEn => ?_
  refine J.seq <| J.reg rfl <| ?_
  refine O.allocE fun W6 b6 i6 e6 hl6 hc6 hz6 => ?_
  refine JO.nil <| J.seq <| J.seq <| J.reg rfl <| O.mv rfl <| O.len rfl <| O.eq rfl rfl <| JO.nil <| J.condD rfl (fun h15 => ?_) (fun h15 => ?_)
  · skip
    refine J.seq <| J.reg rfl <| O.mv rfl <| O.iaT (j := 0) rfl rfl rfl h'.to (show (cl [a])[0]? = some (cq a) from rfl) rfl fun b17 o17 hb17 => O.ldT rfl hb17.to.h rfl rfl (fun h => nomatch h) fun v18 h18 => O.call rfl (ref03_Point_ok h18.to) fun W19 v19 i19 e19 h19 => ?_
    refine O.stT rfl rfl hl6.to h19.to rfl fun Ws1 is1 hb6 F6 => ?_
    refine JO.nil <| J.retT rfl rfl hb6.to.h rfl rfl fun W' v' iE iP hv' => ?_
    exact hv'.to
  · skip
    exact absurd rfl h15 -- done
theorem ref07_Box_ok {k : Nat} : ∀ {W : GW} {p q : Option Addr} {n c m d s b : Nat} {t : Tw k} {a : El k}, Sl RE W p n c (ct (toT k t)) → Sl RQ W q m d (cl (toL k a)) →
    real k t → TS s k t → Sz s (toL k a) → 1 ≤ s → k ≤ 16 → bB s b k ≤ 274877906944 → b ≤ 4076 →
    Ok Tryz.prog 60 [.slice p n c, .slice q m d, .int .i64 (b : Int)] W fun W' v => V RV W' v (cp2 (bx k t a b)) := by
  induction k with
  | zero =>
    intro W p q n c m d s b t a h h' hR hT ha hs1 hk hs hb
    have hn : n = 0 := h.hn
    subst hn
    exact ref07_Box0 (a := a) h'
  | succ k ih =>
    intro W p q n c m d s b t a h h' hR hT ha hs1 hk hs hb
    have hn : n = k + 1 := by rw [h.hn, ct, List.length_map, toT_length]
    have hm : m = 2 ^ (k + 1) := by rw [h'.hn, cl_length, toL_length]
    have hp := pow_le hk
    have hp1 : 2 ^ (k + 1) = 2 * 2 ^ k := by rw [Nat.pow_succ]; omega
    have hx : Sz s (toL k a.1) := Sz.left ha
    have hy : Sz s (toL k a.2) := Sz.right ha
    have hge := bB_ge s b k
    have hs' : 3 * bB s b k + 3 * b + 30 ≤ 274877906944 := hs
    have qu := bx_qs (b := b) hR.1 hT.1 hx hs1
    have qv := bx_qs (b := b) hR.1 hT.1 hy hs1
    have qr := bx_qs (b := b) hR.1 hT.1 hT.2 hs1
    have hhi := sgn_hi hR (bx_in hR.1 t.2 b)
    have qs := rtb_qs (b := b) qr hhi (by omega)
    have qm := mulI_qs qv qs
    have qa := addI_qs qu qm
    have lu := bx_le hR.1 a.1 b
    have hbx := bx_succ (t := t) (a := a) (b := b)
    have hc' := h'.hc
    have hC' := h'.hC
    have hcc := h.hc
    have hCC := h.hC
    have s30 := h'.take (2 ^ k) (by omega)
    rw [(cl_halves a).1] at s30
    have s40 := h'.drop (2 ^ k) (by omega)
    rw [(cl_halves a).2] at s40
    have s25 := h.take k (by omega)
    rw [ct_succ, List.take_left' (by rw [ct, List.length_map, toT_length])] at s25
    have hrr : (ct (toT (k + 1) t))[k]? = some (cl (toL k t.2)) := by
      rw [ct_succ, List.getElem?_append_right (by rw [ct, List.length_map, toT_length]; omega), ct, List.length_map, toT_length, Nat.sub_self]; rfl
    have hq : Int.tdiv (m : Int) 2 = ((2 ^ k : Nat) : Int) := by rw [show Int.tdiv (m : Int) 2 = ((m / 2 : Nat) : Int) from rfl]; omega
    refine Ok.enter Tryz.func60 rfl rfl rfl rfl fun W0 iEn => ?_
    refine J.seq <| J.reg rfl <| ?_
    refine O.allocE fun W6 b6 i6 e6 hl6 hc6 hz6 => ?_
    refine JO.nil <| J.seq <| J.seq <| J.reg rfl <| O.mv rfl <| O.len rfl <| O.eq rfl rfl <| JO.nil <| J.condD rfl (fun h15 => ?_) (fun h15 => ?_)
    · skip
      omega -- done
    · skip
      refine J.skip <| J.seq <| J.reg rfl <| O.mv rfl <| O.len rfl <| O.sb (r := (k : Int)) rfl rfl ((wI (by omega)).trans (by omega)) <| O.as rfl <| JO.nil <| J.seq <| ?_
      refine J.drawN [.ex _, .ex _, .ex _, .ex _, .ex _, .ex _, .ex _, .ex _, .ex _, .rel _, .ex _, .ex _, .ex _, .ex _, .ex _, .ex _, .ex _, .ex _, .ex _, .rel _, .rel _, .rel _] [false, false, false, false, false, false, false, false, false, false, false, false, false, false, false, false, false, false, false, false, true, true] [0, 0, 1, 0, 0, 1, 2, 3, 0, 4, 0, 0, 1, 0, 0, 1, 2, 3, 0, 5, 0, 0] rfl rfl ⟨fun Wd id ed _ => O.mv rfl <| D.ex, fun Wd id ed _ => O.mv rfl <| D.ex, fun Wd id ed _ => O.slh (hi := k) rfl rfl rfl (by omega) <| D.ex, fun Wd id ed _ => O.mv rfl <| D.ex, fun Wd id ed _ => O.mv rfl <| D.ex, fun Wd id ed _ => O.len rfl <| D.ex, fun Wd id ed _ => O.quo (r := ((2 ^ k : Nat) : Int)) rfl rfl (by decide) (by rw [hq]; exact wI (by omega)) <| D.ex, fun Wd id ed _ => O.slh (hi := 2 ^ k) rfl rfl rfl (by omega) <| D.ex, fun Wd id ed _ => O.mv rfl <| D.ex, fun Wd id ed _ => O.call rfl (ih s25.to s30.to hR.1 hT.1 hx hs1 (by omega) (by omega) hb) fun Wd vd id ed hd => D.rel ed hd V.me, fun Wd id ed _ => O.mv rfl <| D.ex, fun Wd id ed _ => O.mv rfl <| D.ex, fun Wd id ed _ => O.slh (hi := k) rfl rfl rfl (by omega) <| D.ex, fun Wd id ed _ => O.mv rfl <| D.ex, fun Wd id ed _ => O.mv rfl <| D.ex, fun Wd id ed _ => O.len rfl <| D.ex, fun Wd id ed _ => O.quo (r := ((2 ^ k : Nat) : Int)) rfl rfl (by decide) (by rw [hq]; exact wI (by omega)) <| D.ex, fun Wd id ed _ => O.sll (lo := 2 ^ k) rfl rfl rfl (by omega) <| D.ex, fun Wd id ed _ => O.mv rfl <| D.ex, fun Wd id ed _ => fun v32 h32 => O.call rfl (ih s25.to s40.to hR.1 hT.1 hy hs1 (by omega) (by omega) hb) fun Wd vd id ed hd => D.rel ed hd V.me, fun Wd id ed _ => O.allocN (by rfl) ed.size, fun Wd id ed _ => O.allocN (by rfl) ed.size, trivial⟩ ?_
      intro Wr4 ir4 er4 v32 h32 v42 h42 v8 h8 ne8 v9 h9 ne9
      obtain ⟨b8, rfl, hl8, hz8⟩ := h8
      have n6_8 : b6 ≠ b8 := Nat.ne_of_lt (Nat.lt_of_lt_of_le (by exact hl6.to.lt) hz8)
      obtain ⟨b9, rfl, hl9, hz9⟩ := h9
      have n6_9 : b6 ≠ b9 := Nat.ne_of_lt (Nat.lt_of_lt_of_le (by exact hl6.to.lt) hz9)
      have n8_9 : b8 ≠ b9 := fun e => ne9.1 (by rw [e])
      refine O.stT rfl rfl hl8.to h32.to rfl fun Ws1 is1 hb8 F8 => ?_
      have hl6 := F8.loc hl6.to n6_8
      have hl9 := F8.loc hl9.to n8_9.symm
      refine O.stT rfl rfl hl9.to h42.to rfl fun Ws2 is2 hb9 F9 => ?_
      have hl6 := F9.loc hl6.to n6_9
      refine JO.nil <| J.seq <| ?_
      obtain ⟨b48, o48, rfl, hj48, hb48⟩ := (h).placeP hrr
      refine J.drawN [.ex _, .ex _, .ex _, .ex _, .ex _, .ex _, .rel _, .ex _, .rel _, .rel _] [false, false, false, false, false, false, false, false, false, true] [0, 0, 1, 0, 0, 1, 2, 0, 3, 0] rfl rfl ⟨fun Wd id ed _ => O.mv rfl <| D.ex, fun Wd id ed _ => O.mv rfl <| D.ex, fun Wd id ed _ => O.slh (hi := k) rfl rfl rfl (by omega) <| D.ex, fun Wd id ed _ => O.mv rfl <| D.ex, fun Wd id ed _ => O.mv rfl <| D.ex, fun Wd id ed _ => O.ia (j := k) rfl rfl rfl hj48 <| D.ex, fun Wd id ed _ => O.ldTD rfl hb48.to.h rfl rfl (fun _ => rfl), fun Wd id ed _ => O.mv rfl <| D.ex, fun Wd id ed _ => fun v49 h49 => (by obtain ⟨p49, m49, c49, rfl, s49⟩ := h49.sl; exact O.call rfl (ih s25.to s49.to hR.1 hT.1 hT.2 hs1 (by omega) (by omega) hb) fun Wd vd id ed hd => D.rel ed hd V.me), fun Wd id ed _ => O.allocN (by rfl) ed.size, trivial⟩ ?_
      intro Wr5 ir5 er5 v49 h49 v51 h51 v10 h10 ne10
      obtain ⟨p49, m49, c49, rfl, s49⟩ := h49.sl
      obtain ⟨b10, rfl, hl10, hz10⟩ := h10
      have n6_10 : b6 ≠ b10 := Nat.ne_of_lt (Nat.lt_of_lt_of_le (by exact hl6.to.lt) hz10)
      refine O.stM rfl rfl hl10.to h51.to rfl fun Ws3 is3 hk10 F10 => ?_
      refine JO.nil <| J.seq <| J.seq <| J.reg rfl <| O.fa rfl <| O.ldT (r := RQ) rfl hk10.h.f rfl rfl (fun h => nomatch h) fun v53 h53 => ?_
      refine O.call rfl (ref02_Sign_ok h53.to) fun W54 v54 i54 e54 h54 => ?_
      subst h54
      refine O.lt rfl rfl <| JO.nil <| J.condD rfl (fun h55 => ?_) (fun h55 => ?_)
      · skip
        have hm0 : mx0 (bx k t.1 t.2 b).1 = 0 := if_pos (cmpI_negR.1 h55)
        refine J.reg rfl <| O.call rfl (ref02_FromInt_ok (z := 0) (by decide)) fun W56 v56 i56 e56 h56 => O.fa rfl <| ?_
        refine O.stPf rfl rfl rfl hl10.to ((hk10.ext e54).ext e56) h56.to rfl fun Ws4 is4 hk10 F10 => ?_
        refine JO.nil <| J.seq <| J.reg rfl <| O.ldT rfl hk10.h rfl rfl (fun h => nomatch h) fun v59 h59 => O.mv rfl <| O.call rfl (ref03_Sqrt_p h59.to hm0.symm (by omega) qr hhi (by omega) (by omega)) fun W61 v61 i61 e61 h61 => ?_
        obtain ⟨v62, rfl, h62⟩ := h61
        refine O.mv rfl <| O.ext rfl rfl <| O.ext rfl rfl <| ?_
        refine O.allocE fun W11 b11 i11 e11 hl11 hc11 hz11 => ?_
        have n6_11 : b6 ≠ b11 := Nat.ne_of_lt (Nat.lt_of_lt_of_le (by exact hl6.to.lt) hz11)
        have n10_11 : b10 ≠ b11 := Nat.ne_of_lt (Nat.lt_of_lt_of_le (by exact hl10.to.lt) hz11)
        refine O.stT rfl rfl hl11.to h62.to rfl fun Ws5 is5 hb11 F11 => ?_
        have hl6 := F11.loc hl6.to n6_11
        have hl10 := F11.loc hl10.to n10_11
        have hk10 := ((hk10.ext e61).ext e11).stf F11 n10_11
        refine O.as rfl <| JO.nil <| J.seq <| ?_
        refine J.draw [.rel _, .rel _, .rel _, .rel _, .rel _, .ex _, .ex _] rfl rfl ⟨fun Wd id ed _ => O.ldTD rfl hb8.to.h rfl rfl (fun h => nomatch h), fun Wd id ed _ => O.ldTD rfl hb9.to.h rfl rfl (fun h => nomatch h), fun Wd id ed _ => O.ldTD rfl hb11.to.h rfl rfl (fun h => nomatch h), fun Wd id ed _ => fun v65 h65 => fun v66 h66 => O.call rfl (ref03_Mul_p h65.to h66.to qv qs (by omega)) fun Wd vd id ed hd => D.rel ed hd V.me, fun Wd id ed _ => fun v64 h64 => fun _ _ => fun v67 h67 => O.call rfl (ref03_Add_p h64.to h67.to qu qm lu (mulI_le2 _ _) (by omega)) fun Wd vd id ed hd => D.rel ed hd V.me, fun Wd id ed _ => O.mv rfl <| D.ex, fun Wd id ed _ => O.add (r := ((b + 20 : Nat) : Int)) rfl rfl ((wI (by omega)).trans (by omega)) <| D.ex, trivial⟩ ?_
        intro Wr9 ir9 er9 v64 h64 v65 h65 v66 h66 v67 h67 v68 h68
        refine O.call rfl (ref03_Round_p h68.to qa (by omega) (by omega)) fun W71 v71 i71 e71 h71 => ?_
        refine O.stT rfl rfl hl6.to h71.to rfl fun Ws6 is6 hb6 F6 => ?_
        have hl10 := F6.loc hl10.to n6_10.symm
        have hk10 := ((hk10.ext er9).ext e71).stf F6 n6_10.symm
        refine JO.nil <| J.retT rfl rfl hb6.to.h rfl rfl fun W' v' iE iP hv' => ?_
        rw [hbx]
        exact hv'.to
      · skip
        have hm0 : mx0 (bx k t.1 t.2 b).1 = (bx k t.1 t.2 b).1 := if_neg (fun e => h55 (cmpI_negR.2 e))
        refine J.skip <| J.seq <| J.reg rfl <| O.ldT rfl (hk10.ext e54).h rfl rfl (fun h => nomatch h) fun v59 h59 => O.mv rfl <| O.call rfl (ref03_Sqrt_p h59.to hm0.symm (by omega) qr hhi (by omega) (by omega)) fun W61 v61 i61 e61 h61 => ?_
        obtain ⟨v62, rfl, h62⟩ := h61
        refine O.mv rfl <| O.ext rfl rfl <| O.ext rfl rfl <| ?_
        refine O.allocE fun W11 b11 i11 e11 hl11 hc11 hz11 => ?_
        have n6_11 : b6 ≠ b11 := Nat.ne_of_lt (Nat.lt_of_lt_of_le (by exact hl6.to.lt) hz11)
        have n10_11 : b10 ≠ b11 := Nat.ne_of_lt (Nat.lt_of_lt_of_le (by exact hl10.to.lt) hz11)
        refine O.stT rfl rfl hl11.to h62.to rfl fun Ws7 is7 hb11 F11 => ?_
        have hl6 := F11.loc hl6.to n6_11
        have hl10 := F11.loc hl10.to n10_11
        have hk10 := (((hk10.ext e54).ext e61).ext e11).stf F11 n10_11
        refine O.as rfl <| JO.nil <| J.seq <| ?_
        refine J.draw [.rel _, .rel _, .rel _, .rel _, .rel _, .ex _, .ex _] rfl rfl ⟨fun Wd id ed _ => O.ldTD rfl hb8.to.h rfl rfl (fun h => nomatch h), fun Wd id ed _ => O.ldTD rfl hb9.to.h rfl rfl (fun h => nomatch h), fun Wd id ed _ => O.ldTD rfl hb11.to.h rfl rfl (fun h => nomatch h), fun Wd id ed _ => fun v65 h65 => fun v66 h66 => O.call rfl (ref03_Mul_p h65.to h66.to qv qs (by omega)) fun Wd vd id ed hd => D.rel ed hd V.me, fun Wd id ed _ => fun v64 h64 => fun _ _ => fun v67 h67 => O.call rfl (ref03_Add_p h64.to h67.to qu qm lu (mulI_le2 _ _) (by omega)) fun Wd vd id ed hd => D.rel ed hd V.me, fun Wd id ed _ => O.mv rfl <| D.ex, fun Wd id ed _ => O.add (r := ((b + 20 : Nat) : Int)) rfl rfl ((wI (by omega)).trans (by omega)) <| D.ex, trivial⟩ ?_
        intro Wr9 ir9 er9 v64 h64 v65 h65 v66 h66 v67 h67 v68 h68
        refine O.call rfl (ref03_Round_p h68.to qa (by omega) (by omega)) fun W71 v71 i71 e71 h71 => ?_
        refine O.stT rfl rfl hl6.to h71.to rfl fun Ws8 is8 hb6 F6 => ?_
        have hl10 := F6.loc hl10.to n6_10.symm
        have hk10 := ((hk10.ext er9).ext e71).stf F6 n6_10.symm
        refine JO.nil <| J.retT rfl rfl hb6.to.h rfl rfl fun W' v' iE iP hv' => ?_
        rw [hbx]
        exact hv'.to
end
section
theorem bB_mono {s b b' : Nat} (h : b ≤ b') : ∀ k, bB s b k ≤ bB s b' k
  | 0 => Nat.le_refl _
  | k + 1 => by have := bB_mono (s := s) h k; show 3 * bB s b k + 3 * b + 30 ≤ 3 * bB s b' k + 3 * b' + 30; omega
theorem floor_lo {k : Nat} {t : Tw k} {a : El k} {x y : Rat} (h : real k t) (i : inI k t a x y) (hw : Wid (x, y) 1) : (0 ≤ sgn k t (add k a (neg k (rat k ((x.floor + 1 : Int) : Rat)))) → FloorOf k t a (x.floor + 1)) ∧ (¬ 0 ≤ sgn k t (add k a (neg k (rat k ((x.floor + 1 : Int) : Rat)))) → FloorOf k t a x.floor) := by
  have h1 := @Rat.floor_le x
  have h2 := @Rat.lt_floor x
  have h3 : (y - x) * 2 ≤ 1 := hw.2
  have e1 : ((1 : Int) : Rat) = 1 := rfl
  refine ⟨fun hn => ⟨hn, ?_⟩, fun hn => ⟨le_tr h ((le_ratI h).2 (Rat.floor_le x)) i.1, ?_⟩⟩
  · rw [lt_not h]
    intro hl
    have := (le_ratI h).1 (le_tr h hl i.2)
    rw [Rat.intCast_add, Rat.intCast_add, e1] at this
    grind
  · have := (sgn_ok h).tri (add k a (neg k (rat k ((x.floor + 1 : Int) : Rat))))
    omega
theorem narrow_iff {x y : Rat} {b : Nat} : narrow x y b ↔ Wid (x, y) b := by
  unfold narrow Wid
  constructor
  · intro h; exact ⟨by have := h.1; grind, by have := h.2; grind⟩
  · intro h; exact ⟨by have := h.1; grind, by have := h.2; grind⟩
section
variable {W : GW} {p q : Option Addr} {n c m d r s : Nat}
theorem ref06_SubE_ok {k : Nat} {a b : El k} {q2 : Option Addr} {m2 d2 s' : Nat} (h' : Sl RQ W q m d (cl (toL k a))) (h2 : Sl RQ W q2 m2 d2 (cl (toL k b))) (ha : Sz s (toL k a)) (hb : Sz s' (toL k b)) (hk : k ≤ 16) (hs : s + s' + 1 ≤ 8796093022208) :
    Ok Tryz.prog 35 [.slice p n c, .slice q m d, .slice q2 m2 d2] W fun W' v => V RE W' v (cl (toL k (add k a (neg k b)))) := by
  have hp := pow_le hk
  have hm : m = 2 ^ k := by rw [h'.hn, cl_length, toL_length]
  rw [toL_add, toL_neg]
  exact (ref06_Sub_own h' h2 (by rw [toL_length, toL_length]) (by omega) ha.qs' hb.qs' (by omega)).own
theorem ref06_FromRatE_ok {k : Nat} {t : List (List Raw)} {v : Value} {x : Rat} (h : Sl RE W p n c t) (hv : V RQ W v (cq x)) (hn : n = k) (ht : k ≤ 16) :
    Ok Tryz.prog 30 [.slice p n c, v] W fun W' r => V RE W' r (cl (toL k (rat k x))) := by
  subst hn
  exact (ref06_FromRat_own h hv ht).own
theorem ref07_Floor_ok {k : Nat} {t : Tw k} {a : El k} (hR : real k t) (hw : Wid (bx k t a 2048) 1) (h : Sl RE W p n c (ct (toT k t))) (h' : Sl RQ W q m d (cl (toL k a))) (hT : TS s k t) (ha : Sz s (toL k a)) (hs1 : 1 ≤ s) (hk : k ≤ 16)
    (hv : vB s k (s + bB s 2048 k + 4) ≤ 8796093022208) (he : bB s 2048 k ≤ 274877906944) :
    Ok Tryz.prog 23 [.slice p n c, .slice q m d] W fun W' v => ∃ z, V RI W' v (ci z) ∧ FloorOf k t a z := by
  have hn : n = k := by rw [h.hn, ct_length]
  subst hn
  have hsB := Nat.le_trans (vB_ge (r := s) n _) hv
  obtain ⟨B, hB⟩ : ∃ B, B = bB s 2048 n := ⟨_, rfl⟩
  have hB1 : s ≤ B := by rw [hB]; exact bB_ge _ _ _
  have hq : ∀ b, b ≤ 2048 → Q2 B (bx n t a b) := fun b hb => (bx_qs hR hT ha hs1).mono (by rw [hB]; exact bB_mono hb n)
  have heb : ∀ b, b ≤ 2048 → bB s b n ≤ 274877906944 := fun b hb => Nat.le_trans (bB_mono hb n) he
  rw [← hB] at he hv hsB
  refine Ok.enter Tryz.func23 rfl rfl rfl rfl fun W0 iEn => ?_
  refine J.seq <| J.reg rfl <| ?_
  refine O.allocE fun W4 b4 i4 e4 hl4 hc4 hz4 => ?_
  refine JO.nil <| J.seq <| J.reg rfl <| O.as rfl <| JO.nil <| J.seq <| J.reg rfl <| O.mv rfl <| O.mv rfl <| O.mv rfl <| O.call rfl (ref07_Box_ok (b := 8) h.to h'.to hR hT ha hs1 hk (heb 8 (by decide)) (by decide)) fun W12 v12 i12 e12 h12 => ?_
  refine O.allocE fun W6 b6 i6 e6 hl6 hc6 hz6 => ?_
  have n4_6 : b4 ≠ b6 := Nat.ne_of_lt (Nat.lt_of_lt_of_le (by exact hl4.to.lt) hz6)
  refine O.stM rfl rfl hl6.to h12.to rfl fun Ws1 is1 hk6 F6 => ?_
  refine JO.nil <| J.seq <| J.block <| ?_
  refine J.loop (α := Nat) (fun g => [(0, .slice p n c), (1, .slice q m d), (4, .pointer (some ⟨b4, 0, none⟩)), (5, .int .i64 ((8 * 2 ^ g : Nat) : Int)), (6, .pointer (some ⟨b6, 0, none⟩))]) (fun g W' => Le W0 W' ∧ Rx.Loc W' b4 2 ∧ Rx.Loc W' b6 8 ∧ Pc RV W' b6 (cp2 (bx n t a (8 * 2 ^ g))) ∧ g ≤ 8) (fun g => 8 - g) 0 ⟨rfl, rfl, rfl, rfl, rfl, trivial⟩ ⟨inferInstance, hl4.to, hl6.to, hk6, by decide⟩ ?_
  rintro g W3 ⟨_, hl4, hl6, hk6, hg⟩
  have hg8 : 2 ^ g ≤ 2 ^ 8 := Nat.pow_le_pow_right (by decide) hg
  have hge := hq (8 * 2 ^ g) (by omega)
  have hin := bx_in hR a (8 * 2 ^ g)
  refine J.seq <| J.seq <| J.reg rfl <| O.ldT rfl hk6.h rfl rfl (fun h => nomatch h) fun v13 h13 => ?_
  refine O.call rfl (ref03_Narrow_ok (b := 1) h13.to hge.1 hge.2 (by decide) (by omega)) fun W14 v14 i14 e14 h14 => ?_
  subst h14
  refine O.not rfl <| JO.nil <| J.cond rfl (fun h15 => ?_) (fun h15 => ?_)
  · skip
    have hnn : ¬ narrow (bx n t a (8 * 2 ^ g)).1 (bx n t a (8 * 2 ^ g)).2 1 := by simpa using h15
    have hg7 : g < 8 := by
      by_cases hg7 : g < 8
      · exact hg7
      · obtain rfl : g = 8 := by omega
        exact absurd (narrow_iff.2 hw) hnn
    have hgs : 2 ^ (g + 1) ≤ 2 ^ 8 := Nat.pow_le_pow_right (by decide) hg7
    have hgd : 2 ^ (g + 1) = 2 * 2 ^ g := by rw [Nat.pow_succ]; omega
    refine J.skip <| J.block <| J.seq <| J.reg rfl <| O.mv rfl <| O.mul (r := ((8 * 2 ^ (g + 1) : Nat) : Int)) rfl rfl ((wI (by omega)).trans (by omega)) <| O.as rfl <| JO.nil <| J.reg rfl <| O.mv rfl <| O.mv rfl <| O.mv rfl <| O.call rfl (ref07_Box_ok (b := 8 * 2 ^ (g + 1)) h.to h'.to hR hT ha hs1 hk (heb _ (by omega)) (by omega)) fun W21 v21 i21 e21 h21 => ?_
    refine O.stM rfl rfl hl6.to h21.to rfl fun Ws2 is2 hk6 F6 => ?_
    refine JO.nil <| J.bend <| ?_
    exact J.at' (g + 1) ⟨rfl, rfl, rfl, rfl, rfl, trivial⟩ ⟨⟨inferInstance, hl4.to, hl6.to, hk6, by omega⟩, by omega⟩
  · skip
    have hnn : narrow (bx n t a (8 * 2 ^ g)).1 (bx n t a (8 * 2 ^ g)).2 1 := by simpa using h15
    have hz := Zs.floor hge.1
    have hz1 : Zs (B + 1) ((bx n t a (8 * 2 ^ g)).1.floor + 1) := (hz.add (Zs.one (p := 1) (by decide))).mono (by omega)
    have hfl := floor_lo hR hin (narrow_iff.1 hnn)
    refine J.exit rfl <| J.seq <| J.reg rfl <| O.fa rfl <| O.ldT (r := RQ) rfl (hk6.ext e14).h.f rfl rfl (fun h => nomatch h) fun v23 h23 => O.call rfl (ref02_Floor_ok h23.to hge.1 (by omega)) fun W24 v24 i24 e24 h24 => ?_
    refine O.allocE fun W7 b7 i7 e7 hl7 hc7 hz7 => ?_
    have n4_7 : b4 ≠ b7 := Nat.ne_of_lt (Nat.lt_of_lt_of_le (by exact hl4.to.lt) hz7)
    have n6_7 : b6 ≠ b7 := Nat.ne_of_lt (Nat.lt_of_lt_of_le (by exact hl6.to.lt) hz7)
    refine O.stT rfl rfl hl7.to h24.to rfl fun Ws3 is3 hb7 F7 => ?_
    have hl4 := F7.loc hl4.to n4_7
    have hl6 := F7.loc hl6.to n6_7
    have hk6 := (((hk6.ext e14).ext e24).ext e7).stf F7 n6_7
    refine JO.nil <| J.seq <| ?_
    refine J.drawN [.rel _, .rel _, .rel _, .rel _] [false, false, false, true] [0, 0, 1, 0] rfl rfl ⟨fun Wd id ed _ => O.ldTD rfl hb7.to.h rfl rfl (fun h => nomatch h), fun Wd id ed _ => O.call rfl (ref01_FromInt_ok (z := 1) (by decide)) fun Wd vd id ed hd => D.rel ed hd V.me, fun Wd id ed _ => fun v25 h25 => fun _ _ => fun v26 h26 => O.call rfl (ref01_Add_ok h25 h26 (hz.len (by omega)) ((Zs.one (p := 1) (by decide)).len (by decide))) fun Wd vd id ed hd => D.rel ed hd V.me, fun Wd id ed _ => O.allocN (by rfl) ed.size, trivial⟩ ?_
    intro Wr7 ir7 er7 v25 h25 v26 h26 v27 h27 v8 h8 ne8
    obtain ⟨b8, rfl, hl8, hz8⟩ := h8
    have n4_8 : b4 ≠ b8 := Nat.ne_of_lt (Nat.lt_of_lt_of_le (by exact hl4.to.lt) hz8)
    have n6_8 : b6 ≠ b8 := Nat.ne_of_lt (Nat.lt_of_lt_of_le (by exact hl6.to.lt) hz8)
    refine O.stT rfl rfl hl8.to h27.to rfl fun Ws4 is4 hb8 F8 => ?_
    have hl4 := F8.loc hl4.to n4_8
    have hl6 := F8.loc hl6.to n6_8
    have hk6 := (hk6.ext er7).stf F8 n6_8
    refine JO.nil <| J.seq <| J.seq <| ?_
    refine J.draw [.ex _, .ex _, .ex _, .ex _, .rel _, .rel _, .rel _, .rel _, .rel _] rfl rfl ⟨fun Wd id ed _ => O.mv rfl <| D.ex, fun Wd id ed _ => O.mv rfl <| D.ex, fun Wd id ed _ => O.mv rfl <| D.ex, fun Wd id ed _ => O.mv rfl <| D.ex, fun Wd id ed _ => O.ldTD rfl hb8.to.h rfl rfl (fun h => nomatch h), fun Wd id ed _ => O.call rfl (ref01_FromInt_ok (z := 1) (by decide)) fun Wd vd id ed hd => D.rel ed hd V.me, fun Wd id ed _ => fun v32 h32 => fun _ _ => fun v33 h33 => O.call rfl (ref02_Make_ok (p := B + 1) (b := 1) h32.to h33.to hz1 (Zs.one (by omega)) (by omega) (by decide)) fun Wd vd id ed hd => D.rel (R := fun W v => V RQ W v (cq (((bx n t a (8 * 2 ^ g)).1.floor + 1 : Int) : Rat))) ed (by rw [divInt1] at hd; exact hd) V.me, fun Wd id ed _ => fun _ _ => fun v34 h34 => O.call rfl (ref06_FromRatE_ok (k := n) h.to h34.to rfl hk) fun Wd vd id ed hd => D.rel ed hd V.me, fun Wd id ed _ => fun _ _ => fun v35 h35 => (by obtain ⟨p35, m35, c35, rfl, s35⟩ := h35.sl; exact O.call rfl (ref06_SubE_ok h'.to s35.to ha (Sz.rat n (Qs.int hz1 (by omega))) hk (by omega)) fun Wd vd id ed hd => D.rel ed hd V.me), trivial⟩ ?_
    intro Wr8 ir8 er8 v32 h32 v33 h33 v34 h34 v35 h35 v36 h36
    obtain ⟨p35, m35, c35, rfl, s35⟩ := h35.sl
    obtain ⟨p36, m36, c36, rfl, s36⟩ := h36.sl
    refine O.call rfl (ref07_sign_ok h.to s36.to hT (s := s + B + 4) (by rw [toL_add, toL_neg]; exact (ha.add (Sz.rat n (Qs.int hz1 (by omega))).neg).mono (by omega)) hk hv (by omega)) fun W37 v37 i37 e37 h37 => ?_
    subst h37
    refine O.ge rfl rfl <| JO.nil <| J.condD rfl (fun h38 => ?_) (fun h38 => ?_)
    · skip
      refine J.seq <| J.reg rfl <| O.ldT rfl hb8.to.h rfl rfl (fun h => nomatch h) fun v39 h39 => ?_
      refine O.stT rfl rfl hl4.to h39.to rfl fun Ws5 is5 hb4 F4 => ?_
      have hl6 := F4.loc hl6.to n4_6.symm
      have hk6 := ((hk6.ext er8).ext e37).stf F4 n4_6.symm
      refine JO.nil <| J.retT rfl rfl hb4.to.h rfl rfl fun W' v' iE iP hv' => ?_
      exact ⟨_, hv'.to, hfl.1 h38⟩
    · skip
      refine J.skip <| J.seq <| J.reg rfl <| O.ldT rfl hb7.to.h rfl rfl (fun h => nomatch h) fun v40 h40 => ?_
      refine O.stT rfl rfl hl4.to h40.to rfl fun Ws6 is6 hb4 F4 => ?_
      have hl6 := F4.loc hl6.to n4_6.symm
      have hk6 := ((hk6.ext er8).ext e37).stf F4 n4_6.symm
      refine JO.nil <| J.retT rfl rfl hb4.to.h rfl rfl fun W' v' iE iP hv' => ?_
      exact ⟨_, hv'.to, hfl.2 h38⟩
theorem ref07_Contains_ok {k : Nat} {t : Tw k} {a : El k} {v : Value} {x y : Rat} {B : Nat} (hR : real k t) (h : Sl RE W p n c (ct (toT k t))) (h' : Sl RQ W q m d (cl (toL k a))) (h2 : V RV W v (cq x, cq y)) (hT : TS s k t) (ha : Sz s (toL k a)) (hx : Qs B x) (hy : Qs B y) (hk : k ≤ 16)
    (hv : vB s k (s + B + 2) ≤ 8796093022208) (hin : inI k t a x y) :
    Ok Tryz.prog 19 [.slice p n c, .slice q m d, v] W fun _ r => r = .bool true := by
  have hn : n = k := by rw [h.hn, ct_length]
  have hsB := Nat.le_trans (vB_ge (r := s) k _) hv
  have zx := Sz.rat k hx
  have zy := Sz.rat k hy
  have hs1 : 0 ≤ sgn k t (add k a (neg k (rat k x))) := hin.1
  have hs2 : 0 ≤ sgn k t (add k (rat k y) (neg k a)) := hin.2
  refine Ok.enter Tryz.func19 rfl rfl rfl rfl fun W0 iEn => ?_
  refine J.seq <| J.reg rfl <| O.boxT rfl h2.to fun W5 b5 i5 hb5 => O.as rfl <| JO.nil <| J.seq <| ?_
  refine J.draw [.ex _, .ex _, .rel _, .rel _, .ex _, .ex _, .rel _] rfl rfl ⟨fun Wd id ed _ => O.mv rfl <| D.ex, fun Wd id ed _ => O.fa rfl <| D.ex, fun Wd id ed _ => O.ldTD rfl hb5.to.h.f rfl rfl (fun h => nomatch h), fun Wd id ed _ => fun v11 h11 => O.call rfl (ref06_FromRatE_ok (k := k) h.to h11.to hn hk) fun Wd vd id ed hd => D.rel ed hd V.me, fun Wd id ed _ => O.mv rfl <| D.ex, fun Wd id ed _ => O.fa rfl <| D.ex, fun Wd id ed _ => O.ldTD rfl hb5.to.h.s rfl rfl (fun h => nomatch h), trivial⟩ ?_
  intro Wr1 ir1 er1 v11 h11 v12 h12 v15 h15
  obtain ⟨p12, m12, c12, rfl, s12⟩ := h12.sl
  refine O.call rfl (ref06_FromRatE_ok (k := k) h.to h15.to hn hk) fun W16 v16 i16 e16 h16 => ?_
  obtain ⟨p16, m16, c16, rfl, s16⟩ := h16.sl
  refine O.as rfl <| O.as rfl <| JO.nil <| J.seq <| J.reg rfl <| O.mv rfl <| O.mv rfl <| O.mv rfl <| O.mv rfl <| ?_
  refine O.call rfl (ref06_SubE_ok h'.to s12.to ha zx hk (by omega)) fun W21 v21 i21 e21 h21 => ?_
  obtain ⟨p21, m21, c21, rfl, s21⟩ := h21.sl
  refine O.call rfl (ref07_sign_ok h.to s21.to hT (s := s + B + 2) (by rw [toL_add, toL_neg]; exact (ha.add zx.neg).mono (by omega)) hk hv (by omega)) fun W22 v22 i22 e22 h22 => ?_
  subst h22
  refine O.ge rfl rfl <| ?_
  refine O.set (t := 23) (.bool true) rfl (by simp only [Value.bool.injEq, decide_eq_true_eq]; omega) ?_
  refine O.mv rfl <| O.gt rfl rfl <| O.mv rfl <| O.gt rfl rfl <| O.mv rfl <| O.gt rfl rfl <| O.mv rfl <| O.gt rfl rfl <| O.mv rfl <| O.gt rfl rfl <| ?_
  refine O.call rfl (ref06_SubE_ok s16.to h'.to zy ha hk (by omega)) fun W29 v29 i29 e29 h29 => ?_
  obtain ⟨p29, m29, c29, rfl, s29⟩ := h29.sl
  refine O.gt rfl rfl <| ?_
  refine O.call rfl (ref07_sign_ok h.to s29.to hT (s := s + B + 2) (by rw [toL_add, toL_neg]; exact (zy.add ha.neg).mono (by omega)) hk hv (by omega)) fun W30 v30 i30 e30 h30 => ?_
  subst h30
  refine O.gt rfl rfl <| O.ge rfl rfl <| O.pickT rfl rfl <| O.as rfl <| JO.nil <| J.ret1 rfl (.tmp rfl) fun W' iE iP => ?_
  congr 1; exact decide_eq_true (by omega)
theorem ref07_Zero_ok {v : Value} {z : Int} (hz : z = 0) (h : V RI W v (ci z)) :
    Ok Tryz.prog 21 [v] W fun _ r => r = .bool true := by
  subst hz
  have h : V RI W v (false, []) := by have e : ci 0 = (false, []) := by decide +kernel
                                      rw [e] at h; exact h
  refine Ok.enter Tryz.func21 rfl rfl rfl rfl fun W0 iEn => ?_
  refine J.seq <| J.reg rfl <| O.boxT rfl h.to fun W1 b1 i1 hb1 => O.as rfl <| JO.nil <| J.seq <| J.reg rfl <| O.fa rfl <| ?_
  refine O.ldTs rfl hb1.to.h.s fun p4 m4 c4 s4 => ?_
  have h4 := s4.v
  obtain rfl : m4 = 0 := s4.hn
  refine O.len rfl <| O.eq rfl rfl <| O.mv rfl <| O.gt rfl rfl <| O.fa rfl <| O.gt rfl rfl <| O.ldTb rfl hb1.to.h.f <| O.gt rfl rfl <| O.not rfl <| O.pickT rfl rfl <| O.as rfl <| JO.nil <| J.ret1 rfl (.tmp rfl) fun W' iE iP => ?_
  rfl
end
end
section
/-- integers of 64 bits -/
def RZ : Rep Int where
  size := 1
  agg := false
  At := fun W cs x => cs = [.int .i64 x] ∧ -9223372036854775808 ≤ x ∧ x < 9223372036854775808
  len := fun h => by rw [h.1]; rfl
  mono := fun _ h => h
  one := fun h v hv => by rw [h.1] at hv; simp at hv; subst hv; rfl
theorem V.rz {W : GW} {v : Value} {x : Int} (h : V RZ W v x) : v = .int .i64 x ∧ -9223372036854775808 ≤ x ∧ x < 9223372036854775808 := by
  obtain ⟨cs, ⟨h1, h2⟩, h3⟩ := h
  subst h1
  exact ⟨h3, h2⟩
theorem rzv {W : GW} (x : Int) (h : -9223372036854775808 ≤ x ∧ x < 9223372036854775808) : V RZ W (.int .i64 x) x := ⟨_, ⟨rfl, h⟩, rfl⟩
def qs (zs : List Int) : List Rat := zs.map fun (z : Int) => (z : Rat)
theorem law07_ints_ok {W : GW} {p : Option Addr} {n c : Nat} {zs : List Int} (h : Sl RZ W p n c zs) (hn0 : n ≤ 1000) :
    Ok Tryz.prog 37 [.slice p n c] W fun W' r => V RE W' r (cl (qs zs)) := by
  have hn := h.hn
  refine Ok.enter Tryz.func37 rfl rfl rfl rfl fun W0 iEn => ?_
  refine J.seq <| J.reg rfl <| O.as rfl <| JO.nil <| J.seq <| J.reg rfl <| O.as rfl <| JO.nil <| J.seq <| J.seq <| J.reg rfl <| O.mv rfl <| O.len rfl <| O.mv rfl <| JO.nil <| J.block <| ?_
  refine J.loop (α := Nat × Option Addr × Nat) (fun g => [(3, .slice g.2.1 g.1 g.2.2), (6, .slice p n c), (7, .int .i64 (n : Int)), (8, .int .i64 (g.1 : Int))]) (fun g W' => Le W0 W' ∧ g.1 ≤ n ∧ Ows RQ W' g.2.1 g.1 g.2.2 (cl (qs (zs.take g.1)))) (fun g => n - g.1) (0, none, 0) ⟨rfl, rfl, rfl, rfl, trivial⟩ ⟨inferInstance, Nat.zero_le _, Ows.nil _ _ _⟩ ?_
  rintro ⟨k, po, co⟩ W3 ⟨_, hk, ho⟩
  dsimp only at *
  refine J.seq <| J.reg rfl <| O.lt rfl rfl <| JO.nil <| J.seq <| J.condD rfl (fun h9 => ?_) (fun h9 => ?_)
  · skip
    obtain ⟨z, hz⟩ : ∃ z, zs[k]? = some z := ⟨_, List.getElem?_eq_getElem (by omega)⟩
    refine J.skip <| J.seq <| J.block <| J.seq <| J.reg rfl <| O.ix (r := RZ) (j := k) rfl rfl rfl h.to hz rfl rfl (fun _ => rfl) fun a v hv => ?_
    obtain ⟨rfl, hzr⟩ := V.rz hv
    refine O.as rfl <| JO.nil <| J.reg rfl <| O.mv rfl <| O.mv rfl <| O.call rfl (ref02_FromInt_ok hzr) fun W4 v4 i4 e4 h4 => ?_
    have ho4 := ho.ext e4
    refine O.app1 (r := RQ) (u := cq (z : Rat)) (fun _ => rfl) rfl ho4 h4 rfl rfl (by decide) (.inl rfl) (by decide) (by omega) (by omega) fun W5 p6 c6 v5 i5 o5 => O.as rfl <| JO.nil <| J.bend <| J.reg rfl <| O.add rfl rfl (wI (by omega)) <| O.mv rfl <| JO.nil <| ?_
    exact J.at' (k + 1, p6, c6) ⟨rfl, rfl, rfl, rfl, trivial⟩ ⟨⟨inferInstance, by show k + 1 ≤ n; omega, by
      have e : cl (qs (zs.take (k + 1))) = cl (qs (zs.take k)) ++ [cq (z : Rat)] := by
        rw [List.take_add_one, hz, qs, List.map_append, cl_append]; rfl
      rw [e]; exact o5⟩, by show n - (k + 1) < n - k; omega⟩
  · skip
    refine J.exit rfl <| J.seq <| J.reg rfl <| O.mv rfl <| O.as rfl <| JO.nil <| J.ret1 rfl (.tmp rfl) fun W' iE iP => ?_
    have hkn : k = n := by omega
    rw [hkn, List.take_of_length_le (by omega)] at ho
    rw [hkn]
    exact (ho.pub iE iP).v
def e1 (a b : Int) : El 1 := ((a : Rat), (b : Rat))
def w1 (a : Int) : Tw 1 := ((), (a : Rat))
theorem qs8 {z : Int} (h : z.natAbs < 256) : Qs 8 (z : Rat) := Qs.int h (by decide)
theorem sz_of {zs : List Int} (h : ∀ z ∈ zs, z.natAbs < 256) (hl : zs.length ≤ 4) : Sz 33 (qs zs) := by
  refine (Sz.all (p := 8) fun x hx => ?_).mono (by rw [qs, List.length_map]; omega)
  obtain ⟨z, hz, rfl⟩ := List.mem_map.1 hx
  exact qs8 (h z hz)
theorem mg_of {zs : List Int} (h : ∀ z ∈ zs, z.natAbs < 256) : MgL 8 (qs zs) := fun x hx => by
  obtain ⟨z, hz, rfl⟩ := List.mem_map.1 hx
  exact qs8 (h z hz)
theorem TSR_ct {r k : Nat} {t : Tw k} (h : TS r k t) : TSR r (ct (toT k t)) := fun j w e => by
  have e := ct_inj e
  obtain rfl : k = j := by rw [← toT_length k t, e, toT_length]
  rw [← toT_inj e]; exact h
theorem SZR_cl {s : Nat} {xs : List Rat} (h : Sz s xs) : SZR s (cl xs) := fun ys e => by rw [← cl_inj e]; exact h
theorem eW_mono (m : Nat) {b b' : Nat} (h : b ≤ b') : ∀ k, eW m b k ≤ eW m b' k
  | 0 => by show 2 * b - 2 ≤ 2 * b' - 2; omega
  | k + 1 => by have := eW_mono m h k; show eW m b k / 2 - (mW m k + 3) ≤ eW m b' k / 2 - (mW m k + 3); omega
theorem enc_bits {k m P bits : Nat} {t : Tw k} {a : El k} (h : real k t) (hT : MgT m k t) (ha : MgL m (toL k a)) (hP : bits + 1 ≤ eW m P k) : ∀ b, P ≤ b → Wid (enc k t a b) bits := fun b hb => by
  have := eW_mono m hb k
  exact (enc_wd h hT ha (by omega)).mono (by omega)
theorem real2 : real 1 (w1 2) := ⟨trivial, by decide +kernel⟩
theorem real4 : real 1 (w1 4) := ⟨trivial, by decide +kernel⟩
theorem realm2 : ¬ real 1 (w1 (-2)) := fun h => absurd h.2 (by decide +kernel)
theorem fl_ex : FloorOf 1 (w1 2) (e1 7 (-5)) (-1) := ⟨show 0 ≤ sgn 1 (w1 2) (add 1 (e1 7 (-5)) (neg 1 (rat 1 ((-1 : Int) : Rat)))) by decide +kernel, by decide +kernel⟩
theorem sg_ex1 : sgn 1 (w1 2) (e1 3 (-2)) = 1 := by decide +kernel
theorem sg_ex2 : sgn 1 (w1 2) (e1 7 (-5)) = -1 := by decide +kernel
theorem sg_ex3 : sgn 1 (w1 4) (e1 2 (-1)) = 0 := by decide +kernel
theorem ci_m1 : ci (-1) = (true, [1]) := by decide +kernel
theorem law07_awake_ok {W : GW} : Ok Tryz.prog 11 [] W fun _ r => r = .bool true := by
  have hT2 : TS 33 1 (w1 2) := ⟨trivial, sz_of (zs := [2]) (by decide) (by decide)⟩
  have hT4 : TS 33 1 (w1 4) := ⟨trivial, sz_of (zs := [4]) (by decide) (by decide)⟩
  have hTm : TS 33 1 (w1 (-2)) := ⟨trivial, sz_of (zs := [-2]) (by decide) (by decide)⟩
  have sA : Sz 33 (toL 1 (e1 7 (-5))) := sz_of (zs := [7, -5]) (by decide) (by decide)
  have sB : Sz 33 (toL 1 (e1 3 (-2))) := sz_of (zs := [3, -2]) (by decide) (by decide)
  have sC : Sz 33 (toL 1 (e1 2 (-1))) := sz_of (zs := [2, -1]) (by decide) (by decide)
  have hv : vB 33 1 33 ≤ 8796093022208 := by decide +kernel
  have hw := enc_bits (k := 1) (m := 8) (P := 20) (bits := 1) (t := w1 2) (a := e1 7 (-5)) real2 ⟨trivial, mg_of (zs := [2]) (by decide)⟩ (mg_of (zs := [7, -5]) (by decide)) (by decide)
  refine Ok.enter Tryz.func11 rfl rfl rfl rfl fun W0 iEn => ?_
  refine J.seq <| J.reg rfl <| O.as rfl <| JO.nil <| J.seq <| J.reg rfl <| O.bs (r := RZ) [2] rfl ⟨rzv _ (by decide), trivial⟩ rfl rfl rfl (by decide) (.inr rfl) (by decide) fun W4 p4 i4 e4 s4 => ?_
  refine O.call rfl (law07_ints_ok s4.to (by decide)) fun W5 v5 i5 e5 h5 => ?_
  obtain ⟨p5, m5, c5, rfl, s5⟩ := h5.sl
  refine O.bs (r := RE) [cl (qs [2])] rfl ⟨s5.to.v, trivial⟩ rfl rfl rfl (by decide) (.inr rfl) (by decide) fun W6 p6 i6 e6 s6 => O.bs (r := RZ) [4] rfl ⟨rzv _ (by decide), trivial⟩ rfl rfl rfl (by decide) (.inr rfl) (by decide) fun W7 p7 i7 e7 s7 => ?_
  refine O.call rfl (law07_ints_ok s7.to (by decide)) fun W8 v8 i8 e8 h8 => ?_
  obtain ⟨p8, m8, c8, rfl, s8⟩ := h8.sl
  refine O.bs (r := RE) [cl (qs [4])] rfl ⟨s8.to.v, trivial⟩ rfl rfl rfl (by decide) (.inr rfl) (by decide) fun W9 p9 i9 e9 s9 => O.as rfl <| O.as rfl <| JO.nil <| J.seq <| J.reg rfl <| O.mv rfl <| O.bs (r := RZ) [7, -5] rfl ⟨rzv _ (by decide), rzv _ (by decide), trivial⟩ rfl rfl rfl (by decide) (.inr rfl) (by decide) fun W11 p11 i11 e11 s11 => ?_
  refine O.call rfl (law07_ints_ok s11.to (by decide)) fun W12 v12 i12 e12 h12 => ?_
  obtain ⟨p12, m12, c12, rfl, s12⟩ := h12.sl
  refine O.call rfl (sign_Floor_ok (k := 1) (t := w1 2) (a := e1 7 (-5)) (P := 20) (s := 33) real2 hw s6.to s12.to hT2 sA (by decide) (by decide) (by decide +kernel) (by decide) (by decide +kernel)) fun W13 v13 i13 e13 h13 => ?_
  obtain ⟨z, h13, hfl, _⟩ := h13
  obtain rfl := hfl.uniq real2 fl_ex
  rw [ci_m1] at h13
  refine O.allocE fun W3 b3 i3 e3 hl3 hc3 hz3 => ?_
  refine O.stT rfl rfl hl3.to h13.to rfl fun Ws1 is1 hb3 F3 => ?_
  refine JO.nil <| J.seq <| J.reg rfl <| O.mv rfl <| O.bs (r := RZ) [3, -2] rfl ⟨rzv _ (by decide), rzv _ (by decide), trivial⟩ rfl rfl rfl (by decide) (.inr rfl) (by decide) fun W15 p15 i15 e15 s15 => ?_
  refine O.call rfl (law07_ints_ok s15.to (by decide)) fun W16 v16 i16 e16 h16 => ?_
  obtain ⟨p16, m16, c16, rfl, s16⟩ := h16.sl
  refine O.call rfl (sign_Sign_ok (r := 33) (s := 33) (z := 1) (by rw [← sg_ex1]; exact SgnIs.ct (a := e1 3 (-2)) real2) s6.to s16.to (small_ct hT2 (by decide)) (small_cl sB.qs' (by decide)) (by decide) (TSR_ct hT2) (SZR_cl sB) hv hv) fun W17 v17 i17 e17 h17 => ?_
  subst h17
  refine O.eq rfl rfl <| O.mv rfl <| O.gt rfl rfl <| O.mv rfl <| O.gt rfl rfl <| O.bs (r := RZ) [7, -5] rfl ⟨rzv _ (by decide), rzv _ (by decide), trivial⟩ rfl rfl rfl (by decide) (.inr rfl) (by decide) fun W21 p21 i21 e21 s21 => O.gt rfl rfl <| ?_
  refine O.call rfl (law07_ints_ok s21.to (by decide)) fun W22 v22 i22 e22 h22 => ?_
  obtain ⟨p22, m22, c22, rfl, s22⟩ := h22.sl
  refine O.gt rfl rfl <| ?_
  refine O.call rfl (sign_Sign_ok (r := 33) (s := 33) (z := -1) (by rw [← sg_ex2]; exact SgnIs.ct (a := e1 7 (-5)) real2) s6.to s22.to (small_ct hT2 (by decide)) (small_cl sA.qs' (by decide)) (by decide) (TSR_ct hT2) (SZR_cl sA) hv hv) fun W23 v23 i23 e23 h23 => ?_
  subst h23
  refine O.gt rfl rfl <| O.eq rfl rfl <| O.pickT rfl rfl <| O.mv rfl <| O.gt rfl rfl <| O.fa rfl <| O.gt rfl rfl <| O.ldTb rfl hb3.to.h.f <| O.pickT rfl rfl <| O.mv rfl <| O.gt rfl rfl <| O.fa rfl <| O.gt rfl rfl <| ?_
  refine O.ldTs rfl hb3.to.h.s fun p32 m32 c32 s32 => ?_
  have h32 := s32.v
  obtain rfl : m32 = 1 := s32.hn
  refine O.gt rfl rfl <| O.len rfl <| O.gt rfl rfl <| O.eq rfl rfl <| O.pickT rfl rfl <| O.mv rfl <| O.gt rfl rfl <| O.fa rfl <| O.gt rfl rfl <| ?_
  refine O.ldTs rfl hb3.to.h.s fun p38 m38 c38 s38 => ?_
  have h38 := s38.v
  refine O.gt rfl rfl <| O.iaT (j := 0) rfl rfl rfl s38.to (show ([1] : List Nat)[0]? = some 1 from rfl) rfl fun b39 o39 hb39 => O.gt rfl rfl <| O.ldTw rfl hb39.to.h fun u40 => O.gt rfl rfl <| O.eq rfl rfl <| O.pickT rfl rfl <| O.mv rfl <| O.gt rfl rfl <| O.mv rfl <| O.gt rfl rfl <| ?_
  refine O.call rfl ((sign_Real_ok s9.to (small_ct hT4 (by decide)) (by decide) (TSR_ct hT4) hv).eqB (b0 := true) ⟨fun _ => realR_ct.2 real4, fun _ => rfl⟩) fun W45 v45 i45 e45 h45 => ?_
  subst h45
  refine O.pickT rfl rfl <| O.mv rfl <| O.gt rfl rfl <| O.mv rfl <| O.gt rfl rfl <| O.bs (r := RZ) [2, -1] rfl ⟨rzv _ (by decide), rzv _ (by decide), trivial⟩ rfl rfl rfl (by decide) (.inr rfl) (by decide) fun W49 p49 i49 e49 s49 => O.gt rfl rfl <| ?_
  refine O.call rfl (law07_ints_ok s49.to (by decide)) fun W50 v50 i50 e50 h50 => ?_
  obtain ⟨p50, m50, c50, rfl, s50⟩ := h50.sl
  refine O.gt rfl rfl <| ?_
  refine O.call rfl (sign_Sign_ok (r := 33) (s := 33) (z := 0) (by rw [← sg_ex3]; exact SgnIs.ct (a := e1 2 (-1)) real4) s9.to s50.to (small_ct hT4 (by decide)) (small_cl sC.qs' (by decide)) (by decide) (TSR_ct hT4) (SZR_cl sC) hv hv) fun W51 v51 i51 e51 h51 => ?_
  subst h51
  refine O.gt rfl rfl <| O.eq rfl rfl <| O.pickT rfl rfl <| O.mv rfl <| O.gt rfl rfl <| O.bs (r := RZ) [-2] rfl ⟨rzv _ (by decide), trivial⟩ rfl rfl rfl (by decide) (.inr rfl) (by decide) fun W55 p55 i55 e55 s55 => O.gt rfl rfl <| ?_
  refine O.call rfl (law07_ints_ok s55.to (by decide)) fun W56 v56 i56 e56 h56 => ?_
  obtain ⟨p56, m56, c56, rfl, s56⟩ := h56.sl
  refine O.gt rfl rfl <| O.bs (r := RE) [cl (qs [-2])] rfl ⟨s56.to.v, trivial⟩ rfl rfl rfl (by decide) (.inr rfl) (by decide) fun W57 p57 i57 e57 s57 => O.gt rfl rfl <| ?_
  refine O.call rfl ((sign_Real_ok s57.to (small_ct hTm (by decide)) (by decide) (TSR_ct hTm) hv).eqB (b0 := false) ⟨fun h => (nomatch h), fun h => absurd ((realR_ct (w := w1 (-2))).1 h) realm2⟩) fun W58 v58 i58 e58 h58 => ?_
  subst h58
  refine O.gt rfl rfl <| O.not rfl <| O.pickT rfl rfl <| O.as rfl <| JO.nil <| J.ret1 rfl (.tmp rfl) fun W' iE iP => ?_
  rfl
theorem law07_cp_ok {W : GW} {p : Option Addr} {n c : Nat} {l : List Raw} (h : Sl RQ W p n c l) (hn : n ≤ 1000000) :
    Ok Tryz.prog 32 [.slice p n c] W fun W' r => V RE W' r l := by
  have hnn := h.hn
  refine Ok.enter Tryz.func32 rfl rfl rfl rfl fun W0 iEn => ?_
  refine J.seq <| J.reg rfl <| O.as rfl <| JO.nil <| J.seq <| J.reg rfl <| O.bs (r := RQ) (ps := []) (vs := []) [] rfl trivial rfl rfl rfl (by decide) (.inl rfl) (by decide) fun W3 p3 i3 e3 s3 => O.mv rfl <| ?_
  refine O.app0 (r := RQ) rfl rfl h.to rfl rfl (by omega) (by omega) fun W5 v5 i5 e5 h5 => ?_
  refine O.as rfl <| JO.nil <| J.ret1 rfl (.tmp rfl) fun W' iE iP => ?_
  exact h5.to
end
end Go.Proofs.YtklnoajdhknfnaaGreat
