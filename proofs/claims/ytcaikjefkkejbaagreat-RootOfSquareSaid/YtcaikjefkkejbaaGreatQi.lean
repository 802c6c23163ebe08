/- The reference's inverses in a reduced tower. -/
import Derived.Test.YtcaikjefkkejbaaGreatQd
import Derived.Test.YtcaikjefkkejbaaGreatVy
set_option linter.unusedVariables false
set_option linter.unusedSimpArgs false
set_option maxRecDepth 10000
set_option maxHeartbeats 4000000
namespace Go.Proofs.YtcaikjefkkejbaaGreat
open Go Go.Rx Go.Num Go.Tow
section
theorem OwnR.wk {α : Type} {r : Rep α} {W0 W1 W : GW} {v : Value} {xs : List α} (h : OwnR r W1 W v xs) (hs : W0.size ≤ W1.size) : OwnR r W0 W v xs := by
  obtain ⟨p, m, c, e, o, f⟩ := h
  exact ⟨p, m, c, e, o, fun a ha hc => Nat.le_trans hs (f a ha hc)⟩
theorem ref06_Inv0 {W : GW} {p q : Option Addr} {c m d : Nat} {a : Rat} (h' : Sl RQ W q m d (cl [a])) (h0 : a ≠ 0) :
    Ok Tryz.prog 89 [.slice p 0 c, .slice q m d] W fun W' v => ∃ v1, v = .tuple #[v1, .int .i64 0] ∧ OwnR RQ W W' v1 (cl [1 / a]) := by
  have hget : (cl [a])[0]? = some (cq a) := rfl
  have hnz : ¬ (dig a.num.natAbs).length = 0 := fun e => h0 (Rat.num_eq_zero.1 (by have := dig_len0.1 e; omega))
  refine Ok.enter Tryz.func89 rfl rfl rfl rfl fun W0 iEn => ?_
  refine J.seq <| J.reg rfl <| O.as rfl <| O.as rfl <| JO.nil <| J.seq <| J.seq <| J.reg rfl <| O.mv rfl <| O.len rfl <| O.eq rfl rfl <| JO.nil <| J.condD rfl (fun h14 => ?_) (fun h14 => ?_)
  · skip
    refine J.seq <| J.seq <| J.reg rfl <| O.mv rfl <| O.iaT (j := 0) rfl rfl rfl h'.to hget rfl fun b16 o16 hb16 => O.fa rfl <| O.fa rfl <| ?_
    refine O.ldTs rfl hb16.to.h.f.s fun p19 m19 c19 s19 => ?_
    have h19 := s19.v
    refine O.len rfl <| O.eq rfl rfl <| JO.nil <| J.condD rfl (fun h21 => ?_) (fun h21 => ?_)
    · skip
      exact absurd (show (dig a.num.natAbs).length = 0 by have e : m19 = (dig a.num.natAbs).length := s19.hn; omega) hnz -- done
    · skip
      refine J.skip <| J.seq <| J.reg rfl <| O.mv rfl <| O.iaT (j := 0) rfl rfl rfl h'.to hget rfl fun b23 o23 hb23 => O.ldT rfl hb23.to.h rfl rfl (fun h => nomatch h) fun v24 h24 => O.call rfl (ref02_Inv_ok h24.to h0) fun W25 v25 i25 e25 h25 => O.bso (r := RQ) [cq (1 / a)] rfl ⟨h25.to, trivial⟩ rfl rfl rfl (by decide) (.inl rfl) (by decide) fun W26 b26 i26 e26 hz26 o26 => O.as rfl <| O.as rfl <| JO.nil <| J.ret2o rfl (.tmp rfl) (.tmp rfl) fun W' iE iO => ?_
      exact ⟨_, rfl, o26.ret iE iO⟩
  · skip
    exact absurd rfl h14 -- done
theorem ref06_Inv_own {k : Nat} : ∀ {W : GW} {p q : Option Addr} {n c m d r s : Nat} {t : Tw k} {a : El k}, Sl RE W p n c (ct (toT k t)) → Sl RQ W q m d (cl (toL k a)) →
    TS r k t → Sz s (toL k a) → red k t → a ≠ zero k → k ≤ 16 → iB r k s ≤ 4398046511104 →
    Ok Tryz.prog 89 [.slice p n c, .slice q m d] W fun W' v => ∃ v1 x, v = .tuple #[v1, .int .i64 0] ∧ Tow.inv k t a = some x ∧ OwnR RQ W W' v1 (cl (toL k x)) := by
  induction k with
  | zero =>
    intro W p q n c m d r s t a h h' hT ha hR ha0 hk hs
    have hn : n = 0 := h.hn
    subst hn
    have h0 : ∀ x : Rat, x ≠ 0 → Tow.inv 0 () x = some (1 / x) := fun x hx => by rw [inv0, if_neg hx]
    refine (ref06_Inv0 (a := a) h' ha0).mono ?_
    rintro W' v _ ⟨v1, rfl, h1⟩
    exact ⟨v1, _, rfl, h0 a ha0, h1⟩
  | succ k ih =>
    intro W p q n c m d r s t a h h' hT ha hR ha0 hk hs
    have hn : n = k + 1 := by rw [h.hn, ct, List.length_map, toT_length]
    have hm : m = 2 ^ (k + 1) := by rw [h'.hn, cl_length, toL_length]
    have hp := pow_le hk
    have hp1 : 2 ^ (k + 1) = 2 * 2 ^ k := by rw [Nat.pow_succ]; omega
    have hx : Sz s (toL k a.1) := Sz.left ha
    have hy : Sz s (toL k a.2) := Sz.right ha
    have hlen := toL_length k
    obtain ⟨hi1, hi2⟩ := iB_norm hs
    have hN := ha.norm hT
    have hge := iB_ge r k (nB r k s)
    have hiB1 := iB_mono (Nat.le_refl r) (vnB_ge r k s) (k := k)
    have hc' := h'.hc
    have hC' := h'.hC
    have hcc := h.hc
    have hCC := h.hC
    have s43 := h'.take (2 ^ k) (by omega)
    rw [(cl_halves a).1] at s43
    have s69 := s43
    have s37 := h'.drop (2 ^ k) (by omega)
    rw [(cl_halves a).2] at s37
    have s76 := s37
    have s34 := h.take k (by omega)
    rw [ct_succ, List.take_left' (by rw [ct, List.length_map, toT_length])] at s34
    have hq : Int.tdiv (m : Int) 2 = ((2 ^ k : Nat) : Int) := by rw [show Int.tdiv (m : Int) 2 = ((m / 2 : Nat) : Int) from rfl]; omega
    have hn0 : Tow.norm k t a ≠ zero k := fun e => by
      obtain ⟨b, hb⟩ := (red_fld hR).2 a ha0
      simp only [Tow.inv] at hb
      obtain ⟨b', hb', _⟩ | hz : (∃ b', Tow.inv k t.1 (Tow.norm k t a) = some b' ∧ True) ∨ Tow.inv k t.1 (Tow.norm k t a) = none := by
        cases Tow.inv k t.1 (Tow.norm k t a) with
        | none => exact .inr rfl
        | some x => exact .inl ⟨x, rfl, trivial⟩
      · have := inv_mul hb'
        rw [e, (ring k t.1).mz] at this
        have S := sgn_ok (red_real hR.1)
        have h1 := S.s1
        rw [← this, S.s0 (ring k t.1)] at h1
        cases h1
      · rw [hz] at hb; cases hb
    refine Ok.enter Tryz.func89 rfl rfl rfl rfl fun W0 iEn => ?_
    refine J.seq <| J.reg rfl <| O.as rfl <| O.as rfl <| JO.nil <| J.seq <| J.seq <| J.reg rfl <| O.mv rfl <| O.len rfl <| O.eq rfl rfl <| JO.nil <| J.condD rfl (fun h14 => ?_) (fun h14 => ?_)
    · skip
      omega -- done
    · skip
      refine J.skip <| J.seq <| J.reg rfl <| O.mv rfl <| O.len rfl <| O.quo (r := ((2 ^ k : Nat) : Int)) rfl rfl (by decide) (by rw [hq]; exact wI (by omega)) <| O.as rfl <| JO.nil <| J.seq <| J.reg rfl <| O.mv rfl <| O.mv rfl <| O.len rfl <| O.sb (r := (k : Int)) rfl rfl ((wI (by omega)).trans (by omega)) <| O.slh (hi := k) rfl rfl rfl (by omega) <| O.as rfl <| JO.nil <| J.seq <| J.seq <| J.reg rfl <| O.mv rfl <| O.mv rfl <| O.sll (lo := 2 ^ k) rfl rfl rfl (by omega) <| ?_
      refine O.call rfl (ref06_Zero_ok s37.to) fun W38 v38 i38 e38 h38 => ?_
      subst h38
      refine JO.nil <| J.condD rfl (fun h38 => ?_) (fun h38 => ?_)
      · skip
        have hv0 : a.2 = zero k := (eq_zero_iff k a.2).2 h38
        have hx0 : a.1 ≠ zero k := fun e => ha0 (Prod.ext e hv0)
        refine J.seq <| J.reg rfl <| O.mv rfl <| O.mv rfl <| O.mv rfl <| O.slh (hi := 2 ^ k) rfl rfl rfl (by omega) <| O.call rfl (ih s34.to s43.to hT.1 hx hR.1 hx0 (by omega) (by omega)) fun W44 v44 i44 e44 h44 => ?_
        obtain ⟨v45, x, rfl, hxi, h45⟩ := h44
        obtain ⟨p45, m45, c45, rfl, o45, f45⟩ := h45
        have hm45 : m45 = 2 ^ k := by rw [o45.hn, cl_length, hlen]
        refine O.mv rfl <| O.ext rfl rfl <| O.ext rfl rfl <| O.as rfl <| O.as rfl <| JO.nil <| J.seq <| J.seq <| J.reg rfl <| O.mv rfl <| O.ne rfl rfl <| JO.nil <| J.condF rfl <| J.skip <| J.seq <| J.reg rfl <| O.mv rfl <| O.mv rfl <| O.call rfl (ref02_FromInt_ok (z := 0) (by decide)) fun W52 v52 i52 e52 h52 => ?_
        refine O.call rfl ((ref06_FromRat_own s34.to h52.to (by omega)).own) fun W53 v53 i53 e53 h53 => ?_
        obtain ⟨p53, m53, c53, rfl, s53⟩ := h53.sl
        have ho45 := (o45.ext e52).ext e53
        have hm53 : m53 = 2 ^ k := by rw [s53.hn, cl_length, hlen]
        refine O.app (r := RQ) rfl rfl ho45 s53.to rfl rfl (by omega) (by omega) fun W54 p54 c54 i54 o54 => O.as rfl <| O.as rfl <| JO.nil <| J.ret2o rfl (.tmp rfl) (.tmp rfl) fun W' iE iO => ?_
        obtain ⟨y, hy⟩ := (red_fld hR).2 a ha0
        have hya : y = up k x := inv_uniq (inv_mul hy) (by
          have hau : a = up k a.1 := Prod.ext rfl hv0
          rw [hau, mul_up, inv_mul hxi]; rfl)
        rw [← cl_append] at o54
        refine ⟨_, _, rfl, hy, ?_⟩
        have e : toL (k + 1) y = toL k x ++ toL k (rat k 0) := by rw [hya, rat_zero]; rfl
        rw [e]
        exact o54.ret iE iO
      · skip
        refine J.skip <| J.seq <| J.reg rfl <| O.mv rfl <| O.mv rfl <| O.mv rfl <| ?_
        refine O.call rfl ((ref06_Norm_own h.to h'.to hT ha hk (by omega)).own) fun W59 v59 i59 e59 h59 => ?_
        obtain ⟨p59, m59, c59, rfl, s59⟩ := h59.sl
        refine O.call rfl (ih s34.to s59.to hT.1 hN hR.1 hn0 (by omega) (by omega)) fun W60 v60 i60 e60 h60 => ?_
        obtain ⟨v61, x, rfl, hxi, h61⟩ := h60
        obtain ⟨p61, m61, c61, rfl, o61, f61⟩ := h61
        refine O.pub o61 fun W61 i61 s61 => ?_
        have hzx := hN.inv hT.1 hxi
        refine O.mv rfl <| O.ext rfl rfl <| O.ext rfl rfl <| O.as rfl <| O.as rfl <| JO.nil <| J.seq <| J.seq <| J.reg rfl <| O.mv rfl <| O.ne rfl rfl <| JO.nil <| J.condF rfl <| J.skip <| J.seq <| ?_
        refine J.draw [.ex _, .ex _, .ex _, .ex _, .ex _, .rel _, .ex _, .ex _, .ex _, .ex _, .ex _, .rel _, .ex _] rfl rfl ⟨fun Wd id ed _ => O.mv rfl <| D.ex, fun Wd id ed _ => O.mv rfl <| D.ex, fun Wd id ed _ => O.mv rfl <| D.ex, fun Wd id ed _ => O.slh (hi := 2 ^ k) rfl rfl rfl (by omega) <| D.ex, fun Wd id ed _ => O.mv rfl <| D.ex, fun Wd id ed _ => O.call rfl (ref06_Mul_own s34.to s69.to s61.to hT.1 hx hzx (by omega) (by omega)) fun W5 v5 i5 e5 h5 => D.rel (R := fun W v => OwnR RQ W0 W v (cl (toL k (mul k t.1 a.1 x)))) e5 (OwnR.wk h5 (inferInstance : Le W0 _).s.size) OwnR.me, fun Wd id ed _ => O.mv rfl <| D.ex, fun Wd id ed _ => O.mv rfl <| D.ex, fun Wd id ed _ => O.mv rfl <| D.ex, fun Wd id ed _ => O.mv rfl <| D.ex, fun Wd id ed _ => O.sll (lo := 2 ^ k) rfl rfl rfl (by omega) <| D.ex, fun Wd id ed _ => fun v71 h71 => (by skip; exact O.call rfl ((ref06_Neg_own s76.to (by omega)).own) fun Wd vd id ed hd => D.rel ed hd V.me), fun Wd id ed _ => O.mv rfl <| D.ex, trivial⟩ ?_
        intro Wr15 ir15 er15 v71 h71 v77 h77
        obtain ⟨p71, m71, c71, rfl, o71, f71⟩ := h71
        obtain ⟨p77, m77, c77, rfl, s77⟩ := h77.sl
        refine O.call rfl ((ref06_Mul_own (a := neg k a.2) s34.to (by rw [toL_neg]; exact s77.to) s61.to hT.1 (by rw [toL_neg]; exact hy.neg) hzx (by omega) (by omega)).own) fun W79 v79 i79 e79 h79 => ?_
        obtain ⟨p79, m79, c79, rfl, s79⟩ := h79.sl
        have hm71 : m71 = 2 ^ k := by rw [o71.hn, cl_length, hlen]
        have hm79 : m79 = 2 ^ k := by rw [s79.hn, cl_length, hlen]
        refine O.app rfl rfl (o71.ext e79) s79.to rfl rfl (by omega) (by omega) fun W80 p80 c80 i80 o80 => O.as rfl <| O.as rfl <| JO.nil <| J.ret2o rfl (.tmp rfl) (.tmp rfl) fun W' iE iO => ?_
        rw [← cl_append] at o80
        have hinv : Tow.inv (k + 1) t a = some (mul k t.1 a.1 x, neg k (mul k t.1 a.2 x)) := by
          show (match Tow.inv k t.1 (Tow.norm k t a) with | none => none | some n => some (mul k t.1 a.1 n, neg k (mul k t.1 a.2 n))) = _
          rw [hxi]
        refine ⟨_, _, rfl, hinv, ?_⟩
        have e : toL (k + 1) (mul k t.1 a.1 x, neg k (mul k t.1 a.2 x)) = toL k (mul k t.1 a.1 x) ++ toL k (mul k t.1 (neg k a.2) x) := by rw [(ring k t.1).nm]; rfl
        rw [e]
        exact o80.ret iE iO
end
section
theorem ref08_join_ok {W : GW} {p q : Option Addr} {n c m d : Nat} {l1 l2 : List Raw} (h : Sl RQ W p n c l1) (h' : Sl RQ W q m d l2) (h1 : n ≤ 65536) (h2 : m ≤ 65536) :
    Ok Tryz.prog 88 [.slice p n c, .slice q m d] W fun W' v => V RE W' v (l1 ++ l2) := by
  refine Ok.own ?_
  refine Ok.enter Tryz.func88 rfl rfl rfl rfl fun W0 iEn => ?_
  refine J.seq <| J.reg rfl <| O.as rfl <| JO.nil <| J.seq <| J.reg rfl <| O.bso (r := RQ) [] (vs := []) rfl trivial rfl rfl rfl (by decide) (.inl rfl) (by decide) fun W2 b2 i2 e2 hb2 o2 => O.mv rfl <| O.app rfl rfl o2 h.to rfl rfl (by omega) (by omega) fun W3 p3 c3 i3 o3 => O.mv rfl <| O.app rfl rfl o3 h'.to rfl rfl (by omega) (by omega) fun W4 p4 c4 i4 o4 => O.as rfl <| JO.nil <| J.ret1o rfl (.tmp rfl) fun W' iE iO => ?_
  exact o4.ret iE iO
/-- what the reference asks besides -/
def zB (r : Nat) : Nat → Nat → Nat
  | 0, _ => 0
  | k + 1, p => vB r (k + 1) p + zB r k (nS r k p) + zB r k (sX r k p (sB r k (nS r k p)))
theorem zB_mono {r : Nat} : ∀ {k p q : Nat}, p ≤ q → zB r k p ≤ zB r k q
  | 0, _, _, _ => Nat.le_refl _
  | k + 1, p, q, h => by
    have hn := nS_mono (Nat.le_refl r) h (k := k)
    have h1 := sB_mono (Nat.le_refl r) hn (k := k)
    have h2 := zB_mono (r := r) hn (k := k)
    have h3 := zB_mono (show sX r k p (sB r k (nS r k p)) ≤ sX r k q (sB r k (nS r k q)) by unfold sX; omega) (k := k) (r := r)
    have h4 := vB_mono (r := r) (k := k + 1) h
    unfold zB
    omega
theorem ref08_square0 {W : GW} {p q : Option Addr} {c m d s : Nat} {t : Tw 0} {a : Rat} (h' : Sl RQ W q m d (cl [a])) (ha : Qs s a) (hs : s ≤ 8796093022208) :
    Ok Tryz.prog 51 [.slice p 0 c, .slice q m d] W fun W' v => ∃ v1 b, v = .tuple #[v1, .bool b] ∧ SqE (s / 2 + 1) 0 t a W' v1 b := by
  refine Ok.enter Tryz.func51 rfl rfl rfl rfl fun W0 iEn => ?_
  refine J.seq <| J.reg rfl <| O.as rfl <| O.as rfl <| JO.nil <| J.seq <| J.seq <| J.reg rfl <| O.mv rfl <| O.len rfl <| O.eq rfl rfl <| JO.nil <| J.condD rfl (fun h32 => ?_) (fun h32 => ?_)
  · skip
    refine J.seq <| J.reg rfl <| O.mv rfl <| O.iaT (j := 0) rfl rfl rfl h'.to (show (cl [a])[0]? = some (cq a) from rfl) rfl fun b35 o35 hb35 => O.ldT rfl hb35.to.h rfl rfl (fun h => nomatch h) fun v36 h36 => O.call rfl (ref02_Sqrt_ok h36.to ha hs) fun W37 v37 i37 e37 h37 => ?_
    obtain ⟨v38, b7, rfl, i7, h38, hsq⟩ := h37
    refine O.mv rfl <| O.ext rfl rfl <| O.ext rfl rfl <| ?_
    refine O.allocE fun W6 b6 i6 e6 hl6 hc6 hz6 => ?_
    refine O.stT rfl rfl hl6.to h38.to rfl fun Ws1 is1 hb6 F6 => ?_
    refine O.as rfl <| JO.nil <| J.seq <| J.reg rfl <| O.ldT rfl hb6.to.h rfl rfl (fun h => nomatch h) fun v40 h40 => O.bs (r := RQ) [i7] rfl ⟨h40.to, trivial⟩ rfl rfl rfl (by decide) (.inl rfl) (by decide) fun W41 p41 i41 e41 s41 => O.mv rfl <| O.as rfl <| O.as rfl <| JO.nil <| J.ret2 rfl (.tmp rfl) (.tmp rfl) fun W' iE iP => ?_
    refine ⟨_, _, rfl, _, s41.to.v, Nat.le_refl _, ?_, ?_⟩
    · intro hb
      rcases hsq with ⟨_, x, hx, rfl⟩ | ⟨e, _⟩
      · exact ⟨x, hx, rfl, Sz.one (Qs.root (by rw [hx]; exact ha))⟩
      · rw [hb] at e; cases e
    · intro hb
      rcases hsq with ⟨e, _⟩ | ⟨_, e⟩
      · rw [hb] at e; cases e
      · exact e
  · skip
    exact absurd rfl h32 -- done
/-- a root with either sign -/
def sgI (k : Nat) : Nat → El k → El k
  | 0, m => m
  | i + 1, m => neg k (sgI k i m)
theorem sgI_sq {k : Nat} {t : Tw k} (L : Laws (add k) (mul k t) (neg k) (zero k) (rat k 1)) : ∀ (i : Nat) (m : El k), mul k t (sgI k i m) (sgI k i m) = mul k t m m
  | 0, m => rfl
  | i + 1, m => by
    show mul k t (neg k (sgI k i m)) (neg k (sgI k i m)) = _
    rw [L.mn, L.nm, L.nn, sgI_sq L i m]
theorem sgI_sz {k N : Nat} {m : El k} : ∀ (i : Nat), Sz N (toL k m) → Sz N (toL k (sgI k i m))
  | 0, h => h
  | i + 1, h => by
    show Sz N (toL k (neg k (sgI k i m)))
    rw [toL_neg]; exact (sgI_sz i h).neg
theorem ref08_square_ok {k : Nat} : ∀ {W : GW} {p q : Option Addr} {n c m d r s : Nat} {t : Tw k} {a : El k}, Sl RE W p n c (ct (toT k t)) → Sl RQ W q m d (cl (toL k a)) →
    TS r k t → Sz s (toL k a) → red k t → k ≤ 8 → qB r k s ≤ 4398046511104 → r ≤ 4398046511104 → zB r k s ≤ 8796093022208 → vB r k r ≤ 8796093022208 →
    Ok Tryz.prog 51 [.slice p n c, .slice q m d] W fun W' v => ∃ v1 b, v = .tuple #[v1, .bool b] ∧ SqE (sB r k s) k t a W' v1 b := by
  induction k with
  | zero =>
    intro W p q n c m d r s t a h h' hT ha hR hk hq hr hz hv
    have hn : n = 0 := h.hn
    subst hn
    exact ref08_square0 (a := a) (s := s) h' (ha.qs (List.mem_singleton.2 rfl)) (by have : s ≤ 4398046511104 := hq; omega)
  | succ k ih =>
    intro W p q n c m d r s t a h h' hT ha hR hk hq hr hz hv
    have hn : n = k + 1 := by rw [h.hn, ct, List.length_map, toT_length]
    have hm : m = 2 ^ (k + 1) := by rw [h'.hn, cl_length, toL_length]
    have hp := pow_le (show k + 1 ≤ 16 by omega)
    have hp1 : 2 ^ (k + 1) = 2 * 2 ^ k := by rw [Nat.pow_succ]; omega
    have hp0 := Nat.two_pow_pos k
    have hlen := toL_length k
    have hx : Sz s (toL k a.1) := Sz.left ha
    have hy : Sz s (toL k a.2) := Sz.right ha
    have hnS := nS_ge r k s
    have hnB : s ≤ nB r k s := vnB_ge r k s
    have hnBe : nB r k s = 4 * s + 3 * cB r k + r + 1 := rfl
    obtain ⟨N, hN⟩ : ∃ N, N = sB r k (nS r k s) := ⟨_, rfl⟩
    obtain ⟨X, hX⟩ : ∃ X, X = sX r k s N := ⟨_, rfl⟩
    obtain ⟨B, hB⟩ : ∃ B, B = sB r k X := ⟨_, rfl⟩
    have hXe : X = s + N + iS r k r + cB r k + 4 := hX
    have hq : s + qB r k (nS r k s) + qB r k X + nB r k s + iB r k r + iB r k (2 * B + 1) + iS r k (B + 1) + cB r k + X ≤ 4398046511104 := by rw [hB, hX, hN]; exact hq
    have hz : vB r (k + 1) s + zB r k (nS r k s) + zB r k X ≤ 8796093022208 := by rw [hX, hN]; exact hz
    have hsB : sB r (k + 1) s = B + s + iS r k (B + 1) + 2 * cB r k + 4 := by rw [hB, hX, hN]; rfl
    rw [hsB]
    have q1 := qB_mono (Nat.le_refl r) hnS (k := k)
    have q2 := qB_mono (Nat.le_refl r) (show s + iS r k r + cB r k ≤ X by omega) (k := k)
    have q3 := qB_mono (Nat.le_refl r) (show 3 + (s + N + 1) + cB r k ≤ X by omega) (k := k)
    have z1 := zB_mono hnS (k := k) (r := r)
    have z2 := zB_mono (show s + iS r k r + cB r k ≤ X by omega) (k := k) (r := r)
    have z3 := zB_mono (show 3 + (s + N + 1) + cB r k ≤ X by omega) (k := k) (r := r)
    have b1 : sB r k s ≤ B := by rw [hB]; exact sB_mono (Nat.le_refl r) (by omega)
    have b2 : sB r k (s + iS r k r + cB r k) ≤ B := by rw [hB]; exact sB_mono (Nat.le_refl r) (by omega)
    have b3 : sB r k (3 + (s + N + 1) + cB r k) ≤ B := by rw [hB]; exact sB_mono (Nat.le_refl r) (by omega)
    have b4 := iB_ge r k (2 * B + 1)
    have b5 := iB_mono (Nat.le_refl r) (show B ≤ 2 * B + 1 by omega) (k := k)
    have b6 := iS_mono (Nat.le_refl r) (show B ≤ B + 1 by omega) (k := k)
    have hv1 : vB r k r ≤ 8796093022208 := Nat.le_trans (vB_mono (vnB_ge r k r)) hv
    have hc' := h'.hc
    have hC' := h'.hC
    have hcc := h.hc
    have hCC := h.hC
    have s62 := h'.take (2 ^ k) (by omega)
    rw [(cl_halves a).1] at s62
    have s65 := h'.drop (2 ^ k) (by omega)
    rw [(cl_halves a).2] at s65
    have s52 := h.take k (by omega)
    rw [ct_succ, List.take_left' (by rw [ct, List.length_map, toT_length])] at s52
    have hrr : (ct (toT (k + 1) t))[k]? = some (cl (toL k t.2)) := by
      rw [ct_succ, List.getElem?_append_right (by rw [ct, List.length_map, toT_length]; omega), ct, List.length_map, toT_length, Nat.sub_self]; rfl
    have hqm : Int.tdiv (m : Int) 2 = ((2 ^ k : Nat) : Int) := by rw [show Int.tdiv (m : Int) 2 = ((m / 2 : Nat) : Int) from rfl]; omega
    have hR1 := red_real hR.1
    have ht2 : t.2 ≠ zero k := fun e => by
      have := hR.2.1
      rw [e, (sgn_ok hR1).s0 (ring k t.1)] at this
      cases this
    have L := ring k t.1
    have hnS2 := ha.normS hT
    refine Ok.enter Tryz.func51 rfl rfl rfl rfl fun W0 iEn => ?_
    refine J.seq <| J.reg rfl <| O.as rfl <| O.as rfl <| JO.nil <| J.seq <| J.seq <| J.reg rfl <| O.mv rfl <| O.len rfl <| O.eq rfl rfl <| JO.nil <| J.condD rfl (fun h32 => ?_) (fun h32 => ?_)
    · skip
      omega -- done
    · skip
      refine J.skip <| J.seq <| J.seq <| J.reg rfl <| O.mv rfl <| O.mv rfl <| ?_
      refine O.call rfl (ref07_Sign_ok (r := r) (s := s) (SgnIs.ct (a := a) (red_real hR)) h.to h'.to (small_ct hT (by omega)) (small_cl ha.qs' (by omega)) (by omega) (TSR_ct hT) (SZR_cl ha) (by rw [hn]; exact hv) (by rw [hn]; omega)) fun W45 v45 i45 e45 h45 => ?_
      subst h45
      refine O.lt rfl rfl <| JO.nil <| J.condD rfl (fun h46 => ?_) (fun h46 => ?_)
      · skip
        refine J.seq <| J.reg rfl <| O.as rfl <| O.as rfl <| JO.nil <| J.ret2 rfl (.tmp rfl) (.tmp rfl) fun W' iE iP => ?_
        refine ⟨_, _, rfl, [], (nil_sl _ _ _).v, Nat.zero_le _, fun e => (nomatch e), fun _ e => ?_⟩
        have := sq_nn (red_real hR) e; omega
      · skip
        refine J.skip <| J.seq <| J.reg rfl <| O.mv rfl <| O.len rfl <| O.sb (r := (k : Int)) rfl rfl ((wI (by omega)).trans (by omega)) <| O.as rfl <| JO.nil <| J.seq <| ?_
        obtain ⟨b55, o55, rfl, hj55, hb55⟩ := (h).placeP hrr
        refine J.draw [.ex _, .ex _, .ex _, .ex _, .ex _, .ex _, .rel _, .ex _] rfl rfl ⟨fun Wd id ed _ => O.mv rfl <| D.ex, fun Wd id ed _ => O.mv rfl <| D.ex, fun Wd id ed _ => O.slh (hi := k) rfl rfl rfl (by omega) <| D.ex, fun Wd id ed _ => O.mv rfl <| D.ex, fun Wd id ed _ => O.mv rfl <| D.ex, fun Wd id ed _ => O.ia (j := k) rfl rfl rfl hj55 <| D.ex, fun Wd id ed _ => O.ldTD rfl hb55.to.h rfl rfl (fun _ => rfl), fun Wd id ed _ => O.as rfl <| D.ex, trivial⟩ ?_
        intro Wr7 ir7 er7 v56 h56
        obtain ⟨p56, m56, c56, rfl, s56⟩ := h56.sl
        refine O.as rfl <| JO.nil <| J.seq <| J.reg rfl <| O.mv rfl <| O.len rfl <| O.quo (r := ((2 ^ k : Nat) : Int)) rfl rfl (by decide) (by rw [hqm]; exact wI (by omega)) <| O.as rfl <| JO.nil <| J.seq <| ?_
        refine J.draw [.ex _, .ex _, .ex _, .ex _, .ex _, .ex _, .ex _] rfl rfl ⟨fun Wd id ed _ => O.mv rfl <| D.ex, fun Wd id ed _ => O.mv rfl <| D.ex, fun Wd id ed _ => O.slh (hi := 2 ^ k) rfl rfl rfl (by omega) <| D.ex, fun Wd id ed _ => O.mv rfl <| D.ex, fun Wd id ed _ => O.mv rfl <| D.ex, fun Wd id ed _ => O.sll (lo := 2 ^ k) rfl rfl rfl (by omega) <| D.ex, fun Wd id ed _ => O.as rfl <| D.ex, trivial⟩ ?_
        intro Wr9 ir9 er9
        refine O.as rfl <| JO.nil <| J.seq <| J.reg rfl <| O.mv rfl <| O.call rfl (ref02_FromInt_ok (z := 0) (by decide)) fun W67 v67 i67 e67 h67 => ?_
        refine O.call rfl ((ref06_FromRat_own s52.to h67.to (by omega)).own) fun W68 v68 i68 e68 h68 => ?_
        obtain ⟨p68, m68, c68, rfl, s68⟩ := h68.sl
        refine O.as rfl <| JO.nil <| J.seq <| J.seq <| J.reg rfl <| O.mv rfl <| ?_
        refine O.call rfl (ref06_Zero_ok s65.to) fun W70 v70 i70 e70 h70 => ?_
        subst h70
        refine JO.nil <| J.condD rfl (fun h70 => ?_) (fun h70 => ?_)
        · skip
          have hv0 : a.2 = zero k := (eq_zero_iff k a.2).2 h70
          have hva : up k a.1 = a := Prod.ext rfl hv0.symm
          refine J.seq <| J.seq <| J.reg rfl <| O.mv rfl <| O.mv rfl <| O.call rfl (ih s52.to s62.to hT.1 hx hR.1 (by omega) (by omega) hr (by omega) hv1) fun W74 v74 i74 e74 h74 => ?_
          obtain ⟨v75, b16, rfl, l15, h75, hl15, hs1, hs2⟩ := h74
          obtain ⟨p75, m75, c75, rfl, s75⟩ := h75.sl
          refine O.mv rfl <| O.ext rfl rfl <| O.ext rfl rfl <| O.as rfl <| O.as rfl <| JO.nil <| J.seq <| J.reg rfl <| O.mv rfl <| JO.nil <| J.cond rfl (fun h77 => ?_) (fun h77 => ?_)
          · skip
            obtain ⟨w, hw, rfl, hwS⟩ := hs1 h77
            have hm75 : m75 = 2 ^ k := by rw [s75.hn, cl_length, hlen]
            have hm68 : m68 = 2 ^ k := by rw [s68.hn, cl_length, hlen]
            refine J.seq <| J.reg rfl <| O.mv rfl <| O.mv rfl <| ?_
            refine O.call rfl (ref08_join_ok s75.to s68.to (by omega) (by omega)) fun W80 v80 i80 e80 h80 => ?_
            obtain ⟨p80, m80, c80, rfl, s80⟩ := h80.sl
            refine O.as rfl <| O.as rfl <| JO.nil <| J.ret2 rfl (.tmp rfl) (.tmp rfl) fun W' iE iP => ?_
            refine ⟨_, _, rfl, _, s80.to.v, ?_, fun _ => ⟨up k w, ?_, ?_, ?_⟩, fun e => nomatch e⟩
            · rw [List.length_append, cl_length, cl_length, hlen, hlen]; omega
            · rw [sq_up hw, hva]
            · rw [show ((0 : Int) : Rat) = 0 from rfl, rat_zero, ← cl_append]; rfl
            · exact (hwS.cat).mono (by omega)
          · skip
            have hno := hs2 h77
            refine J.skip <| J.seq <| J.reg rfl <| O.mv rfl <| O.mv rfl <| O.call rfl (ref06_Inv_own s52.to s56.to hT.1 hT.2 hR.1 ht2 (by omega) (by omega)) fun W84 v84 i84 e84 h84 => ?_
            obtain ⟨v85, bi, rfl, hbi, h85⟩ := h84
            obtain ⟨p85, m85, c85, rfl, o85, f85⟩ := h85
            refine O.pub o85 fun W85 i85 s85 => ?_
            have hbm := inv_mul hbi
            have hbS := hT.2.invS hT.1 hbi
            refine O.mv rfl <| O.ext rfl rfl <| O.ext rfl rfl <| O.as rfl <| O.as rfl <| JO.nil <| J.seq <| J.seq <| J.reg rfl <| O.mv rfl <| O.mv rfl <| O.mv rfl <| O.mv rfl <| ?_
            refine O.call rfl ((ref06_Mul_own s52.to s62.to s85.to hT.1 hx hbS (by omega) (by omega)).own) fun W92 v92 i92 e92 h92 => ?_
            obtain ⟨p92, m92, c92, rfl, s92⟩ := h92.sl
            refine O.call rfl (ih s52.to s92.to hT.1 (hx.mul hT.1 hbS) hR.1 (by omega) (by omega) hr (by omega) hv1) fun W93 v93 i93 e93 h93 => ?_
            obtain ⟨v94, b20, rfl, l19, h94, hl19, hs3, hs4⟩ := h93
            obtain ⟨p94, m94, c94, rfl, s94⟩ := h94.sl
            refine O.mv rfl <| O.ext rfl rfl <| O.ext rfl rfl <| O.as rfl <| O.as rfl <| JO.nil <| J.seq <| J.reg rfl <| O.mv rfl <| JO.nil <| J.cond rfl (fun h96 => ?_) (fun h96 => ?_)
            · skip
              obtain ⟨w, hw, rfl, hwS⟩ := hs3 h96
              have hm94 : m94 = 2 ^ k := by rw [s94.hn, cl_length, hlen]
              have hm68 : m68 = 2 ^ k := by rw [s68.hn, cl_length, hlen]
              refine J.seq <| J.reg rfl <| O.mv rfl <| O.mv rfl <| ?_
              refine O.call rfl (ref08_join_ok s68.to s94.to (by omega) (by omega)) fun W99 v99 i99 e99 h99 => ?_
              obtain ⟨p99, m99, c99, rfl, s99⟩ := h99.sl
              refine O.as rfl <| O.as rfl <| JO.nil <| J.ret2 rfl (.tmp rfl) (.tmp rfl) fun W' iE iP => ?_
              refine ⟨_, _, rfl, _, s99.to.v, ?_, fun _ => ⟨(zero k, w), ?_, ?_, (hwS.cat').mono (by omega)⟩, fun e => nomatch e⟩
              · rw [List.length_append, cl_length, cl_length, hlen, hlen]; omega
              · rw [sq_low hbm hw, hva]
              · rw [show ((0 : Int) : Rat) = 0 from rfl, rat_zero, ← cl_append]; rfl
            · skip
              refine J.skip <| J.seq <| J.reg rfl <| O.as rfl <| O.as rfl <| JO.nil <| J.ret2 rfl (.tmp rfl) (.tmp rfl) fun W' iE iP => ?_
              refine ⟨_, _, rfl, [], (nil_sl _ _ _).v, Nat.zero_le _, fun e => (nomatch e), fun _ e => ?_⟩
              rw [← hva] at e
              exact sq_low_no hR.1 hbm hno (hs4 h96) e
        · skip
          have hv0 : a.2 ≠ zero k := fun e => h70 ((eq_zero_iff k a.2).1 e)
          refine J.skip <| J.seq <| J.reg rfl <| O.mv rfl <| O.mv rfl <| O.mv rfl <| O.mv rfl <| ?_
          refine O.call rfl ((ref06_Mul_own s52.to s62.to s62.to hT.1 hx hx (by omega) (by omega)).own) fun W104 v104 i104 e104 h104 => ?_
          obtain ⟨p104, m104, c104, rfl, s104⟩ := h104.sl
          refine O.mv rfl <| O.mv rfl <| O.mv rfl <| O.mv rfl <| O.mv rfl <| ?_
          refine O.call rfl ((ref06_Mul_own s52.to s65.to s65.to hT.1 hy hy (by omega) (by omega)).own) fun W110 v110 i110 e110 h110 => ?_
          obtain ⟨p110, m110, c110, rfl, s110⟩ := h110.sl
          refine O.call rfl ((ref06_Mul_own s52.to s56.to s110.to hT.1 hT.2 (hy.mul hT.1 hy) (by omega) (by omega)).own) fun W111 v111 i111 e111 h111 => ?_
          obtain ⟨p111, m111, c111, rfl, s111⟩ := h111.sl
          have hm104 : m104 = 2 ^ k := by rw [s104.hn, cl_length, hlen]
          refine O.call rfl ((ref06_Sub_own s104.to s111.to (by rw [hlen, hlen]) (by omega) (hx.mul hT.1 hx).qs' (hT.2.mul hT.1 (hy.mul hT.1 hy)).qs' (by omega)).own) fun W112 v112 i112 e112 h112 => ?_
          obtain ⟨p112, m112, c112, rfl, s112⟩ := h112.sl
          have e112 : List.zipWith (· + ·) (toL k (mul k t.1 a.1 a.1)) ((toL k (mul k t.1 t.2 (mul k t.1 a.2 a.2))).map (- ·)) = toL k (Tow.norm k t a) := by
            rw [← toL_neg, ← toL_add, Tow.norm, L.mc t.2]
          rw [e112] at s112
          refine O.as rfl <| JO.nil <| J.seq <| J.reg rfl <| O.mv rfl <| O.mv rfl <| O.call rfl (ih s52.to s112.to hT.1 hnS2 hR.1 (by omega) (by omega) hr (by omega) hv1) fun W116 v116 i116 e116 h116 => ?_
          obtain ⟨v117, b23, rfl, l22, h117, hl22, hs1, hs2⟩ := h116
          obtain ⟨p117, m117, c117, rfl, s117⟩ := h117.sl
          refine O.mv rfl <| O.ext rfl rfl <| O.ext rfl rfl <| O.as rfl <| O.as rfl <| JO.nil <| J.seq <| J.seq <| J.reg rfl <| O.mv rfl <| O.not rfl <| JO.nil <| J.cond rfl (fun h120 => ?_) (fun h120 => ?_)
          · skip
            refine J.seq <| J.reg rfl <| O.as rfl <| O.as rfl <| JO.nil <| J.ret2 rfl (.tmp rfl) (.tmp rfl) fun W' iE iP => ?_
            refine ⟨_, _, rfl, [], (nil_sl _ _ _).v, Nat.zero_le _, fun e => (nomatch e), fun _ e => ?_⟩
            exact hs2 (by simpa using h120) (sq_norm e)
          · skip
            obtain ⟨mm, hmm, rfl, hmS⟩ := hs1 (by simpa using h120)
            rw [← hN] at hmS
            have hmi : ∀ i, mul k t.1 (sgI k i mm) (sgI k i mm) = Tow.norm k t (a.1, a.2) := fun i => (sgI_sq L i mm).trans hmm
            have hmiS : ∀ i, Sz N (toL k (sgI k i mm)) := fun i => sgI_sz i hmS
            refine J.skip <| J.seq <| J.reg rfl <| O.mv rfl <| O.call rfl (ref02_Frac_ok) fun W122 v122 i122 e122 h122 => ?_
            refine O.call rfl ((ref06_FromRat_own s52.to h122.to (by omega)).own) fun W123 v123 i123 e123 h123 => ?_
            obtain ⟨p123, m123, c123, rfl, s123⟩ := h123.sl
            refine O.as rfl <| JO.nil <| J.seq <| J.seq <| J.reg rfl <| O.as rfl <| JO.nil <| J.block <| ?_
            refine J.loop (α := Nat × Option Addr × Nat × Nat) (fun g => [(9, .slice (some ⟨b55, o55, none⟩) k c), (12, .slice q (2 ^ k) d), (13, .slice (if d = 2 ^ k then q else q.map (·.add (2 ^ k * RQ.size))) (m - 2 ^ k) (d - 2 ^ k)), (22, .slice g.2.1 g.2.2.1 g.2.2.2), (24, .slice p123 m123 c123), (25, .int .i64 (g.1 : Int))]) (fun g W' => Le W0 W' ∧ Sl RQ W' g.2.1 g.2.2.1 g.2.2.2 (cl (toL k (sgI k g.1 mm))) ∧ Sl RQ W' p123 m123 c123 (cl (toL k (rat k (1 / 2)))) ∧ g.1 ≤ 2 ∧ ∀ j, j < g.1 → ∀ x, mul k t.1 x x ≠ mul k t.1 (rat k (1 / 2)) (add k a.1 (sgI k j mm))) (fun g => 2 - g.1) (0, p117, m117, c117) ⟨rfl, rfl, rfl, rfl, rfl, rfl, trivial⟩ ⟨inferInstance, s117.to, s123.to, Nat.zero_le _, fun j hj => absurd hj (Nat.not_lt_zero _)⟩ ?_
            rintro ⟨i, p22, m22, c22⟩ W3 ⟨_, s22, s123, hi, hno⟩
            dsimp only at *
            refine J.seq <| J.seq <| J.reg rfl <| O.mv rfl <| O.lt rfl rfl <| JO.nil <| J.condD rfl (fun h125 => ?_) (fun h125 => ?_)
            · skip
              have hcS : Sz (s + N + 1) (toL k (add k a.1 (sgI k i mm))) := by rw [toL_add]; exact hx.add (hmiS i)
              have hhS := (Sz.half (k := k)).mul hT.1 hcS
              have hm22 : m22 = 2 ^ k := by rw [s22.hn, cl_length, hlen]
              refine J.skip <| J.seq <| J.block <| J.seq <| J.seq <| J.reg rfl <| O.mv rfl <| O.mv rfl <| O.mv rfl <| O.mv rfl <| O.mv rfl <| O.mv rfl <| ?_
              refine O.call rfl ((ref06_Add_own s62.to s22.to (by rw [hlen, hlen]) (by omega) hx.qs' (hmiS i).qs' (by omega)).own) fun W135 v135 i135 e135 h135 => ?_
              obtain ⟨p135, m135, c135, rfl, s135⟩ := h135.sl
              refine O.call rfl ((ref06_Mul_own (b := add k a.1 (sgI k i mm)) s52.to s123.to (by rw [toL_add]; exact s135.to) hT.1 Sz.half hcS (by omega) (by omega)).own) fun W136 v136 i136 e136 h136 => ?_
              obtain ⟨p136, m136, c136, rfl, s136⟩ := h136.sl
              refine O.call rfl (ih s52.to s136.to hT.1 hhS hR.1 (by omega) (by omega) hr (by omega) hv1) fun W137 v137 i137 e137 h137 => ?_
              obtain ⟨v138, b27, rfl, l26, h138, hl26, hs3, hs4⟩ := h137
              obtain ⟨p138, m138, c138, rfl, s138⟩ := h138.sl
              refine O.mv rfl <| O.ext rfl rfl <| O.ext rfl rfl <| O.as rfl <| O.as rfl <| JO.nil <| J.seq <| J.reg rfl <| O.mv rfl <| JO.nil <| J.cond rfl (fun h140 => ?_) (fun h140 => ?_)
              · skip
                obtain ⟨w, hw, rfl, hwS⟩ := hs3 h140
                have hwB : Sz B (toL k w) := hwS.mono b3
                have hw0 := sq_w0 hR hv0 (hmi i) hw
                have hm138 : m138 = 2 ^ k := by rw [s138.hn, cl_length, hlen]
                refine J.seq <| J.reg rfl <| O.mv rfl <| O.mv rfl <| O.call rfl (ref06_Inv_own s52.to s138.to hT.1 hwB hR.1 hw0 (by omega) (by omega)) fun W144 v144 i144 e144 h144 => ?_
                obtain ⟨v145, bj, rfl, hbj, h145⟩ := h144
                obtain ⟨p145, m145, c145, rfl, o145, f145⟩ := h145
                refine O.pub o145 fun W145 i145 s145 => ?_
                have hbjS := hwB.invS hT.1 hbj
                refine O.mv rfl <| O.ext rfl rfl <| O.ext rfl rfl <| O.as rfl <| O.as rfl <| JO.nil <| J.seq <| J.reg rfl <| O.mv rfl <| O.mv rfl <| O.mv rfl <| O.mv rfl <| O.mv rfl <| O.mv rfl <| ?_
                refine O.call rfl ((ref06_Mul_own s52.to s65.to s145.to hT.1 hy hbjS (by omega) (by omega)).own) fun W153 v153 i153 e153 h153 => ?_
                obtain ⟨p153, m153, c153, rfl, s153⟩ := h153.sl
                refine O.call rfl ((ref06_Mul_own s52.to s123.to s153.to hT.1 Sz.half (hy.mul hT.1 hbjS) (by omega) (by omega)).own) fun W154 v154 i154 e154 h154 => ?_
                obtain ⟨p154, m154, c154, rfl, s154⟩ := h154.sl
                have hm154 : m154 = 2 ^ k := by rw [s154.hn, cl_length, hlen]
                refine O.call rfl (ref08_join_ok s138.to s154.to (by omega) (by omega)) fun W155 v155 i155 e155 h155 => ?_
                obtain ⟨p155, m155, c155, rfl, s155⟩ := h155.sl
                refine O.as rfl <| O.as rfl <| JO.nil <| J.ret2 rfl (.tmp rfl) (.tmp rfl) fun W' iE iP => ?_
                refine ⟨_, _, rfl, _, s155.to.v, ?_, fun _ => ⟨(w, mul k t.1 (rat k (1 / 2)) (mul k t.1 a.2 bj)), ?_, ?_, ?_⟩, fun e => (nomatch e)⟩
                · rw [List.length_append, cl_length, cl_length, hlen, hlen]; omega
                · rw [L.mlc]
                  exact sq_hi (hmi i) hw (half_inv (inv_mul hbj))
                · rw [← cl_append]; rfl
                · exact (hwB.append ((Sz.half (k := k)).mul hT.1 (hy.mul hT.1 hbjS))).mono (by omega)
              · skip
                refine J.skip <| J.reg rfl <| O.mv rfl <| O.mv rfl <| ?_
                refine O.call rfl ((ref06_Neg_own s22.to (by omega)).own) fun W158 v158 i158 e158 h158 => ?_
                obtain ⟨p158, m158, c158, rfl, s158⟩ := h158.sl
                refine O.as rfl <| JO.nil <| J.bend <| J.reg rfl <| O.mv rfl <| O.add rfl rfl (wI (by omega)) <| O.as rfl <| JO.nil <| ?_
                exact J.at' (i + 1, p158, m158, c158) ⟨rfl, rfl, rfl, rfl, rfl, rfl, trivial⟩ ⟨⟨inferInstance, by show Sl RQ _ p158 m158 c158 (cl (toL k (neg k (sgI k i mm)))); rw [toL_neg]; exact s158.to, s123.to, by show i + 1 ≤ 2; omega, fun j hj x e => by
                  by_cases hji : j = i
                  · subst hji
                    exact hs4 h140 ⟨x, e⟩
                  · exact hno j (by have : j < i + 1 := hj; omega) x e⟩, by show 2 - (i + 1) < 2 - i; omega⟩
            · skip
              refine J.exit rfl <| J.seq <| J.reg rfl <| O.as rfl <| O.as rfl <| JO.nil <| J.ret2 rfl (.tmp rfl) (.tmp rfl) fun W' iE iP => ?_
              refine ⟨_, _, rfl, [], (nil_sl _ _ _).v, Nat.zero_le _, fun e => (nomatch e), fun _ e => ?_⟩
              obtain ⟨x, hx0, hx⟩ := sq_hi_no hR.1 hv0 hmm e
              rcases hx with hx | hx
              · exact hno 0 (by omega) x hx
              · exact hno 1 (by omega) x hx
end
end Go.Proofs.YtcaikjefkkejbaaGreat
