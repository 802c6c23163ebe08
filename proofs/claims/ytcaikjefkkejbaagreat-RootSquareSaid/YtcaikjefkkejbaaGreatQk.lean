/- The reference's roots: root, Reduced, Square. -/
import Derived.Test.YtcaikjefkkejbaaGreatQi
set_option linter.unusedVariables false
set_option linter.unusedSimpArgs false
set_option maxRecDepth 10000
set_option maxHeartbeats 4000000
namespace Go.Proofs.YtcaikjefkkejbaaGreat
open Go Go.Rx Go.Num Go.Tow
section
theorem zB_le (r s : Nat) : ∀ {i k : Nat}, i ≤ k → zB r i s ≤ zB r k s := by
  intro i k h
  induction h with
  | refl => exact Nat.le_refl _
  | step h ih =>
    rename_i m
    refine Nat.le_trans ih (Nat.le_trans (zB_mono (nS_ge r m s)) ?_)
    show zB r m (nS r m s) ≤ _ + zB r m (nS r m s) + _
    omega
theorem ref08_root_ok {k : Nat} {W : GW} {p q : Option Addr} {n c m d r s : Nat} {t : Tw k} {a : El k} (h : Sl RE W p n c (ct (toT k t))) (h' : Sl RQ W q m d (cl (toL k a))) (hT : TS r k t) (ha : Sz s (toL k a)) (hR : red k t) (hk : k ≤ 8) (hq : qB r k s ≤ 4398046511104) (hr : r ≤ 4398046511104)
    (hz : zB r k s ≤ 8796093022208) (hv : vB r k r ≤ 8796093022208) (hv' : vB r k (sB r k s) ≤ 8796093022208) :
    Ok Tryz.prog 40 [.slice p n c, .slice q m d] W fun W' v => ∃ v1 b, v = .tuple #[v1, .bool b] ∧ PosE (sB r k s) k t a W' v1 b := by
  have hn : n = k := by rw [h.hn, ct_length]
  have hsb : sB r k s ≤ 8796093022208 := Nat.le_trans (vB_ge k _) hv'
  have S := sgn_ok (red_real hR)
  have hp := pow_le (show k ≤ 16 by omega)
  refine Ok.enter Tryz.func40 rfl rfl rfl rfl fun W0 iEn => ?_
  refine J.seq <| J.reg rfl <| O.as rfl <| O.as rfl <| JO.nil <| J.seq <| J.reg rfl <| O.mv rfl <| O.mv rfl <| O.call rfl (ref08_square_ok h.to h'.to hT ha hR hk hq hr hz hv) fun W11 v11 i11 e11 h11 => ?_
  obtain ⟨v12, b7, rfl, l6, h12, hl6, hs1, hs2⟩ := h11
  obtain ⟨p12, m12, c12, rfl, s12⟩ := h12.sl
  refine O.mv rfl <| O.ext rfl rfl <| O.ext rfl rfl <| O.as rfl <| O.as rfl <| JO.nil <| J.seq <| J.seq <| J.reg rfl <| O.mv rfl <| O.not rfl <| JO.nil <| J.cond rfl (fun h15 => ?_) (fun h15 => ?_)
  · skip
    refine J.seq <| J.reg rfl <| O.as rfl <| O.as rfl <| JO.nil <| J.ret2 rfl (.tmp rfl) (.tmp rfl) fun W' iE iP => ?_
    exact ⟨_, _, rfl, [], (nil_sl _ _ _).v, fun e => (nomatch e), fun _ => ⟨hs2 (by simpa using h15), rfl⟩⟩
  · skip
    obtain ⟨w, hw, rfl, hwS⟩ := hs1 (by simpa using h15)
    refine J.skip <| J.seq <| J.seq <| J.reg rfl <| O.mv rfl <| O.mv rfl <| ?_
    refine O.call rfl (ref07_Sign_ok (r := r) (s := sB r k s) (SgnIs.ct (a := w) (red_real hR)) h.to s12.to (small_ct hT (by omega)) (small_cl hwS.qs' (by omega)) (by omega) (TSR_ct hT) (SZR_cl hwS) (by rw [hn]; exact hv) (by rw [hn]; exact hv')) fun W18 v18 i18 e18 h18 => ?_
    subst h18
    refine O.lt rfl rfl <| JO.nil <| J.condD rfl (fun h19 => ?_) (fun h19 => ?_)
    · skip
      refine J.reg rfl <| O.mv rfl <| O.mv rfl <| ?_
      refine O.call rfl ((ref06_Neg_own s12.to (by rw [s12.hn, cl_length, toL_length]; omega)).own) fun W22 v22 i22 e22 h22 => ?_
      obtain ⟨p22, m22, c22, rfl, s22⟩ := h22.sl
      refine O.as rfl <| JO.nil <| J.seq <| J.reg rfl <| O.mv rfl <| O.as rfl <| O.as rfl <| JO.nil <| J.ret2 rfl (.tmp rfl) (.tmp rfl) fun W' iE iP => ?_
      rw [← toL_neg] at s22
      refine ⟨_, _, rfl, _, s22.to.v, fun _ => ⟨neg k w, ?_, ?_, rfl, ?_⟩, fun e => (nomatch e)⟩
      · have L := ring k t
        rw [L.mn, L.nm, L.nn, hw]
      · rw [S.sn]; omega
      · rw [toL_neg]; exact hwS.neg
    · skip
      refine J.skip <| J.seq <| J.reg rfl <| O.mv rfl <| O.as rfl <| O.as rfl <| JO.nil <| J.ret2 rfl (.tmp rfl) (.tmp rfl) fun W' iE iP => ?_
      exact ⟨_, _, rfl, _, s12.to.v, fun _ => ⟨w, hw, by omega, rfl, hwS⟩, fun e => (nomatch e)⟩
theorem SqE.b {s k : Nat} {t : Tw k} {a : El k} {W : GW} {v : Value} {b bs : Bool} (h : SqE s k t a W v b) (hb : bs = true ↔ isSq k t a) : b = bs := by
  obtain ⟨l, _, _, h1, h2⟩ := h
  cases b
  · cases bs
    · rfl
    · exact absurd (hb.1 rfl) (h2 rfl)
  · obtain ⟨w, hw, _⟩ := h1 rfl
    exact (hb.2 ⟨w, hw⟩).symm
/-- a pair whose second part is known -/
def OkB (b : Bool) (_ : GW) (v : Value) : Prop := ∃ v1, v = .tuple #[v1, .bool b]
theorem OkB.me {b : Bool} : MonoR (OkB b) := fun _ _ _ _ h => h
def Any (_ : GW) (_ : Value) : Prop := True
theorem Any.me : MonoR Any := fun _ _ _ _ h => h
section
variable {W : GW} {p : Option Addr} {n c r : Nat} {t : List (List Raw)}
theorem ref08_Reduced_ok {N : Nat} (h : Sl RE W p n c t) (hl : ∀ r ∈ t, ∀ i ∈ r, smallR i) (hn8 : n ≤ 8) (hN : n ≤ N + 1) (hS : SZT r t) (hq : qB r N r ≤ 4398046511104) (hv : vB r N r ≤ 8796093022208) (hz : zB r N r ≤ 8796093022208) :
    Ok Tryz.prog 23 [.slice p n c] W fun _ v => ∃ b, v = .bool b ∧ (b = true ↔ redR t) := by
  have hn := h.hn
  have hcc := h.hc
  have hCC := h.hC
  have hr := Nat.le_trans (qB_ge N r) hq
  refine Ok.enter Tryz.func23 rfl rfl rfl rfl fun W0 iEn => ?_
  refine J.seq <| J.reg rfl <| O.as rfl <| JO.nil <| J.seq <| J.seq <| J.reg rfl <| O.as rfl <| JO.nil <| J.block <| ?_
  refine J.loop (α := Nat) (fun i => [(0, .slice p n c), (3, .int .i64 (i : Int))]) (fun i W' => Le W0 W' ∧ i ≤ n ∧ ∃ v : Tw i, t.take i = ct (toT i v) ∧ red i v) (fun i => n - i) 0 ⟨rfl, rfl, trivial⟩ ⟨inferInstance, Nat.zero_le _, (), rfl, trivial⟩ ?_
  rintro i W3 ⟨_, hi, v, hv1, hvr⟩
  refine J.seq <| J.seq <| J.reg rfl <| O.mv rfl <| O.mv rfl <| O.len rfl <| O.lt rfl rfl <| JO.nil <| J.condD rfl (fun h9 => ?_) (fun h9 => ?_)
  · skip
    obtain ⟨u, hu⟩ : ∃ u, t[i]? = some u := ⟨_, List.getElem?_eq_getElem (by omega)⟩
    have hul := hl u (List.mem_of_getElem? hu)
    have hTv := SZT.ts hS hv1
    have s14 := h.take i (by omega)
    rw [hv1] at s14
    have s24 := s14
    have s35 := s14
    obtain ⟨bf, hbf⟩ := dec_ex (okT (ct (toT i v)) ∧ okE (2 ^ (ct (toT i v)).length) u)
    refine J.skip <| J.seq <| J.block <| J.seq <| J.seq <| ?_
    cases bf
    · skip
      obtain ⟨b17, o17, rfl, hj17, hb17⟩ := (h).placeP hu
      refine J.draw [.ex _, .ex _, .ex _, .ex _, .ex _, .ex _, .rel _, .ex _, .ex _, .ex _, .ex _, .ex _, .ex _, .ex _, .ex _, .ex _, .ex _, .ex _, .ex _, .ex _] rfl rfl ⟨fun Wd id ed _ => O.mv rfl <| D.ex, fun Wd id ed _ => O.mv rfl <| D.ex, fun Wd id ed _ => O.slh (hi := i) rfl rfl rfl (by omega) <| D.ex, fun Wd id ed _ => O.mv rfl <| D.ex, fun Wd id ed _ => O.mv rfl <| D.ex, fun Wd id ed _ => O.ia (j := i) rfl rfl rfl hj17 <| D.ex, fun Wd id ed _ => O.ldTD rfl hb17.to.h rfl rfl (fun _ => rfl), fun Wd id ed _ => fun v18 h18 => (by obtain ⟨p18, m18, c18, rfl, s18⟩ := h18.sl; exact O.call rfl ((ref06_Formed_ok s14.to s18 (small_ct hTv (by omega)) hul (by rw [ct_length]; omega)).eqB hbf) fun Wd vd id ed hd => D.eq ed hd), fun Wd id ed _ => O.not rfl <| D.ex, fun Wd id ed _ => O.mv rfl <| D.ex, fun Wd id ed _ => O.gs rfl rfl rfl <| D.ex, fun Wd id ed _ => O.gs rfl rfl rfl <| D.ex, fun Wd id ed _ => O.gs rfl rfl rfl <| D.ex, fun Wd id ed _ => O.gs rfl rfl rfl <| D.ex, fun Wd id ed _ => O.gs rfl rfl rfl <| D.ex, fun Wd id ed _ => O.gs rfl rfl rfl <| D.ex, fun Wd id ed _ => O.gs rfl rfl rfl <| D.ex, fun Wd id ed _ => O.gs rfl rfl rfl <| D.ex, fun Wd id ed _ => O.gs rfl rfl rfl <| D.ex, fun Wd id ed _ => O.pickT rfl rfl <| D.ex, trivial⟩ ?_
      intro Wr4 ir4 er4 v18 h18
      obtain ⟨p18, m18, c18, rfl, s18⟩ := h18.sl
      refine JO.nil <| J.condT rfl <| J.seq <| J.reg rfl <| O.as rfl <| JO.nil <| J.ret1 rfl (.tmp rfl) fun W' iE iP => ?_
      refine ⟨false, rfl, fun e => (nomatch e), fun e => ?_⟩
      have := hbf.2 ⟨okT_ct v, by rw [ct_length]; exact redR_ok e i u hu⟩
      cases this
    · skip
      have hbf2 := (hbf.1 rfl).2
      rw [ct_length] at hbf2
      obtain ⟨a, rfl⟩ := okE_typed (k := i) (l := u) hbf2
      have haS := hS _ (List.mem_of_getElem? hu) _ rfl
      obtain ⟨bs, hbs⟩ := dec_ex (isSq i v a)
      obtain ⟨b17, o17, rfl, hj17, hb17⟩ := (h).placeP hu
      obtain ⟨hj27, hb27⟩ := (h).placeQ hu
      refine J.draw [.ex _, .ex _, .ex _, .ex _, .ex _, .ex _, .rel _, .ex _, .ex _, .ex _, .ex _, .ex _, .ex _, .ex _, .ex _, .ex _, .rel _, .ex _, .ex _, .ex _] rfl rfl ⟨fun Wd id ed _ => O.mv rfl <| D.ex, fun Wd id ed _ => O.mv rfl <| D.ex, fun Wd id ed _ => O.slh (hi := i) rfl rfl rfl (by omega) <| D.ex, fun Wd id ed _ => O.mv rfl <| D.ex, fun Wd id ed _ => O.mv rfl <| D.ex, fun Wd id ed _ => O.ia (j := i) rfl rfl rfl hj17 <| D.ex, fun Wd id ed _ => O.ldTD rfl hb17.to.h rfl rfl (fun _ => rfl), fun Wd id ed _ => fun v18 h18 => (by obtain ⟨p18, m18, c18, rfl, s18⟩ := h18.sl; exact O.call rfl ((ref06_Formed_ok s14.to s18 (small_ct hTv (by omega)) hul (by rw [ct_length]; omega)).eqB hbf) fun Wd vd id ed hd => D.eq ed hd), fun Wd id ed _ => O.not rfl <| D.ex, fun Wd id ed _ => O.mv rfl <| D.ex, fun Wd id ed _ => O.gt rfl rfl <| O.mv rfl <| D.ex, fun Wd id ed _ => O.gt rfl rfl <| O.mv rfl <| D.ex, fun Wd id ed _ => O.gt rfl rfl <| O.slh (hi := i) rfl rfl rfl (by omega) <| D.ex, fun Wd id ed _ => O.gt rfl rfl <| O.mv rfl <| D.ex, fun Wd id ed _ => O.gt rfl rfl <| O.mv rfl <| D.ex, fun Wd id ed _ => O.gt rfl rfl <| O.ia (j := i) rfl rfl rfl hj27 <| D.ex, fun Wd id ed _ => O.gt rfl rfl <| O.ldTD rfl hb27.to.h rfl rfl (fun _ => rfl), fun Wd id ed _ => fun v28 h28 => (by obtain ⟨p28, m28, c28, rfl, s28⟩ := h28.sl; exact O.gt rfl rfl <| O.call rfl (ref07_Sign_ok (r := r) (s := r) (SgnIs.ct (a := a) (red_real hvr)) s24.to s28 (small_ct hTv (by omega)) hul (by omega) (TSR_ct hTv) (SZR_cl haS) (Nat.le_trans (vB_le r r (by omega)) hv) (Nat.le_trans (vB_le r r (by omega)) hv)) fun Wd vd id ed hd => D.eq ed hd), fun Wd id ed _ => O.gt rfl rfl <| O.le rfl rfl <| D.ex, fun Wd id ed _ => O.pickF rfl rfl <| D.ex, trivial⟩ ?_
      intro Wr4 ir4 er4 v18 h18 v28 h28
      obtain ⟨p18, m18, c18, rfl, s18⟩ := h18.sl
      obtain ⟨p28, m28, c28, rfl, s28⟩ := h28.sl
      refine JO.nil <| J.condD rfl (fun h31 => ?_) (fun h31 => ?_)
      · skip
        refine J.seq <| J.reg rfl <| O.as rfl <| JO.nil <| J.ret1 rfl (.tmp rfl) fun W' iE iP => ?_
        exact ⟨false, rfl, fun e => (nomatch e), fun e => absurd (redR_at e hv1 hu).1 (by omega)⟩
      · skip
        refine J.skip <| J.seq <| ?_
        obtain ⟨hj38, hb38⟩ := (h).placeQ hu
        refine J.draw [.ex _, .ex _, .ex _, .ex _, .ex _, .ex _, .rel _, .rel _, .rel _, .rel _, .ex _, .rel _] rfl rfl ⟨fun Wd id ed _ => O.mv rfl <| D.ex, fun Wd id ed _ => O.mv rfl <| D.ex, fun Wd id ed _ => O.slh (hi := i) rfl rfl rfl (by omega) <| D.ex, fun Wd id ed _ => O.mv rfl <| D.ex, fun Wd id ed _ => O.mv rfl <| D.ex, fun Wd id ed _ => O.ia (j := i) rfl rfl rfl hj38 <| D.ex, fun Wd id ed _ => O.ldTD rfl hb38.to.h rfl rfl (fun _ => rfl), fun Wd id ed _ => fun v39 h39 => (by obtain ⟨p39, m39, c39, rfl, s39⟩ := h39.sl; exact O.call rfl (ref08_square_ok s35.to s39 hTv haS hvr (by omega) (Nat.le_trans (qB_le r r (by omega)) hq) (by omega) (Nat.le_trans (zB_le r r (by omega)) hz) (Nat.le_trans (vB_le r r (by omega)) hv)) fun Wd vd id ed hd => D.rel (R := OkB bs) ed (by obtain ⟨v1, b, rfl, hd⟩ := hd; exact ⟨v1, by rw [SqE.b hd hbs]⟩) OkB.me), fun Wd id ed _ => fun v40 h40 => O.mv rfl <| D.rel (R := OkB bs) (Ext.refl _) h40 OkB.me, fun Wd id ed _ => fun v32 h32 => (by obtain ⟨v1, rfl⟩ := h32; exact O.ext rfl rfl <| D.rel (R := Any) (Ext.refl _) trivial Any.me), fun Wd id ed _ => fun v32 h32 => (by obtain ⟨v1, rfl⟩ := h32; exact O.ext rfl rfl <| D.ex), fun Wd id ed _ => fun _ _ => fun _ _ => fun v39 h39 => fun v40 h40 => fun v32 h32 => fun v41 h41 => O.as rfl <| D.rel (R := Any) (Ext.refl _) trivial Any.me, trivial⟩ ?_
        intro Wr6 ir6 er6 v39 h39 v40 h40 v32 h32 v41 h41 v4 h4
        obtain ⟨p39, m39, c39, rfl, s39⟩ := h39.sl
        refine O.as rfl <| JO.nil <| J.seq <| J.reg rfl <| O.mv rfl <| JO.nil <| J.cond rfl (fun h43 => ?_) (fun h43 => ?_)
        · skip
          refine J.seq <| J.reg rfl <| O.as rfl <| JO.nil <| J.ret1 rfl (.tmp rfl) fun W' iE iP => ?_
          exact ⟨false, rfl, fun e => (nomatch e), fun e => absurd (hbs.1 h43) (redR_at e hv1 hu).2⟩
        · skip
          refine J.skip <| J.bend <| J.reg rfl <| O.mv rfl <| O.add rfl rfl (wI (by omega)) <| O.as rfl <| JO.nil <| ?_
          exact J.at' (i + 1) ⟨rfl, rfl, trivial⟩ ⟨⟨inferInstance, by omega, tsn v a, take_snocT hv1 hu, hvr, by have := sgn_tri v a; show sgn i v a = 1; omega, fun e => by rw [hbs.2 e] at h43; cases h43⟩, by omega⟩
  · skip
    refine J.exit rfl <| J.seq <| J.reg rfl <| O.as rfl <| JO.nil <| J.ret1 rfl (.tmp rfl) fun W' iE iP => ?_
    refine ⟨true, rfl, fun _ => ?_, fun _ => rfl⟩
    have hin : i = n := by omega
    rw [List.take_of_length_le (by omega)] at hv1
    exact ⟨i, v, hv1, hvr⟩
theorem ref08_Square_ok {q : Option Addr} {m d s : Nat} {l out : List Raw} {b : Bool} (hz : SqIs t l b out) (h : Sl RE W p n c t) (h' : Sl RQ W q m d l) (hl : ∀ r ∈ t, ∀ i ∈ r, smallR i) (hl' : ∀ i ∈ l, smallR i) (hn8 : n ≤ 8) (hS : SZT r t) (hS' : SZR s l)
    (hq : qB r n r ≤ 4398046511104) (hv : vB r n r ≤ 8796093022208) (hz1 : zB r n r ≤ 8796093022208) (hq' : qB r n s ≤ 4398046511104) (hz2 : zB r n s ≤ 8796093022208) (hv' : vB r n (sB r n s) ≤ 8796093022208) :
    Ok Tryz.prog 16 [.slice p n c, .slice q m d] W fun W' v => ∃ v1, v = .tuple #[v1, .bool b] ∧ V RE W' v1 out ∧ SZR (sB r n s) out := by
  have hn := h.hn
  have hr := Nat.le_trans (qB_ge n r) hq
  have fin0 : (¬ ∃ (k : Nat) (w : Tw k) (a : El k), t = ct (toT k w) ∧ l = cl (toL k a) ∧ red k w ∧ isSq k w a) → b = false ∧ out = [] := fun h => hz.uniq (.inr ⟨h, rfl, rfl⟩)
  have nil0 : SZR (sB r n s) [] := fun xs e => by
    obtain rfl : xs = [] := cl_inj (ys := []) e.symm
    exact Sz.nil.mono (sB_pos r n s)
  refine Ok.enter Tryz.func16 rfl rfl rfl rfl fun W0 iEn => ?_
  refine J.seq <| J.reg rfl <| O.as rfl <| O.as rfl <| JO.nil <| J.seq <| J.seq <| J.reg rfl <| O.mv rfl <| O.call rfl (ref08_Reduced_ok h.to hl hn8 (Nat.le_succ n) hS hq hv hz1) fun W7 v7 i7 e7 h7 => ?_
  obtain ⟨br, rfl, hbr⟩ := h7
  refine O.not rfl <| O.mv rfl <| ?_
  by_cases hg9 : br = false
  · skip
    refine O.set (t := 9) (.bool true) rfl (by simp [hg9]) <| O.gs rfl rfl rfl <| O.gs rfl rfl rfl <| O.gs rfl rfl rfl <| O.gs rfl rfl rfl <| O.pickT rfl rfl <| JO.nil <| J.condT rfl <| J.seq <| J.reg rfl <| O.as rfl <| O.as rfl <| JO.nil <| J.ret2 rfl (.tmp rfl) (.tmp rfl) fun W' iE iP => ?_
    obtain ⟨rfl, rfl⟩ := fin0 fun ⟨k, w, a, h1, h2, h3, _⟩ => by
      have := hbr.2 ⟨k, w, h1, h3⟩
      rw [this] at hg9; cases hg9
    exact ⟨_, rfl, (nil_sl _ _ _).v, nil0⟩
  · skip
    refine O.set (t := 9) (.bool false) rfl (by simp at hg9; simp [hg9]) <| O.gt rfl rfl <| O.mv rfl <| O.gt rfl rfl <| O.mv rfl <| O.gt rfl rfl <| O.call rfl (ref06_Formed_ok h.to h'.to hl hl' (by omega)) fun W12 v12 i12 e12 h12 => ?_
    obtain ⟨bf, rfl, hbf⟩ := h12
    refine O.gt rfl rfl <| O.not rfl <| O.pickF rfl rfl <| JO.nil <| J.cond rfl (fun h14 => ?_) (fun h14 => ?_)
    · skip
      refine J.seq <| J.reg rfl <| O.as rfl <| O.as rfl <| JO.nil <| J.ret2 rfl (.tmp rfl) (.tmp rfl) fun W' iE iP => ?_
      obtain ⟨rfl, rfl⟩ := fin0 fun ⟨k, w, a, h1, h2, _, _⟩ => by
        subst h1; subst h2
        have := hbf.2 ⟨okT_ct w, okE_cl (by rw [toL_length, ct_length])⟩
        rw [this] at h14; cases h14
      exact ⟨_, rfl, (nil_sl _ _ _).v, nil0⟩
    · skip
      obtain ⟨k, w, a, rfl, rfl, hw⟩ := okT_redR (hbf.1 (by simpa using h14)).1 (hbf.1 (by simpa using h14)).2 (hbr.1 (by simpa using hg9))
      rw [ct_length] at hn
      subst hn
      refine J.skip <| J.seq <| J.reg rfl <| O.mv rfl <| O.mv rfl <| O.call rfl (ref08_root_ok h.to h'.to (SZT.ts hS (List.take_of_length_le (by rw [ct_length]; exact Nat.le_refl _))) (hS' _ rfl) hw hn8 hq' (by omega) hz2 hv hv') fun W17 v17 i17 e17 h17 => ?_
      obtain ⟨v18, b5, rfl, l4, h18, hs1, hs2⟩ := h17
      refine O.ext rfl rfl <| O.ext rfl rfl <| O.as rfl <| O.as rfl <| JO.nil <| J.ret2 rfl (.tmp rfl) (.tmp rfl) fun W' iE iP => ?_
      cases b5
      · obtain ⟨g1, rfl⟩ := hs2 rfl
        obtain ⟨rfl, rfl⟩ := fin0 fun ⟨j, w', a', e1, e2, _, e4⟩ => by
          obtain rfl := ct_inj2 e1
          obtain rfl := toT_inj (ct_inj e1)
          obtain rfl := toL_inj (cl_inj e2)
          exact g1 e4
        exact ⟨_, rfl, h18.to, nil0⟩
      · obtain ⟨x, g1, g2, rfl, g4⟩ := hs1 rfl
        obtain ⟨rfl, rfl⟩ := hz.uniq (.inl ⟨_, w, a, x, rfl, rfl, hw, g1, g2, rfl, rfl⟩)
        exact ⟨_, rfl, h18.to, SZR_cl g4⟩
end
end
section
theorem ref08_Longer_ok {W : GW} {p : Option Addr} {n c s : Nat} {l : List Raw} (h : Sl RQ W p n c l) (hs : s ≤ 16) (hn0 : n ≤ 65536) (hn1 : n * 2 ^ s ≤ 1073741824) :
    Ok Tryz.prog 33 [.slice p n c, .int .i64 (s : Int)] W fun W' r => V RE W' r (l ++ List.replicate (n * 2 ^ s - n) (cq 0)) := by
  have hn := h.hn
  have hp0 := Nat.two_pow_pos s
  have hle : n ≤ n * 2 ^ s := Nat.le_mul_of_pos_right _ hp0
  refine Ok.own ?_
  refine Ok.enter Tryz.func33 rfl rfl rfl rfl fun W0 iEn => ?_
  refine J.seq <| J.reg rfl <| O.as rfl <| JO.nil <| J.seq <| J.reg rfl <| O.bso (r := RQ) [] (vs := []) rfl trivial rfl rfl rfl (by decide) (.inl rfl) (by decide) fun W2 b2 i2 e2 hb2 o2 => O.mv rfl <| O.app rfl rfl o2 h.to rfl rfl (by omega) (by omega) fun W3 p3 c3 i3 o3 => O.as rfl <| JO.nil <| J.seq <| J.block <| ?_
  refine J.loop (α := Nat × Option Addr × Nat) (fun g => [(0, .slice p n c), (1, .int .i64 (s : Int)), (5, .slice g.2.1 g.1 g.2.2)]) (fun g W' => Le W0 W' ∧ Ows RQ W' g.2.1 g.1 g.2.2 (l ++ List.replicate (g.1 - n) (cq 0)) ∧ n ≤ g.1 ∧ g.1 ≤ n * 2 ^ s) (fun g => n * 2 ^ s - g.1) (0 + n, p3, c3) ⟨rfl, rfl, rfl, trivial⟩ ⟨inferInstance, by dsimp only; rw [show 0 + n - n = 0 from by omega]; simpa using o3, by show n ≤ 0 + n; omega, by show 0 + n ≤ _; omega⟩ ?_
  rintro ⟨m, p5, c5⟩ W3 ⟨_, ho, hm1, hm⟩
  dsimp only at *
  refine J.seq <| J.seq <| J.reg rfl <| O.mv rfl <| O.len rfl <| O.mv rfl <| O.len rfl <| O.mv rfl <| O.shl rfl rfl (by omega) (shl_len hs hn1) <| O.lt rfl rfl <| JO.nil <| J.condD rfl (fun h15 => ?_) (fun h15 => ?_)
  · skip
    refine J.skip <| J.block <| J.reg rfl <| O.mv rfl <| O.call rfl (ref02_FromInt_ok (z := 0) (by decide)) fun W4 v4 i4 e4 h4 => ?_
    have ho4 := ho.ext e4
    refine O.app1 (r := RQ) (u := cq 0) (fun _ => rfl) rfl ho4 h4 rfl rfl (by decide) (.inl rfl) (by decide) (by omega) (by omega) fun W5 p6 c6 v5 i5 o5 => O.as rfl <| JO.nil <| J.bend <| ?_
    exact J.at' (m + 1, p6, c6) ⟨rfl, rfl, rfl, trivial⟩ ⟨⟨inferInstance, by rw [repl_more l hm1]; exact o5, by show n ≤ m + 1; omega, by show m + 1 ≤ _; omega⟩, by show n * 2 ^ s - (m + 1) < n * 2 ^ s - m; omega⟩
  · skip
    refine J.exit rfl <| J.seq <| J.reg rfl <| O.mv rfl <| O.as rfl <| JO.nil <| ?_
    have hmn : m = n * 2 ^ s := by omega
    subst hmn
    refine J.ret1o rfl (.tmp rfl) fun W' iE iO => ?_
    exact ho.ret iE iO
section
variable {W : GW} {p : Option Addr} {n c r : Nat} {t : List (List Raw)}
theorem ref08_Lift_ok {q : Option Addr} {m d : Nat} {l out : List Raw} {more : Int} (hz : LiftIs t l more out) (h : Sl RE W p n c t) (h' : Sl RQ W q m d l) (hl : ∀ r ∈ t, ∀ i ∈ r, smallR i) (hl' : ∀ i ∈ l, smallR i) (hn8 : n ≤ 8) (hmo : -1000 ≤ more ∧ more ≤ 1000) :
    Ok Tryz.prog 27 [.slice p n c, .slice q m d, .int .i64 more] W fun W' v => V RE W' v out := by
  have hn := h.hn
  have hm := h'.hn
  have fin0 : ¬ (okT t ∧ okE (2 ^ t.length) l ∧ 0 ≤ more ∧ more + t.length ≤ 8) → out = [] := fun h => hz.uniq (.inr ⟨h, rfl⟩)
  refine Ok.enter Tryz.func27 rfl rfl rfl rfl fun W0 iEn => ?_
  refine J.seq <| J.reg rfl <| O.as rfl <| JO.nil <| J.seq <| J.seq <| J.reg rfl <| O.mv rfl <| O.mv rfl <| O.call rfl (ref06_Formed_ok h.to h'.to hl hl' (by omega)) fun W9 v9 i9 e9 h9 => ?_
  obtain ⟨bf, rfl, hbf⟩ := h9
  refine O.not rfl <| O.mv rfl <| ?_
  by_cases hg11 : bf = false
  · skip
    refine O.set (t := 11) (.bool true) rfl (by simp [hg11]) <| O.gs rfl rfl rfl <| O.gs rfl rfl rfl <| O.pickT rfl rfl <| O.mv rfl <| O.gs rfl rfl rfl <| O.gs rfl rfl rfl <| O.gs rfl rfl rfl <| O.gs rfl rfl rfl <| O.gs rfl rfl rfl <| O.pickT rfl rfl <| JO.nil <| J.condT rfl <| J.seq <| J.reg rfl <| O.as rfl <| JO.nil <| J.ret1 rfl (.tmp rfl) fun W' iE iP => ?_
    rw [fin0 fun e => by rw [hbf.2 ⟨e.1, e.2.1⟩] at hg11; cases hg11]
    exact (nil_sl _ _ _).v
  · skip
    refine O.set (t := 11) (.bool false) rfl (by simp at hg11; simp [hg11]) <| O.gt rfl rfl <| O.mv rfl <| O.gt rfl rfl <| O.lt rfl rfl <| O.pickF rfl rfl <| O.mv rfl <| ?_
    by_cases hg15 : more < 0
    · skip
      refine O.set (t := 15) (.bool true) rfl (by simp only [Value.bool.injEq, decide_eq_true_eq, decide_eq_false_iff_not]; omega) <| O.gs rfl rfl rfl <| O.gs rfl rfl rfl <| O.gs rfl rfl rfl <| O.gs rfl rfl rfl <| O.gs rfl rfl rfl <| O.pickT rfl rfl <| JO.nil <| J.condT rfl <| J.seq <| J.reg rfl <| O.as rfl <| JO.nil <| J.ret1 rfl (.tmp rfl) fun W' iE iP => ?_
      rw [fin0 fun e => by omega]
      exact (nil_sl _ _ _).v
    · skip
      refine O.set (t := 15) (.bool false) rfl (by simp only [Value.bool.injEq, decide_eq_true_eq, decide_eq_false_iff_not]; omega) <| O.gt rfl rfl <| O.mv rfl <| O.gt rfl rfl <| O.mv rfl <| O.gt rfl rfl <| O.len rfl <| O.gt rfl rfl <| O.sb (r := 8 - (n : Int)) rfl rfl ((wI (by omega)).trans (by omega)) <| O.gt rfl rfl <| O.gtr rfl rfl <| O.pickF rfl rfl <| JO.nil <| J.condD rfl (fun h21 => ?_) (fun h21 => ?_)
      · skip
        refine J.seq <| J.reg rfl <| O.as rfl <| JO.nil <| J.ret1 rfl (.tmp rfl) fun W' iE iP => ?_
        rw [fin0 fun e => by omega]
        exact (nil_sl _ _ _).v
      · skip
        obtain ⟨s, rfl⟩ : ∃ s : Nat, more = (s : Int) := ⟨more.toNat, by omega⟩
        have hf := hbf.1 (by simpa using hg11)
        have hml : m = 2 ^ n := by rw [hm, hf.2.1, hn]
        have h28 := pow8 hn8
        have hs8 := pow8 (show s ≤ 8 by omega)
        have hms : m * 2 ^ s ≤ 256 * 256 := Nat.mul_le_mul (by omega) hs8
        have ho : out = l ++ List.replicate (m * 2 ^ s - m) (cq 0) := by
          rw [hm]; exact hz.uniq (.inl ⟨s, rfl, by omega, hf.1, hf.2, rfl⟩)
        refine J.skip <| J.seq <| J.reg rfl <| O.mv rfl <| O.mv rfl <| ?_
        refine O.call rfl (ref08_Longer_ok h'.to (by omega) (by omega) (by omega)) fun W24 v24 i24 e24 h24 => ?_
        obtain ⟨p24, m24, c24, rfl, s24⟩ := h24.sl
        refine O.as rfl <| JO.nil <| J.ret1 rfl (.tmp rfl) fun W' iE iP => ?_
        rw [ho]; exact s24.to.v
theorem ref08_Extend_ok {q : Option Addr} {m d s k : Nat} {w : Tw k} {a : El k} {out : List Raw} {tout : List (List Raw)} {e : Int} (hz : AdjIs (ct (toT k w)) (cl (toL k a)) tout out e) (h : Sl RE W p n c (ct (toT k w))) (h' : Sl RQ W q m d (cl (toL k a))) (hw : red k w) (hn4 : k ≤ 4) (hT : TS r k w) (ha : Sz s (toL k a))
    (hr : r ≤ 4398046511104) (hv : vB r k r ≤ 8796093022208) (hq' : qB r k s ≤ 4398046511104) (hz' : zB r k s ≤ 8796093022208) (hv' : vB r k (sB r k s) ≤ 8796093022208) (hv2 : vB r k s ≤ 8796093022208) :
    Ok Tryz.prog 64 [.slice p n c, .slice q m d] W fun W' v => ∃ v1 v2, v = .tuple #[v1, v2, .int .i64 e] ∧ V RT W' v1 tout ∧ V RE W' v2 out ∧ SZR (sB r k s + 3) out := by
  have hn : n = k := by rw [h.hn, ct_length]
  subst hn
  have hm := h'.hn
  have hs := Nat.le_trans (qB_ge n s) hq'
  have nil0 : SZR (sB r n s + 3) [] := fun xs e => by
    obtain rfl : xs = [] := cl_inj (ys := []) e.symm
    exact Sz.nil.mono (by omega)
  have hT2 : TS (r + s) (n + 1) (tsn w a) := ⟨TS_mono (by omega) hT, ha.mono (by omega)⟩
  have hsm := small_cl ha.qs' (show s ≤ 17592186044416 by omega)
  have hz2 := @fun t1 o1 e1 h => hz.uniq (t2 := t1) (o2 := o1) (e2 := e1) (.inr ⟨n, w, a, rfl, rfl, hw, h⟩)
  refine Ok.enter Tryz.func64 rfl rfl rfl rfl fun W0 iEn => ?_
  refine J.seq <| J.reg rfl <| O.as rfl <| O.as rfl <| O.as rfl <| JO.nil <| J.seq <| J.seq <| J.reg rfl <| O.mv rfl <| O.mv rfl <| ?_
  refine O.call rfl (ref07_Sign_ok (r := r) (s := s) (SgnIs.ct (a := a) (red_real hw)) h.to h'.to (small_ct hT (by omega)) hsm (by omega) (TSR_ct hT) (SZR_cl ha) hv hv2) fun W12 v12 i12 e12 h12 => ?_
  subst h12
  refine O.lt rfl rfl <| JO.nil <| J.condD rfl (fun h13 => ?_) (fun h13 => ?_)
  · skip
    refine J.seq <| J.reg rfl <| O.as rfl <| O.as rfl <| O.as rfl <| JO.nil <| J.ret3 rfl (.tmp rfl) (.tmp rfl) (.tmp rfl) fun W' iE iP => ?_
    obtain ⟨rfl, rfl, rfl⟩ := hz2 _ _ _ (.inl ⟨h13, rfl, rfl, rfl⟩)
    exact ⟨_, _, rfl, (nil_sl _ _ _).v, (nil_sl _ _ _).v, nil0⟩
  · skip
    refine J.skip <| J.seq <| J.seq <| J.reg rfl <| O.mv rfl <| O.mv rfl <| O.call rfl (ref08_root_ok h.to h'.to hT ha hw (by omega) hq' hr hz' hv hv') fun W17 v17 i17 e17 h17 => ?_
    obtain ⟨v18, b8, rfl, l7, h18, hs1, hs2⟩ := h17
    obtain ⟨p18, m18, c18, rfl, s18⟩ := h18.sl
    refine O.mv rfl <| O.ext rfl rfl <| O.ext rfl rfl <| O.as rfl <| O.as rfl <| JO.nil <| J.seq <| J.reg rfl <| O.mv rfl <| JO.nil <| J.cond rfl (fun h20 => ?_) (fun h20 => ?_)
    · skip
      obtain ⟨x, g1, g2, rfl, g4⟩ := hs1 h20
      obtain ⟨rfl, rfl, rfl⟩ := hz2 _ _ _ (.inr (.inl ⟨x, g1, g2, rfl, rfl, rfl⟩))
      refine J.seq <| J.reg rfl <| O.mv rfl <| O.mv rfl <| O.as rfl <| O.as rfl <| O.as rfl <| JO.nil <| J.ret3 rfl (.tmp rfl) (.tmp rfl) (.tmp rfl) fun W' iE iP => ?_
      exact ⟨_, _, rfl, h.to.v, s18.to.v, SZR_cl (g4.mono (by omega))⟩
    · skip
      obtain ⟨g1, rfl⟩ := hs2 h20
      obtain ⟨rfl, rfl, rfl⟩ := hz2 _ _ _ (.inr (.inr ⟨by omega, g1, rfl, rfl, rfl⟩))
      refine J.skip <| J.seq <| J.seq <| J.reg rfl <| O.mv rfl <| O.len rfl <| O.ge rfl rfl <| JO.nil <| J.condD rfl (fun h25 => ?_) (fun h25 => ?_)
      · skip
        omega -- done
      · skip
        refine J.skip <| J.seq <| J.reg rfl <| O.bso (r := RE) [] (vs := []) rfl trivial rfl rfl rfl (by decide) (.inr rfl) (by decide) fun W26 b26 i26 e26 hz26 o26 => O.mv rfl <| O.app (r := RE) rfl rfl o26 h.to rfl rfl (by omega) (by omega) fun W28 p28 c28 i28 o28 => O.mv rfl <| O.app1 (r := RE) (u := cl (toL n a)) (fun _ => rfl) rfl o28 h'.to.v rfl rfl (by decide) (.inr rfl) (by decide) (by omega) (by omega) fun W31 p31 c31 v30 i31 o31 => ?_
        refine O.pub o31 fun W31p i31p s31 => ?_
        refine O.as rfl <| JO.nil <| J.seq <| J.reg rfl <| O.mv rfl <| O.mv rfl <| O.mv rfl <| O.len rfl <| ?_
        refine O.call rfl (ref06_Root_ok (k := n + 1) (i := n) (t := tsn w a) (by rw [ct_snoc]; exact s31.to) (by omega) (by omega)) fun W36 v36 i36 e36 h36 => ?_
        obtain ⟨p36, m36, c36, rfl, s36⟩ := h36.sl
        refine O.as rfl <| O.as rfl <| O.as rfl <| JO.nil <| J.ret3 rfl (.tmp rfl) (.tmp rfl) (.tmp rfl) fun W' iE iP => ?_
        refine ⟨_, _, rfl, s31.to.v, ?_, SZR_cl ((rt1_sz n).mono (by omega))⟩
        rw [← root_rt1]; exact s36.to.v
theorem ref08_Adjoin_ok {q : Option Addr} {m d s : Nat} {l out : List Raw} {tout : List (List Raw)} {e : Int} (hz : AdjIs t l tout out e) (h : Sl RE W p n c t) (h' : Sl RQ W q m d l) (hl : ∀ r ∈ t, ∀ i ∈ r, smallR i) (hl' : ∀ i ∈ l, smallR i) (hn4 : n ≤ 4) (hS : SZT r t) (hS' : SZR s l)
    (hq : qB r n r ≤ 4398046511104) (hv : vB r n r ≤ 8796093022208) (hz1 : zB r n r ≤ 8796093022208) (hq' : qB r n s ≤ 4398046511104) (hz' : zB r n s ≤ 8796093022208) (hv' : vB r n (sB r n s) ≤ 8796093022208) (hv2 : vB r n s ≤ 8796093022208) :
    Ok Tryz.prog 35 [.slice p n c, .slice q m d] W fun W' v => ∃ v1 v2, v = .tuple #[v1, v2, .int .i64 e] ∧ V RT W' v1 tout ∧ V RE W' v2 out ∧ SZR (sB r n s + 3) out := by
  have hn := h.hn
  have hr := Nat.le_trans (qB_ge n r) hq
  have nil0 : SZR (sB r n s + 3) [] := fun xs e => by
    obtain rfl : xs = [] := cl_inj (ys := []) e.symm
    exact Sz.nil.mono (by omega)
  have hz1' : (¬ ∃ (k : Nat) (w : Tw k) (a : El k), t = ct (toT k w) ∧ l = cl (toL k a) ∧ red k w) → tout = [] ∧ out = [] ∧ e = 1 := fun h => hz.uniq (.inl ⟨h, rfl, rfl, rfl⟩)
  refine Ok.enter Tryz.func35 rfl rfl rfl rfl fun W0 iEn => ?_
  refine J.seq <| J.reg rfl <| O.as rfl <| O.as rfl <| O.as rfl <| JO.nil <| J.seq <| J.seq <| J.reg rfl <| O.mv rfl <| O.call rfl (ref08_Reduced_ok h.to hl (by omega) (Nat.le_succ n) hS hq hv hz1) fun W8 v8 i8 e8 h8 => ?_
  obtain ⟨br, rfl, hbr⟩ := h8
  refine O.not rfl <| O.mv rfl <| ?_
  by_cases hg10 : br = false
  · skip
    refine O.set (t := 10) (.bool true) rfl (by simp [hg10]) <| O.gs rfl rfl rfl <| O.gs rfl rfl rfl <| O.gs rfl rfl rfl <| O.gs rfl rfl rfl <| O.pickT rfl rfl <| JO.nil <| J.condT rfl <| J.seq <| J.reg rfl <| O.as rfl <| O.as rfl <| O.as rfl <| JO.nil <| J.ret3 rfl (.tmp rfl) (.tmp rfl) (.tmp rfl) fun W' iE iP => ?_
    obtain ⟨rfl, rfl, rfl⟩ := hz1' fun ⟨k, w, a, h1, h2, h3⟩ => by
      have := hbr.2 ⟨k, w, h1, h3⟩
      rw [this] at hg10; cases hg10
    exact ⟨_, _, rfl, (nil_sl _ _ _).v, (nil_sl _ _ _).v, nil0⟩
  · skip
    refine O.set (t := 10) (.bool false) rfl (by simp at hg10; simp [hg10]) <| O.gt rfl rfl <| O.mv rfl <| O.gt rfl rfl <| O.mv rfl <| O.gt rfl rfl <| O.call rfl (ref06_Formed_ok h.to h'.to hl hl' (by omega)) fun W13 v13 i13 e13 h13 => ?_
    obtain ⟨bf, rfl, hbf⟩ := h13
    refine O.gt rfl rfl <| O.not rfl <| O.pickF rfl rfl <| JO.nil <| J.cond rfl (fun h15 => ?_) (fun h15 => ?_)
    · skip
      refine J.seq <| J.reg rfl <| O.as rfl <| O.as rfl <| O.as rfl <| JO.nil <| J.ret3 rfl (.tmp rfl) (.tmp rfl) (.tmp rfl) fun W' iE iP => ?_
      obtain ⟨rfl, rfl, rfl⟩ := hz1' fun ⟨k, w, a, h1, h2, _⟩ => by
        subst h1; subst h2
        have := hbf.2 ⟨okT_ct w, okE_cl (by rw [toL_length, ct_length])⟩
        rw [this] at h15; cases h15
      exact ⟨_, _, rfl, (nil_sl _ _ _).v, (nil_sl _ _ _).v, nil0⟩
    · skip
      obtain ⟨k, w, a, rfl, rfl, hw⟩ := okT_redR (hbf.1 (by simpa using h15)).1 (hbf.1 (by simpa using h15)).2 (hbr.1 (by simpa using hg10))
      rw [ct_length] at hn
      subst hn
      refine J.skip <| J.seq <| J.reg rfl <| O.mv rfl <| O.mv rfl <| O.call rfl (ref08_Extend_ok hz h.to h'.to hw hn4 (SZT.ts hS (List.take_of_length_le (by rw [ct_length]; exact Nat.le_refl _))) (hS' _ rfl) hr hv hq' hz' hv' hv2) fun W18 v18 i18 e18 h18 => ?_
      obtain ⟨v19, v20, rfl, h19, h20, hsz⟩ := h18
      refine O.ext rfl rfl <| O.ext rfl rfl <| O.ext rfl rfl <| O.as rfl <| O.as rfl <| O.as rfl <| JO.nil <| J.ret3 rfl (.tmp rfl) (.tmp rfl) (.tmp rfl) fun W' iE iP => ?_
      exact ⟨_, _, rfl, h19.to, h20.to, hsz⟩
end
end
end Go.Proofs.YtcaikjefkkejbaaGreat
