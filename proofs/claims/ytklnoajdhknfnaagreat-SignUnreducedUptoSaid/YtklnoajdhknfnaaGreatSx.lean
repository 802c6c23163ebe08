/- The statement on unreduced towers: the walk. -/
import Derived.Test.YtklnoajdhknfnaaGreatSw
set_option linter.unusedVariables false
set_option linter.unusedSimpArgs false
set_option maxRecDepth 10000
set_option maxHeartbeats 8000000
namespace Go.Proofs.YtklnoajdhknfnaaGreat
open Go Go.Rx Go.Num Go.Tow
theorem TS.mono {r r' : Nat} (h : r ≤ r') : ∀ {k : Nat} {t : Tw k}, TS r k t → TS r' k t
  | 0, _, _ => trivial
  | k + 1, t, hT => ⟨TS.mono h hT.1, hT.2.mono h⟩
theorem addE_sz {k s s' : Nat} {a b : El k} (h : Sz s (toL k a)) (h' : Sz s' (toL k b)) : Sz (s + s' + 1) (toL k (add k a b)) := by rw [toL_add]; exact h.add h'
theorem vB_big {k s : Nat} (hk : k ≤ 3) (hs : s ≤ 1000000) : vB 10050 k s ≤ 8796093022208 :=
  Nat.le_trans (vB_le 10050 s hk) (Nat.le_trans (vB_mono hs) (by decide))
theorem law07_cp_own {W : GW} {p : Option Addr} {n c : Nat} {l : List Raw} (h : Sl RQ W p n c l) (hn : n ≤ 1000000) :
    Ok Tryz.prog 32 [.slice p n c] W fun W' r => OwnR RQ W W' r l := by
  have hnn := h.hn
  refine Ok.enter Tryz.func32 rfl rfl rfl rfl fun W0 iEn => ?_
  refine J.seq <| J.reg rfl <| O.as rfl <| JO.nil <| J.seq <| J.reg rfl <| O.bs (r := RQ) (ps := []) (vs := []) [] rfl trivial rfl rfl rfl (by decide) (.inl rfl) (by decide) fun W3 p3 i3 e3 s3 => O.mv rfl <| ?_
  refine O.app0O (r := RQ) (W0 := W0) rfl rfl ⟨_, rfl⟩ h.to.v rfl rfl (by omega) (by omega) (inferInstance : Le W0 _).s.size fun W5 v5 i5 e5 h5 => ?_
  obtain ⟨p5, m5, c5, rfl, o5, f5⟩ := h5
  refine O.as rfl <| JO.nil <| J.ret1o rfl (.tmp rfl) fun W' iE iO => ?_
  exact o5.ret iE iO
section
variable {W : GW} {v : Value} {t : List (List Raw)} {a b : List Raw}
theorem law07_SignUnreduced_ok (hv : V RC3 W v (t, a, b)) (ht : t.length ≤ 1099511627776) :
    Ok Tryz.prog 8 [v] W fun _ r => r = .bool true := by
  refine Ok.enter Tryz.func8 rfl rfl rfl rfl fun W0 iEn => ?_
  refine J.seq <| J.reg rfl <| O.boxT rfl hv.to fun W1 b1 i1 hb1 => O.as rfl <| JO.nil <| J.seq <| J.seq <| J.reg rfl <| ?_
  refine O.call rfl (law07_awake_ok) fun W8 v8 i8 e8 h8 => ?_
  subst h8
  refine O.not rfl <| O.mv rfl <| O.gt rfl rfl <| O.ldT rfl hb1.to.h rfl rfl (fun h => nomatch h) fun v11 h11 => O.gt rfl rfl <| O.call rfl (ref07_Right_ok h11.to ht) fun W12 v12 i12 e12 h12 => ?_
  obtain ⟨f1, rfl, hf1⟩ := h12
  refine O.gt rfl rfl <| O.not rfl <| O.pickF rfl rfl <| O.mv rfl <| ?_
  by_cases hg15 : f1 = false
  · skip
    refine O.set (t := 15) (.bool true) rfl (by rw [hg15]; rfl) <| O.gs rfl rfl rfl <| O.gs rfl rfl rfl <| O.gs rfl rfl rfl <| O.gs rfl rfl rfl <| O.pickT rfl rfl <| O.mv rfl <| O.gs rfl rfl rfl <| O.gs rfl rfl rfl <| O.gs rfl rfl rfl <| O.gs rfl rfl rfl <| O.gs rfl rfl rfl <| O.gs rfl rfl rfl <| O.pickT rfl rfl <| JO.nil <| J.condT rfl <| J.seq <| J.reg rfl <| ?_
    refine O.call rfl (law07_awake_ok) fun W29 v29 i29 e29 h29 => ?_
    subst h29
    refine O.as rfl <| JO.nil <| J.ret1 rfl (.tmp rfl) fun W' iE iP => ?_
    rfl
  · skip
    have hC := hf1.1 (by cases f1 <;> simp_all)
    have hS := hC.1.s
    obtain ⟨k, w, x, y, hk, rfl, rfl, rfl, hR, hT, hx, hy⟩ := right_typed hC
    have hvv : ∀ j s, j ≤ 4 → s ≤ 1000000 → vB 1025 j s ≤ 8796093022208 := fun j s hj hs => vB_all hj hs
    have hcb := cB3 k (by omega)
    have hN : ∀ {W : GW} {p : Option Addr} {n c : Nat}, Sl RE W p n c (ct (toT k w)) → n = k := fun h => by rw [h.hn, ct_length]
    have hRf : ∀ {s : Nat} {z : El k} {W : GW} {p q : Option Addr} {n c m d : Nat}, s ≤ 1000000 → Sz s (toL k z) → Sl RE W p n c (ct (toT k w)) → Sl RQ W q m d (cl (toL k z)) → Ok Tryz.prog 29 [.slice p n c, .slice q m d] W fun _ v => v = .int .i64 (sgn k w z) := fun {s z W p q n c m d} hs hz h h' => by
      obtain rfl := hN h
      exact ref07_Sign_ok (r := 1025) (s := s) (SgnIs.ct hR) h h' hS.st (small_cl hz.qs' (by omega)) (by omega) (TSR_ct hT) (SZR_cl hz) (hvv _ _ (by omega) (by omega)) (hvv _ _ (by omega) hs)
    refine O.set (t := 15) (.bool false) rfl (by cases f1 <;> simp_all) <| O.gt rfl rfl <| O.fa rfl <| O.gt rfl rfl <| ?_
    refine O.ldTs rfl hb1.to.h.f fun p17 m17 c17 s17 => ?_
    have h17 := s17.v
    refine O.gt rfl rfl <| O.len rfl <| O.gt rfl rfl <| O.gtr rfl rfl <| O.pickF rfl rfl <| O.mv rfl <| ?_
    by_cases hg21 : 2 < m17
    · skip
      refine O.set (t := 21) (.bool true) rfl (by simp only [Value.bool.injEq, decide_eq_true_eq, decide_eq_false_iff_not]; omega) <| O.gs rfl rfl rfl <| O.gs rfl rfl rfl <| O.gs rfl rfl rfl <| O.gs rfl rfl rfl <| O.gs rfl rfl rfl <| O.gs rfl rfl rfl <| O.pickT rfl rfl <| JO.nil <| J.condT rfl <| J.seq <| J.reg rfl <| ?_
      refine O.call rfl (law07_awake_ok) fun W29 v29 i29 e29 h29 => ?_
      subst h29
      refine O.as rfl <| JO.nil <| J.ret1 rfl (.tmp rfl) fun W' iE iP => ?_
      rfl
    · skip
      refine O.set (t := 21) (.bool false) rfl (by simp only [Value.bool.injEq, decide_eq_true_eq, decide_eq_false_iff_not]; omega) <| O.gt rfl rfl <| O.fa rfl <| O.gt rfl rfl <| ?_
      refine O.ldTs rfl hb1.to.h.f fun p23 m23 c23 s23 => ?_
      have h23 := s23.v
      refine O.gt rfl rfl <| O.fa rfl <| O.gt rfl rfl <| ?_
      refine O.ldTs rfl hb1.to.h.s.f fun p25 m25 c25 s25 => ?_
      have h25 := s25.v
      refine O.gt rfl rfl <| ?_
      refine O.call rfl (hRf (by decide) hx s23.to s25.to) fun W26 v26 i26 e26 h26 => ?_
      subst h26
      refine O.gt rfl rfl <| O.eq rfl rfl <| O.pickF rfl rfl <| JO.nil <| J.condD rfl (fun h28 => ?_) (fun h28 => ?_)
      · skip
        refine J.seq <| J.reg rfl <| ?_
        refine O.call rfl (law07_awake_ok) fun W29 v29 i29 e29 h29 => ?_
        subst h29
        refine O.as rfl <| JO.nil <| J.ret1 rfl (.tmp rfl) fun W' iE iP => ?_
        rfl
      · skip
        have hx0 : sgn k w x ≠ 0 := h28
        have hm17 : m17 = k := hN s17
        have hp := pow_le (show k ≤ 16 by omega)
        have hR2 := real_sq hR hx0
        have hdz : Sz 10050 (toL k (mul k w x x)) := (hx.mul hT hx).mono (by omega)
        have hT2 : TS 10050 (k + 1) (tsn w (mul k w x x)) := ⟨TS.mono (by decide) hT, hdz⟩
        have hSg : ∀ {s : Nat} {z : El (k + 1)} {W : GW} {p q : Option Addr} {n c m d : Nat}, s ≤ 1000000 → Sz s (toL (k + 1) z) → Sl RE W p n c (ct (toT (k + 1) (tsn w (mul k w x x)))) → Sl RQ W q m d (cl (toL (k + 1) z)) → Ok Tryz.prog 25 [.slice p n c, .slice q m d] W fun _ v => v = .int .i64 (sgn (k + 1) (tsn w (mul k w x x)) z) := fun {s z W p q n c m d} hs hz h h' => by
          have hn : n = k + 1 := by rw [h.hn, ct_length]
          subst hn
          exact sign_Sign_ok (r := 10050) (s := s) (SgnIs.ct hR2) h h' (small_ct hT2 (by decide)) (small_cl hz.qs' (by omega)) (by omega) (TSR_ct hT2) (SZR_cl hz) (vB_big (by omega) (by omega)) (vB_big (by omega) hs)
        refine J.skip <| J.seq <| ?_
        refine J.draw [.rel _, .ex _, .rel _, .rel _, .ex _, .rel _, .ex _, .rel _, .ex _, .rel _] rfl rfl ⟨fun Wd id ed _ => O.bs (r := RE) (ps := []) (vs := []) [] rfl trivial rfl rfl rfl (by decide) (.inr rfl) (by decide) fun Wd pd id ed sd => D.rel (R := Nil0) ed ⟨pd, rfl⟩ Nil0.me, fun Wd id ed _ => O.fa rfl <| D.ex, fun Wd id ed _ => O.ldTD rfl hb1.to.h.f rfl rfl (fun _ => rfl), fun Wd id ed _ => fun v30 h30 => fun v32 h32 => O.app0O (r := RE) (W0 := W0) rfl rfl h30 h32 rfl rfl (by rw [ct_length]; omega) (by rw [ct_length]; omega) (inferInstance : Le W0 _).s.size fun Wd vd id ed hd => D.rel (R := fun W v => OwnR RE W0 W v (ct (toT k w))) ed hd OwnR.me, fun Wd id ed _ => O.fa rfl <| D.ex, fun Wd id ed _ => O.ldTD rfl hb1.to.h.f rfl rfl (fun _ => rfl), fun Wd id ed _ => O.fa rfl <| D.ex, fun Wd id ed _ => O.ldTD rfl hb1.to.h.s.f rfl rfl (fun _ => rfl), fun Wd id ed _ => O.fa rfl <| D.ex, fun Wd id ed _ => O.ldTD rfl hb1.to.h.s.f rfl rfl (fun _ => rfl), trivial⟩ ?_
        intro Wr3 ir3 er3 v30 h30 v32 h32 v33 h33 v35 h35 v37 h37 v39 h39
        obtain ⟨p32, m32, c32, rfl, s32⟩ := h32.sl
        obtain ⟨p33, m33, c33, rfl, o33, f33⟩ := h33
        obtain ⟨p35, m35, c35, rfl, s35⟩ := h35.sl
        obtain ⟨p37, m37, c37, rfl, s37⟩ := h37.sl
        obtain ⟨p39, m39, c39, rfl, s39⟩ := h39.sl
        refine O.call rfl (ref06_MulE_ok s35.to s37.to s39.to hT hx hx (by omega) (by omega)) fun W40 v40 i40 e40 h40 => ?_
        obtain ⟨p40, m40, c40, rfl, s40⟩ := h40.sl
        refine O.bs (r := RE) [cl (toL k (mul k w x x))] rfl ⟨h40.to, trivial⟩ rfl rfl rfl (by decide) (.inr rfl) (by decide) fun W41 p41 i41 e41 s41 => ?_
        refine O.app rfl rfl ((o33.ext e40).ext e41) s41.to rfl rfl (by have := o33.hn; rw [ct_length] at *; omega) (by have := o33.hn; rw [ct_length] at *; omega) fun W42 p42 c42 i42 o42 => ?_
        rw [← ct_snoc] at o42
        refine O.pub o42 fun Wq iq s42 => ?_
        refine O.as rfl <| JO.nil <| J.seq <| J.reg rfl <| O.fa rfl <| ?_
        refine O.ldTs rfl hb1.to.h.s.f fun p44 m44 c44 s44 => ?_
        have h44 := s44.v
        refine O.as rfl <| JO.nil <| J.seq <| J.seq <| J.reg rfl <| O.fa rfl <| ?_
        refine O.ldTs rfl hb1.to.h.f fun p46 m46 c46 s46 => ?_
        have h46 := s46.v
        refine O.mv rfl <| ?_
        refine O.call rfl (hRf (by decide) hx s46.to s44.to) fun W48 v48 i48 e48 h48 => ?_
        subst h48
        refine O.gtr rfl rfl <| JO.nil <| J.condD rfl (fun h49 => ?_) (fun h49 => ?_)
        · skip
          have hna := negabs hR hx0 (y := neg k x) (if_pos h49).symm
          have hzy : Sz 1025 (toL k (neg k x)) := by rw [toL_neg]; exact hx.neg
          refine J.reg rfl <| O.fa rfl <| ?_
          refine O.ldTs rfl hb1.to.h.f fun p51 m51 c51 s51 => ?_
          have h51 := s51.v
          refine O.mv rfl <| ?_
          refine O.call rfl (ref06_NegE_ok s44.to hx (by omega) (by decide)) fun W53 v53 i53 e53 h53 => ?_
          obtain ⟨p53, m53, c53, rfl, s53⟩ := h53.sl
          refine O.as rfl <| JO.nil <| J.seq <| ?_
          refine J.draw [.ex _, .rel _, .rel _] rfl rfl ⟨fun Wd id ed _ => O.fa rfl <| D.ex, fun Wd id ed _ => O.ldTD rfl hb1.to.h.f rfl rfl (fun _ => rfl), fun Wd id ed _ => O.call rfl (ref02_FromInt_ok (z := 1) (by decide)) fun Wd vd id ed hd => D.rel ed hd V.me, trivial⟩ ?_
          intro Wr7 ir7 er7 v55 h55 v56 h56
          obtain ⟨p55, m55, c55, rfl, s55⟩ := h55.sl
          refine O.call rfl (ref06_FromRatE_ok (k := k) (x := 1) s55.to h56.to (hN s55) (by omega)) fun W57 v57 i57 e57 h57 => ?_
          obtain ⟨p57, m57, c57, rfl, s57⟩ := h57.sl
          have hn57 : m57 = 2 ^ k := by rw [s57.hn, cl_length, toL_length]
          refine O.as rfl <| JO.nil <| J.seq <| J.reg rfl <| O.mv rfl <| ?_
          refine O.call rfl (law07_cp_own s53.to (by have := s53.hn; rw [cl_length, toL_length] at this; have := pow_le (show k ≤ 16 by omega); omega)) fun W59 v59 i59 e59 h59 => ?_
          obtain ⟨p59, m59, c59, rfl, o59, f59⟩ := h59
          have hn59 : m59 = 2 ^ k := by rw [o59.hn, cl_length, toL_length]
          refine O.mv rfl <| O.app rfl rfl o59 s57.to rfl rfl (by omega) (by omega) fun W61 p61 c61 i61 o61 => ?_
          rw [show cl (toL k (neg k x)) ++ cl (toL k (rat k 1)) = cl (toL (k + 1) ((neg k x, rat k 1) : El (k + 1))) from (cl_append _ _).symm] at o61
          refine O.pub o61 fun Wq2 iq2 s61 => ?_
          refine O.as rfl <| JO.nil <| J.seq <| J.reg rfl <| O.mv rfl <| O.fa rfl <| ?_
          refine O.ldTs rfl hb1.to.h.s.s fun p64 m64 c64 s64 => ?_
          have h64 := s64.v
          refine O.call rfl (ref06_Lift1_ok s64.to (by omega)) fun W65 v65 i65 e65 h65 => ?_
          obtain ⟨p65, m65, c65, rfl, s65⟩ := h65.sl
          refine O.mv rfl <| ?_
          refine O.call rfl (ref06_AddE_ok (k := k + 1) (a := up k y) (b := ((neg k x, rat k 1) : El (k + 1))) s65.to s61.to (up_sz hy) (hzy.append (Sz.rat k (p := 1) (Qs.int (z := 1) (Zs.one (by decide)) (by decide)))) (by omega) (by decide)) fun W67 v67 i67 e67 h67 => ?_
          obtain ⟨p67, m67, c67, rfl, s67⟩ := h67.sl
          refine O.as rfl <| JO.nil <| J.seq <| ?_
          refine J.draw [.ex _, .ex _, .ex _, .ex _, .ex _, .ex _, .ex _, .ex _, .ex _, .ex _, .ex _, .ex _, .ex _, .rel _, .ex _, .rel _, .ex _, .ex _, .ex _] rfl rfl ⟨fun Wd id ed _ => O.mv rfl <| D.ex, fun Wd id ed _ => O.call rfl ((sign_Real_ok (r := 10050) s42.to (small_ct hT2 (by decide)) (by have := s42.hn; rw [ct_length] at this; omega) (TSR_ct hT2) (vB_big (by have := s42.hn; rw [ct_length] at this; omega) (by decide))).eqB (b0 := true) ⟨fun _ => realR_ct.2 hR2, fun _ => rfl⟩) fun Wd vd id ed hd => D.eq ed hd, fun Wd id ed _ => O.mv rfl <| D.ex, fun Wd id ed _ => O.gt rfl rfl <| O.mv rfl <| D.ex, fun Wd id ed _ => O.gt rfl rfl <| O.mv rfl <| D.ex, fun Wd id ed _ => O.gt rfl rfl <| O.call rfl (hSg (z := ((neg k x, rat k 1) : El (k + 1))) (s := 1025 + 2) (by decide) (hzy.append (Sz.rat k (p := 1) (Qs.int (z := 1) (Zs.one (by decide)) (by decide)))) s42.to s61.to) fun Wd vd id ed hd => D.eq ed hd, fun Wd id ed _ => O.gt rfl rfl <| O.eqV true rfl rfl (decide_eq_true (sgn_root0 hR hna.1 hna.2)) <| D.ex, fun Wd id ed _ => O.pickT rfl rfl <| D.ex, fun Wd id ed _ => O.mv rfl <| D.ex, fun Wd id ed _ => O.gt rfl rfl <| O.mv rfl <| D.ex, fun Wd id ed _ => O.gt rfl rfl <| O.mv rfl <| D.ex, fun Wd id ed _ => O.gt rfl rfl <| O.call rfl (hSg (z := add (k + 1) (up k y) ((neg k x, rat k 1) : El (k + 1))) (s := 1026 + (1025 + 2) + 1) (by decide) (addE_sz (k := k + 1) (up_sz hy) (hzy.append (Sz.rat k (p := 1) (Qs.int (z := 1) (Zs.one (by decide)) (by decide))))) s42.to s67.to) fun Wd vd id ed hd => D.eq ed hd, fun Wd id ed _ => O.gt rfl rfl <| O.fa rfl <| D.ex, fun Wd id ed _ => O.gt rfl rfl <| O.ldTD rfl hb1.to.h.f rfl rfl (fun _ => rfl), fun Wd id ed _ => O.gt rfl rfl <| O.fa rfl <| D.ex, fun Wd id ed _ => O.gt rfl rfl <| O.ldTD rfl hb1.to.h.s.s rfl rfl (fun _ => rfl), fun Wd id ed _ => fun v81 h81 => fun v83 h83 => (by obtain ⟨p81, m81, c81, rfl, s81⟩ := h81.sl; obtain ⟨p83, m83, c83, rfl, s83⟩ := h83.sl; exact O.gt rfl rfl <| O.call rfl (hRf (by decide) hy s81.to s83.to) fun Wd vd id ed hd => D.eq ed hd), fun Wd id ed _ => O.gt rfl rfl <| O.eqV true rfl rfl (decide_eq_true (sgn_more hR hx0 hna.1 hna.2)) <| D.ex, fun Wd id ed _ => O.pickT rfl rfl <| D.ex, trivial⟩ ?_
          intro Wr10 ir10 er10 v81 h81 v83 h83
          obtain ⟨p81, m81, c81, rfl, s81⟩ := h81.sl
          obtain ⟨p83, m83, c83, rfl, s83⟩ := h83.sl
          refine O.as rfl <| JO.nil <| J.ret1 rfl (.tmp rfl) fun W' iE iP => ?_
          rfl
        · skip
          have hna := negabs hR hx0 (y := x) (if_neg h49).symm
          have hzy : Sz 1025 (toL k x) := hx
          refine J.skip <| J.seq <| ?_
          refine J.draw [.ex _, .rel _, .rel _] rfl rfl ⟨fun Wd id ed _ => O.fa rfl <| D.ex, fun Wd id ed _ => O.ldTD rfl hb1.to.h.f rfl rfl (fun _ => rfl), fun Wd id ed _ => O.call rfl (ref02_FromInt_ok (z := 1) (by decide)) fun Wd vd id ed hd => D.rel ed hd V.me, trivial⟩ ?_
          intro Wr7 ir7 er7 v55 h55 v56 h56
          obtain ⟨p55, m55, c55, rfl, s55⟩ := h55.sl
          refine O.call rfl (ref06_FromRatE_ok (k := k) (x := 1) s55.to h56.to (hN s55) (by omega)) fun W57 v57 i57 e57 h57 => ?_
          obtain ⟨p57, m57, c57, rfl, s57⟩ := h57.sl
          have hn57 : m57 = 2 ^ k := by rw [s57.hn, cl_length, toL_length]
          refine O.as rfl <| JO.nil <| J.seq <| J.reg rfl <| O.mv rfl <| ?_
          refine O.call rfl (law07_cp_own s44.to (by have := s44.hn; rw [cl_length, toL_length] at this; have := pow_le (show k ≤ 16 by omega); omega)) fun W59 v59 i59 e59 h59 => ?_
          obtain ⟨p59, m59, c59, rfl, o59, f59⟩ := h59
          have hn59 : m59 = 2 ^ k := by rw [o59.hn, cl_length, toL_length]
          refine O.mv rfl <| O.app rfl rfl o59 s57.to rfl rfl (by omega) (by omega) fun W61 p61 c61 i61 o61 => ?_
          rw [show cl (toL k x) ++ cl (toL k (rat k 1)) = cl (toL (k + 1) ((x, rat k 1) : El (k + 1))) from (cl_append _ _).symm] at o61
          refine O.pub o61 fun Wq2 iq2 s61 => ?_
          refine O.as rfl <| JO.nil <| J.seq <| J.reg rfl <| O.mv rfl <| O.fa rfl <| ?_
          refine O.ldTs rfl hb1.to.h.s.s fun p64 m64 c64 s64 => ?_
          have h64 := s64.v
          refine O.call rfl (ref06_Lift1_ok s64.to (by omega)) fun W65 v65 i65 e65 h65 => ?_
          obtain ⟨p65, m65, c65, rfl, s65⟩ := h65.sl
          refine O.mv rfl <| ?_
          refine O.call rfl (ref06_AddE_ok (k := k + 1) (a := up k y) (b := ((x, rat k 1) : El (k + 1))) s65.to s61.to (up_sz hy) (hzy.append (Sz.rat k (p := 1) (Qs.int (z := 1) (Zs.one (by decide)) (by decide)))) (by omega) (by decide)) fun W67 v67 i67 e67 h67 => ?_
          obtain ⟨p67, m67, c67, rfl, s67⟩ := h67.sl
          refine O.as rfl <| JO.nil <| J.seq <| ?_
          refine J.draw [.ex _, .ex _, .ex _, .ex _, .ex _, .ex _, .ex _, .ex _, .ex _, .ex _, .ex _, .ex _, .ex _, .rel _, .ex _, .rel _, .ex _, .ex _, .ex _] rfl rfl ⟨fun Wd id ed _ => O.mv rfl <| D.ex, fun Wd id ed _ => O.call rfl ((sign_Real_ok (r := 10050) s42.to (small_ct hT2 (by decide)) (by have := s42.hn; rw [ct_length] at this; omega) (TSR_ct hT2) (vB_big (by have := s42.hn; rw [ct_length] at this; omega) (by decide))).eqB (b0 := true) ⟨fun _ => realR_ct.2 hR2, fun _ => rfl⟩) fun Wd vd id ed hd => D.eq ed hd, fun Wd id ed _ => O.mv rfl <| D.ex, fun Wd id ed _ => O.gt rfl rfl <| O.mv rfl <| D.ex, fun Wd id ed _ => O.gt rfl rfl <| O.mv rfl <| D.ex, fun Wd id ed _ => O.gt rfl rfl <| O.call rfl (hSg (z := ((x, rat k 1) : El (k + 1))) (s := 1025 + 2) (by decide) (hzy.append (Sz.rat k (p := 1) (Qs.int (z := 1) (Zs.one (by decide)) (by decide)))) s42.to s61.to) fun Wd vd id ed hd => D.eq ed hd, fun Wd id ed _ => O.gt rfl rfl <| O.eqV true rfl rfl (decide_eq_true (sgn_root0 hR hna.1 hna.2)) <| D.ex, fun Wd id ed _ => O.pickT rfl rfl <| D.ex, fun Wd id ed _ => O.mv rfl <| D.ex, fun Wd id ed _ => O.gt rfl rfl <| O.mv rfl <| D.ex, fun Wd id ed _ => O.gt rfl rfl <| O.mv rfl <| D.ex, fun Wd id ed _ => O.gt rfl rfl <| O.call rfl (hSg (z := add (k + 1) (up k y) ((x, rat k 1) : El (k + 1))) (s := 1026 + (1025 + 2) + 1) (by decide) (addE_sz (k := k + 1) (up_sz hy) (hzy.append (Sz.rat k (p := 1) (Qs.int (z := 1) (Zs.one (by decide)) (by decide))))) s42.to s67.to) fun Wd vd id ed hd => D.eq ed hd, fun Wd id ed _ => O.gt rfl rfl <| O.fa rfl <| D.ex, fun Wd id ed _ => O.gt rfl rfl <| O.ldTD rfl hb1.to.h.f rfl rfl (fun _ => rfl), fun Wd id ed _ => O.gt rfl rfl <| O.fa rfl <| D.ex, fun Wd id ed _ => O.gt rfl rfl <| O.ldTD rfl hb1.to.h.s.s rfl rfl (fun _ => rfl), fun Wd id ed _ => fun v81 h81 => fun v83 h83 => (by obtain ⟨p81, m81, c81, rfl, s81⟩ := h81.sl; obtain ⟨p83, m83, c83, rfl, s83⟩ := h83.sl; exact O.gt rfl rfl <| O.call rfl (hRf (by decide) hy s81.to s83.to) fun Wd vd id ed hd => D.eq ed hd), fun Wd id ed _ => O.gt rfl rfl <| O.eqV true rfl rfl (decide_eq_true (sgn_more hR hx0 hna.1 hna.2)) <| D.ex, fun Wd id ed _ => O.pickT rfl rfl <| D.ex, trivial⟩ ?_
          intro Wr10 ir10 er10 v81 h81 v83 h83
          obtain ⟨p81, m81, c81, rfl, s81⟩ := h81.sl
          obtain ⟨p83, m83, c83, rfl, s83⟩ := h83.sl
          refine O.as rfl <| JO.nil <| J.ret1 rfl (.tmp rfl) fun W' iE iP => ?_
          rfl
end
end Go.Proofs.YtklnoajdhknfnaaGreat
