/- The statements on Sum, Lift, Floor, Enclose: the walks. -/
import Derived.Test.YtklnoajdhknfnaaGreatSu
set_option linter.unusedVariables false
set_option linter.unusedSimpArgs false
set_option maxRecDepth 10000
set_option maxHeartbeats 8000000
namespace Go.Proofs.YtklnoajdhknfnaaGreat
open Go Go.Rx Go.Num Go.Tow
section
variable {W : GW} {v : Value} {t : List (List Raw)} {a b : List Raw}
theorem sum_sgn {k : Nat} {w : Tw k} (hR : real k w) {x y : El k} (h : ¬ sgn k w x * sgn k w y < 0) : sgn k w (add k x y) = if sgn k w x = 0 then sgn k w y else sgn k w x := by
  have S := sgn_ok hR
  have L := ring k w
  split
  · exact S.add0 L ‹_›
  · by_cases hy : sgn k w y = 0
    · exact S.add0' L hy
    · refine S.same L ?_
      rename_i hx
      rcases S.tri x with e | e | e <;> rcases S.tri y with e' | e' | e' <;> simp [e, e'] at h hy hx ⊢
theorem law07_SignSum_ok (hv : V RC3 W v (t, a, b)) (ht : t.length ≤ 1099511627776) :
    Ok Tryz.prog 7 [v] W fun _ r => r = .bool true := by
  refine Ok.enter Tryz.func7 rfl rfl rfl rfl fun W0 iEn => ?_
  refine J.seq <| J.reg rfl <| O.boxT rfl hv.to fun W1 b1 i1 hb1 => O.as rfl <| JO.nil <| J.seq <| J.seq <| J.reg rfl <| ?_
  refine O.call rfl (law07_awake_ok) fun W6 v6 i6 e6 h6 => ?_
  subst h6
  refine O.not rfl <| O.mv rfl <| O.gt rfl rfl <| O.ldT rfl hb1.to.h rfl rfl (fun h => nomatch h) fun v9 h9 => O.gt rfl rfl <| O.call rfl (ref07_Right_ok h9.to ht) fun W10 v10 i10 e10 h10 => ?_
  obtain ⟨f1, rfl, hf1⟩ := h10
  refine O.gt rfl rfl <| O.not rfl <| O.pickF rfl rfl <| JO.nil <| J.cond rfl (fun h12 => ?_) (fun h12 => ?_)
  · skip
    refine J.seq <| J.reg rfl <| ?_
    refine O.call rfl (law07_awake_ok) fun W13 v13 i13 e13 h13 => ?_
    subst h13
    refine O.as rfl <| JO.nil <| J.ret1 rfl (.tmp rfl) fun W' iE iP => ?_
    rfl
  · skip
    have hC := hf1.1 (by cases f1 <;> simp_all)
    have hS := hC.1.s
    obtain ⟨k, w, x, y, hk, rfl, rfl, rfl, hR, hT, hx, hy⟩ := right_typed hC
    have hxy : Sz 2051 (toL k (add k x y)) := by rw [toL_add]; exact hx.add hy
    have hvv : ∀ s, s ≤ 1000000 → vB 1025 k s ≤ 8796093022208 := fun s hs => vB_all (by omega) hs
    have hN : ∀ {W : GW} {p : Option Addr} {n c : Nat}, Sl RE W p n c (ct (toT k w)) → n = k := fun h => by rw [h.hn, ct_length]
    have hSg : ∀ {s : Nat} {z : El k} {W : GW} {p q : Option Addr} {n c m d : Nat}, s ≤ 1000000 → Sz s (toL k z) → Sl RE W p n c (ct (toT k w)) → Sl RQ W q m d (cl (toL k z)) → Ok Tryz.prog 25 [.slice p n c, .slice q m d] W fun _ v => v = .int .i64 (sgn k w z) := fun {s z W p q n c m d} hs hz h h' => by
      obtain rfl := hN h
      exact sign_Sign_ok (r := 1025) (s := s) (SgnIs.ct hR) h h' hS.st (small_cl hz.qs' (by omega)) (by omega) (TSR_ct hT) (SZR_cl hz) (hvv _ (by omega)) (hvv _ hs)
    refine J.skip <| J.seq <| ?_
    refine J.draw [.ex _, .rel _, .ex _, .rel _, .ex _, .ex _, .rel _, .ex _, .rel _] rfl rfl ⟨fun Wd id ed _ => O.fa rfl <| D.ex, fun Wd id ed _ => O.ldTD rfl hb1.to.h.f rfl rfl (fun _ => rfl), fun Wd id ed _ => O.fa rfl <| D.ex, fun Wd id ed _ => O.ldTD rfl hb1.to.h.s.f rfl rfl (fun _ => rfl), fun Wd id ed _ => fun v15 h15 => fun v17 h17 => (by obtain ⟨p15, m15, c15, rfl, s15⟩ := h15.sl; obtain ⟨p17, m17, c17, rfl, s17⟩ := h17.sl; exact O.call rfl (hSg (by decide) hx s15.to s17.to) fun Wd vd id ed hd => D.eq ed hd), fun Wd id ed _ => O.fa rfl <| D.ex, fun Wd id ed _ => O.ldTD rfl hb1.to.h.f rfl rfl (fun _ => rfl), fun Wd id ed _ => O.fa rfl <| D.ex, fun Wd id ed _ => O.ldTD rfl hb1.to.h.s.s rfl rfl (fun _ => rfl), trivial⟩ ?_
    intro Wr3 ir3 er3 v15 h15 v17 h17 v20 h20 v22 h22
    obtain ⟨p15, m15, c15, rfl, s15⟩ := h15.sl
    obtain ⟨p17, m17, c17, rfl, s17⟩ := h17.sl
    obtain ⟨p20, m20, c20, rfl, s20⟩ := h20.sl
    obtain ⟨p22, m22, c22, rfl, s22⟩ := h22.sl
    refine O.call rfl (hSg (by decide) hy s20.to s22.to) fun W23 v23 i23 e23 h23 => ?_
    subst h23
    refine O.as rfl <| O.as rfl <| JO.nil <| J.seq <| J.seq <| J.reg rfl <| O.mv rfl <| O.mv rfl <| O.mul (r := sgn k w x * sgn k w y) rfl rfl (sgn_mul_tri w x y) <| O.lt rfl rfl <| JO.nil <| J.condD rfl (fun h27 => ?_) (fun h27 => ?_)
    · skip
      refine J.seq <| J.reg rfl <| O.as rfl <| JO.nil <| J.ret1 rfl (.tmp rfl) fun W' iE iP => ?_
      rfl
    · skip
      have hsum := sum_sgn hR h27
      refine J.skip <| J.seq <| ?_
      refine J.draw [.ex _, .rel _, .ex _, .rel _, .ex _, .rel _, .ex _, .rel _, .rel _] rfl rfl ⟨fun Wd id ed _ => O.fa rfl <| D.ex, fun Wd id ed _ => O.ldTD rfl hb1.to.h.f rfl rfl (fun _ => rfl), fun Wd id ed _ => O.fa rfl <| D.ex, fun Wd id ed _ => O.ldTD rfl hb1.to.h.f rfl rfl (fun _ => rfl), fun Wd id ed _ => O.fa rfl <| D.ex, fun Wd id ed _ => O.ldTD rfl hb1.to.h.s.f rfl rfl (fun _ => rfl), fun Wd id ed _ => O.fa rfl <| D.ex, fun Wd id ed _ => O.ldTD rfl hb1.to.h.s.s rfl rfl (fun _ => rfl), fun Wd id ed _ => fun v31 h31 => fun v33 h33 => fun v35 h35 => (by obtain ⟨p31, m31, c31, rfl, s31⟩ := h31.sl; obtain ⟨p33, m33, c33, rfl, s33⟩ := h33.sl; obtain ⟨p35, m35, c35, rfl, s35⟩ := h35.sl; exact O.call rfl (ref06_AddE_ok s33.to s35.to hx hy (by omega) (by decide)) fun Wd vd id ed hd => D.rel ed hd V.me), trivial⟩ ?_
      intro Wr6 ir6 er6 v29 h29 v31 h31 v33 h33 v35 h35 v36 h36
      obtain ⟨p29, m29, c29, rfl, s29⟩ := h29.sl
      obtain ⟨p31, m31, c31, rfl, s31⟩ := h31.sl
      obtain ⟨p33, m33, c33, rfl, s33⟩ := h33.sl
      obtain ⟨p35, m35, c35, rfl, s35⟩ := h35.sl
      obtain ⟨p36, m36, c36, rfl, s36⟩ := h36.sl
      refine O.call rfl (hSg (by decide) hxy s29.to s36.to) fun W37 v37 i37 e37 h37 => ?_
      subst h37
      refine O.as rfl <| JO.nil <| J.seq <| J.seq <| J.reg rfl <| O.mv rfl <| O.eq rfl rfl <| JO.nil <| J.condD rfl (fun h39 => ?_) (fun h39 => ?_)
      · skip
        refine J.seq <| J.reg rfl <| O.mv rfl <| O.mv rfl <| O.eq rfl rfl <| O.as rfl <| JO.nil <| J.ret1 rfl (.tmp rfl) fun W' iE iP => ?_
        rw [hsum, if_pos h39]; simp
      · skip
        refine J.skip <| J.seq <| J.reg rfl <| O.mv rfl <| O.mv rfl <| O.eq rfl rfl <| O.as rfl <| JO.nil <| J.ret1 rfl (.tmp rfl) fun W' iE iP => ?_
        rw [hsum, if_neg h39]; simp
theorem short_mgL {xs : List Rat} (h : shortL (cl xs)) : MgL 64 xs := fun x hx => short_qs (h.2 _ (List.mem_map.2 ⟨x, hx, rfl⟩))
theorem short_mgT : ∀ {k : Nat} {w : Tw k}, (∀ l ∈ ct (toT k w), shortL l) → MgT 64 k w
  | 0, _, _ => trivial
  | k + 1, w, h => ⟨short_mgT (fun l hl => h l (by rw [ct_succ]; exact List.mem_append_left _ hl)), short_mgL (h _ (by rw [ct_succ]; exact List.mem_append_right _ (List.mem_singleton.2 rfl)))⟩
theorem eW3 : ∀ k, k < 4 → 65 ≤ eW 64 2048 k := by decide
theorem eB3 : ∀ k, k < 4 → eB 1025 (2 * (2048 + 1 + 16)) k ≤ 300000 := by decide
theorem bB3 : ∀ k, k < 4 → bB 1025 2048 k ≤ 300000 := by decide
theorem one_typed {t : List (List Raw)} {a b : List Raw} (hS : SmallC t a b) (h : fine t [a]) : ∃ (k : Nat) (w : Tw k) (x : El k), k ≤ 3 ∧ t = ct (toT k w) ∧ a = cl (toL k x) ∧ real k w ∧ TS 1025 k w ∧ Sz 1025 (toL k x) ∧ MgT 64 k w ∧ MgL 64 (toL k x) := by
  obtain ⟨k, w, x, rfl, rfl, hw⟩ := fine1 h
  have hl := hS.l
  rw [ct_length] at hl
  exact ⟨k, w, x, hl, rfl, rfl, hw, short_ts hS.t, short_sz hS.a, short_mgT hS.t, short_mgL hS.a⟩
theorem fine1_iff {t : List (List Raw)} {a : List Raw} : fine t [a] ↔ realR t ∧ okT t ∧ okE (2 ^ t.length) a :=
  ⟨fun h => ⟨h.2, realR_ok h.2, h.1 a (by simp)⟩, fun h => ⟨fun l hl => by rw [List.mem_singleton.1 hl]; exact h.2.2, h.1⟩⟩
theorem law07_SignFloor_ok (hv : V RC3 W v (t, a, b)) (ht : t.length ≤ 1099511627776) :
    Ok Tryz.prog 5 [v] W fun _ r => r = .bool true := by
  refine Ok.enter Tryz.func5 rfl rfl rfl rfl fun W0 iEn => ?_
  refine J.seq <| J.reg rfl <| O.boxT rfl hv.to fun W1 b1 i1 hb1 => O.as rfl <| JO.nil <| J.seq <| J.seq <| J.reg rfl <| ?_
  refine O.call rfl (law07_awake_ok) fun W4 v4 i4 e4 h4 => ?_
  subst h4
  refine O.not rfl <| O.mv rfl <| O.gt rfl rfl <| O.ldT rfl hb1.to.h rfl rfl (fun h => nomatch h) fun v7 h7 => O.gt rfl rfl <| O.call rfl (ref07_Small_ok h7.to ht) fun W8 v8 i8 e8 h8 => ?_
  obtain ⟨f1, rfl, hf1⟩ := h8
  refine O.gt rfl rfl <| O.not rfl <| O.pickF rfl rfl <| JO.nil <| J.cond rfl (fun h10 => ?_) (fun h10 => ?_)
  · skip
    refine J.seq <| J.reg rfl <| ?_
    refine O.call rfl (law07_awake_ok) fun W11 v11 i11 e11 h11 => ?_
    subst h11
    refine O.as rfl <| JO.nil <| J.ret1 rfl (.tmp rfl) fun W' iE iP => ?_
    rfl
  · skip
    have hS := (hf1.1 (by cases f1 <;> simp_all)).s
    have hl3 := hS.l
    obtain ⟨bF, hbF⟩ := dec_ex (fine t [a])
    obtain ⟨bR, hbR⟩ := dec_ex (realR t)
    obtain ⟨bA, hbA⟩ := dec_ex (okT t ∧ okE (2 ^ t.length) a)
    have hv1 : vB 1025 t.length 1025 ≤ 8796093022208 := vB_all (by omega) (by decide)
    refine J.skip <| J.seq <| ?_
    cases bF
    · skip
      have hno : ¬ fine t [a] := fun e => by have := hbF.2 e; cases this
      refine J.reg rfl <| O.fa rfl <| ?_
      refine O.ldTs rfl hb1.to.h.f fun p13 m13 c13 s13 => ?_
      have h13 := s13.v
      refine O.fa rfl <| ?_
      refine O.ldTs rfl hb1.to.h.s.f fun p15 m15 c15 s15 => ?_
      have h15 := s15.v
      refine O.call rfl (sign_Floor_no hno s13.to s15.to hS.st hS.a.small (by have := s13.hn; omega) (short_TSR hS.t) (by rw [s13.hn]; exact hv1)) fun W16 v16 i16 e16 h16 => ?_
      refine O.allocE fun W3 b3 i3 e3 hl3 hc3 hz3 => ?_
      refine O.stT rfl rfl hl3.to h16.to rfl fun Ws1 is1 hb3 F3 => ?_
      refine JO.nil <| J.seq <| J.seq <| J.reg rfl <| O.fa rfl <| ?_
      refine O.ldTs rfl hb1.to.h.f fun p18 m18 c18 s18 => ?_
      have h18 := s18.v
      refine O.call rfl ((ref07_Real_ok s18.to hS.st (by have := s18.hn; omega) (short_TSR hS.t) (by rw [s18.hn]; exact hv1)).eqB hbR) fun W19 v19 i19 e19 h19 => ?_
      subst h19
      refine O.not rfl <| O.mv rfl <| ?_
      by_cases hg21 : bR = false
      · skip
        refine O.set (t := 21) (.bool true) rfl (by rw [hg21]; rfl) <| O.gs rfl rfl rfl <| O.gs rfl rfl rfl <| O.gs rfl rfl rfl <| O.gs rfl rfl rfl <| O.gs rfl rfl rfl <| O.gs rfl rfl rfl <| O.pickT rfl rfl <| JO.nil <| J.condT rfl <| J.seq <| J.reg rfl <| O.ldT rfl hb3.to.h rfl rfl (fun h => nomatch h) fun v29 h29 => ?_
        refine O.call rfl (ref07_Zero_ok rfl h29.to) fun W30 v30 i30 e30 h30 => ?_
        subst h30
        refine O.as rfl <| JO.nil <| J.ret1 rfl (.tmp rfl) fun W' iE iP => ?_
        first | rfl | simp
      · skip
        refine O.set (t := 21) (.bool false) rfl (by cases bR <;> simp_all) <| O.gt rfl rfl <| O.fa rfl <| O.gt rfl rfl <| ?_
        refine O.ldTs rfl hb1.to.h.f fun p23 m23 c23 s23 => ?_
        have h23 := s23.v
        refine O.gt rfl rfl <| O.fa rfl <| O.gt rfl rfl <| ?_
        refine O.ldTs rfl hb1.to.h.s.f fun p25 m25 c25 s25 => ?_
        have h25 := s25.v
        refine O.gt rfl rfl <| ?_
        refine O.call rfl ((ref06_Formed_ok s23.to s25.to hS.st hS.a.small (by omega)).eqB hbA) fun W26 v26 i26 e26 h26 => ?_
        subst h26
        refine O.gt rfl rfl <| O.not rfl <| O.pickF rfl rfl <| JO.nil <| J.cond rfl (fun h28 => ?_) (fun h28 => ?_)
        · skip
          refine J.seq <| J.reg rfl <| O.ldT rfl hb3.to.h rfl rfl (fun h => nomatch h) fun v29 h29 => ?_
          refine O.call rfl (ref07_Zero_ok rfl h29.to) fun W30 v30 i30 e30 h30 => ?_
          subst h30
          refine O.as rfl <| JO.nil <| J.ret1 rfl (.tmp rfl) fun W' iE iP => ?_
          first | rfl | simp
        · skip
          exact absurd (fine1_iff.2 ⟨hbR.1 (by cases bR <;> simp_all), hbA.1 (by cases bA <;> simp_all)⟩) hno -- done
    · skip
      obtain ⟨k, w, x, hk, rfl, rfl, hR, hT, hx, mT, mx⟩ := one_typed hS (hbF.1 rfl)
      have e1 := eW3 k (by omega)
      have e2 := eB3 k (by omega)
      have e3 := bB3 k (by omega)
      have hw := enc_bits (bits := 1) hR mT mx (P := 2048) (by omega)
      have hwb : Wid (bx k w x 2048) 1 := (bx_wd hR mT mx (by omega)).mono (by omega)
      refine J.reg rfl <| O.fa rfl <| ?_
      refine O.ldTs rfl hb1.to.h.f fun p13 m13 c13 s13 => ?_
      have h13 := s13.v
      refine O.fa rfl <| ?_
      refine O.ldTs rfl hb1.to.h.s.f fun p15 m15 c15 s15 => ?_
      have h15 := s15.v
      refine O.call rfl (sign_Floor_ok (P := 2048) (s := 1025) hR hw s13.to s15.to hT hx (by decide) (by omega) (vB_all (by omega) (by omega)) (by decide) (by omega)) fun W16 v16 i16 e16 h16 => ?_
      obtain ⟨z, h16, hfl, _⟩ := h16
      refine O.allocE fun W3 b3 i3 e3 hl3 hc3 hz3 => ?_
      refine O.stT rfl rfl hl3.to h16.to rfl fun Ws2 is2 hb3 F3 => ?_
      refine JO.nil <| J.seq <| J.seq <| J.reg rfl <| O.fa rfl <| ?_
      refine O.ldTs rfl hb1.to.h.f fun p18 m18 c18 s18 => ?_
      have h18 := s18.v
      refine O.call rfl ((ref07_Real_ok s18.to hS.st (by have := s18.hn; omega) (short_TSR hS.t) (by rw [s18.hn]; exact hv1)).eqB (b0 := true) ⟨fun _ => realR_ct.2 hR, fun _ => rfl⟩) fun W19 v19 i19 e19 h19 => ?_
      subst h19
      refine O.not rfl <| O.mv rfl <| O.gt rfl rfl <| O.fa rfl <| O.gt rfl rfl <| ?_
      refine O.ldTs rfl hb1.to.h.f fun p23 m23 c23 s23 => ?_
      have h23 := s23.v
      refine O.gt rfl rfl <| O.fa rfl <| O.gt rfl rfl <| ?_
      refine O.ldTs rfl hb1.to.h.s.f fun p25 m25 c25 s25 => ?_
      have h25 := s25.v
      refine O.gt rfl rfl <| ?_
      refine O.call rfl ((ref06_Formed_ok s23.to s25.to hS.st hS.a.small (by omega)).eqB (b0 := true) ⟨fun _ => (fine1_iff.1 (fine_ct1 hR)).2, fun _ => rfl⟩) fun W26 v26 i26 e26 h26 => ?_
      subst h26
      refine O.gt rfl rfl <| O.not rfl <| O.pickF rfl rfl <| JO.nil <| J.condF rfl <| J.skip <| J.seq <| ?_
      refine J.draw [.rel _, .ex _, .rel _, .ex _, .rel _, .rel _] rfl rfl ⟨fun Wd id ed _ => O.ldTD rfl hb3.to.h rfl rfl (fun h => nomatch h), fun Wd id ed _ => O.fa rfl <| D.ex, fun Wd id ed _ => O.ldTD rfl hb1.to.h.f rfl rfl (fun _ => rfl), fun Wd id ed _ => O.fa rfl <| D.ex, fun Wd id ed _ => O.ldTD rfl hb1.to.h.s.f rfl rfl (fun _ => rfl), fun Wd id ed _ => fun v33 h33 => fun v35 h35 => (by obtain ⟨p33, m33, c33, rfl, s33⟩ := h33.sl; obtain ⟨p35, m35, c35, rfl, s35⟩ := h35.sl; exact O.call rfl (ref07_Floor_ok (s := 1025) hR hwb s33.to s35.to hT hx (by decide) (by omega) (vB_all (by omega) (by omega)) (by omega)) fun Wd vd id ed hd => D.rel (R := fun W v => V RI W v (ci z)) ed (by obtain ⟨z', h1, h2⟩ := hd; have e := FloorOf.uniq hR h2 hfl; rw [← e]; exact h1) V.me), trivial⟩ ?_
      intro Wr6 ir6 er6 v31 h31 v33 h33 v35 h35 v36 h36
      obtain ⟨p33, m33, c33, rfl, s33⟩ := h33.sl
      obtain ⟨p35, m35, c35, rfl, s35⟩ := h35.sl
      refine O.call rfl (ref02_SameInt_ok h31.to h36.to) fun W37 v37 i37 e37 h37 => ?_
      subst h37
      refine O.as rfl <| JO.nil <| J.ret1 rfl (.tmp rfl) fun W' iE iP => ?_
      first | rfl | simp
theorem eB3' : ∀ k, k < 4 → eB 1025 (2 * (2048 + 64 + 16)) k ≤ 300000 := by decide
theorem law07_SignEnclose_ok {bits : Int} (hv : V RC3 W v (t, a, b)) (ht : t.length ≤ 1099511627776) (hb64 : -9223372036854775808 ≤ bits ∧ bits < 9223372036854775808) :
    Ok Tryz.prog 4 [v, .int .i64 bits] W fun _ r => r = .bool true := by
  refine Ok.enter Tryz.func4 rfl rfl rfl rfl fun W0 iEn => ?_
  refine J.seq <| J.reg rfl <| O.boxT rfl hv.to fun W2 b2 i2 hb2 => O.as rfl <| JO.nil <| J.seq <| J.seq <| J.reg rfl <| ?_
  refine O.call rfl (law07_awake_ok) fun W6 v6 i6 e6 h6 => ?_
  subst h6
  refine O.not rfl <| O.mv rfl <| O.gt rfl rfl <| O.ldT rfl hb2.to.h rfl rfl (fun h => nomatch h) fun v9 h9 => O.gt rfl rfl <| O.call rfl (ref07_Small_ok h9.to ht) fun W10 v10 i10 e10 h10 => ?_
  obtain ⟨f1, rfl, hf1⟩ := h10
  refine O.gt rfl rfl <| O.not rfl <| O.pickF rfl rfl <| O.mv rfl <| ?_
  by_cases hg13 : f1 = false
  · skip
    refine O.set (t := 13) (.bool true) rfl (by rw [hg13]; rfl) <| O.gs rfl rfl rfl <| O.gs rfl rfl rfl <| O.gs rfl rfl rfl <| O.gu rfl rfl <| O.gu rfl rfl <| O.gs rfl rfl rfl <| O.pickT rfl rfl <| JO.nil <| J.condT rfl <| J.seq <| J.reg rfl <| ?_
    refine O.call rfl (law07_awake_ok) fun W21 v21 i21 e21 h21 => ?_
    subst h21
    refine O.as rfl <| JO.nil <| J.ret1 rfl (.tmp rfl) fun W' iE iP => ?_
    rfl
  · skip
    have hS := (hf1.1 (by cases f1 <;> simp_all)).s
    have hl3 := hS.l
    obtain ⟨bF, hbF⟩ := dec_ex (fine t [a] ∧ 0 ≤ bits ∧ bits ≤ 1024)
    obtain ⟨bR, hbR⟩ := dec_ex (realR t)
    obtain ⟨bA, hbA⟩ := dec_ex (okT t ∧ okE (2 ^ t.length) a)
    have hv1 : vB 1025 t.length 1025 ≤ 8796093022208 := vB_all (by omega) (by decide)
    refine O.set (t := 13) (.bool false) rfl (by cases f1 <;> simp_all) <| O.gt rfl rfl <| O.mv rfl <| O.gt rfl rfl <| O.gtr rfl rfl <| O.gt rfl rfl <| O.mv rfl <| ?_
    by_cases hg16 : 64 < bits
    · skip
      refine O.set (t := 16) (.bool true) rfl (by simp only [Value.bool.injEq, decide_eq_true_eq, decide_eq_false_iff_not]; omega) <| O.gt rfl rfl <| O.mv rfl <| O.gt rfl rfl <| O.le rfl rfl <| O.gt rfl rfl <| O.pickT rfl rfl <| O.pickF rfl rfl <| JO.nil <| J.condD rfl (fun h20 => ?_) (fun h20 => ?_)
      · skip
        refine J.seq <| J.reg rfl <| ?_
        refine O.call rfl (law07_awake_ok) fun W21 v21 i21 e21 h21 => ?_
        subst h21
        refine O.as rfl <| JO.nil <| J.ret1 rfl (.tmp rfl) fun W' iE iP => ?_
        rfl
      · skip
        refine J.skip <| J.seq <| ?_
        cases bF
        · skip
          have hno : ¬ (fine t [a] ∧ 0 ≤ bits ∧ bits ≤ 1024) := fun e => by have := hbF.2 e; cases this
          have hno' : ¬ fine t [a] ∨ bits < 0 ∨ 1024 < bits := by
            by_cases h1 : fine t [a]
            · exact .inr (by by_cases h2 : 0 ≤ bits <;> simp_all <;> omega)
            · exact .inl h1
          refine J.reg rfl <| O.fa rfl <| ?_
          refine O.ldTs rfl hb2.to.h.f fun p23 m23 c23 s23 => ?_
          have h23 := s23.v
          refine O.fa rfl <| ?_
          refine O.ldTs rfl hb2.to.h.s.f fun p25 m25 c25 s25 => ?_
          have h25 := s25.v
          refine O.mv rfl <| O.call rfl (sign_Enclose_no hno' s23.to s25.to hS.st hS.a.small (by have := s23.hn; omega) (short_TSR hS.t) (by rw [s23.hn]; exact hv1)) fun W27 v27 i27 e27 h27 => ?_
          refine O.allocE fun W5 b5 i5 e5 hl5 hc5 hz5 => ?_
          refine O.stT rfl rfl hl5.to h27.to rfl fun Ws1 is1 hb5 F5 => ?_
          refine JO.nil <| J.seq <| J.seq <| J.reg rfl <| O.fa rfl <| ?_
          refine O.ldTs rfl hb2.to.h.f fun p29 m29 c29 s29 => ?_
          have h29 := s29.v
          refine O.call rfl ((ref07_Real_ok s29.to hS.st (by have := s29.hn; omega) (short_TSR hS.t) (by rw [s29.hn]; exact hv1)).eqB hbR) fun W30 v30 i30 e30 h30 => ?_
          subst h30
          refine O.not rfl <| O.mv rfl <| ?_
          by_cases hg32 : bR = false
          · skip
            refine O.set (t := 32) (.bool true) rfl (by rw [hg32]; rfl) <| O.gs rfl rfl rfl <| O.gs rfl rfl rfl <| O.gs rfl rfl rfl <| O.gs rfl rfl rfl <| O.gs rfl rfl rfl <| O.gs rfl rfl rfl <| O.pickT rfl rfl <| O.mv rfl <| O.gs rfl rfl rfl <| O.gs rfl rfl rfl <| O.pickT rfl rfl <| O.mv rfl <| O.gs rfl rfl rfl <| O.gs rfl rfl rfl <| O.pickT rfl rfl <| JO.nil <| J.condT rfl <| J.seq <| J.reg rfl <| O.ldT rfl hb5.to.h rfl rfl (fun h => nomatch h) fun v48 h48 => ?_
            refine O.call rfl (ref03_Zero_ok h48.to) fun W49 v49 i49 e49 h49 => ?_
            subst h49
            refine O.as rfl <| JO.nil <| J.ret1 rfl (.tmp rfl) fun W' iE iP => ?_
            rfl
          · skip
            refine O.set (t := 32) (.bool false) rfl (by cases bR <;> simp_all) <| O.gt rfl rfl <| O.fa rfl <| O.gt rfl rfl <| ?_
            refine O.ldTs rfl hb2.to.h.f fun p34 m34 c34 s34 => ?_
            have h34 := s34.v
            refine O.gt rfl rfl <| O.fa rfl <| O.gt rfl rfl <| ?_
            refine O.ldTs rfl hb2.to.h.s.f fun p36 m36 c36 s36 => ?_
            have h36 := s36.v
            refine O.gt rfl rfl <| ?_
            refine O.call rfl ((ref06_Formed_ok s34.to s36.to hS.st hS.a.small (by omega)).eqB hbA) fun W37 v37 i37 e37 h37 => ?_
            subst h37
            refine O.gt rfl rfl <| O.not rfl <| O.pickF rfl rfl <| O.mv rfl <| ?_
            by_cases hg40 : bA = false
            · skip
              refine O.set (t := 40) (.bool true) rfl (by rw [hg40]; rfl) <| O.gs rfl rfl rfl <| O.gs rfl rfl rfl <| O.pickT rfl rfl <| O.mv rfl <| O.gs rfl rfl rfl <| O.gs rfl rfl rfl <| O.pickT rfl rfl <| JO.nil <| J.condT rfl <| J.seq <| J.reg rfl <| O.ldT rfl hb5.to.h rfl rfl (fun h => nomatch h) fun v48 h48 => ?_
              refine O.call rfl (ref03_Zero_ok h48.to) fun W49 v49 i49 e49 h49 => ?_
              subst h49
              refine O.as rfl <| JO.nil <| J.ret1 rfl (.tmp rfl) fun W' iE iP => ?_
              rfl
            · skip
              refine O.set (t := 40) (.bool false) rfl (by cases bA <;> simp_all) <| O.gt rfl rfl <| O.mv rfl <| O.gt rfl rfl <| O.lt rfl rfl <| O.pickF rfl rfl <| O.mv rfl <| ?_
              by_cases hg44 : bits < 0
              · skip
                refine O.set (t := 44) (.bool true) rfl (by simp only [Value.bool.injEq, decide_eq_true_eq, decide_eq_false_iff_not]; omega) <| O.gs rfl rfl rfl <| O.gs rfl rfl rfl <| O.pickT rfl rfl <| JO.nil <| J.condT rfl <| J.seq <| J.reg rfl <| O.ldT rfl hb5.to.h rfl rfl (fun h => nomatch h) fun v48 h48 => ?_
                refine O.call rfl (ref03_Zero_ok h48.to) fun W49 v49 i49 e49 h49 => ?_
                subst h49
                refine O.as rfl <| JO.nil <| J.ret1 rfl (.tmp rfl) fun W' iE iP => ?_
                rfl
              · skip
                refine O.set (t := 44) (.bool false) rfl (by simp only [Value.bool.injEq, decide_eq_true_eq, decide_eq_false_iff_not]; omega) <| O.gt rfl rfl <| O.mv rfl <| O.gt rfl rfl <| O.gtr rfl rfl <| O.pickF rfl rfl <| JO.nil <| J.condD rfl (fun h47 => ?_) (fun h47 => ?_)
                · skip
                  refine J.seq <| J.reg rfl <| O.ldT rfl hb5.to.h rfl rfl (fun h => nomatch h) fun v48 h48 => ?_
                  refine O.call rfl (ref03_Zero_ok h48.to) fun W49 v49 i49 e49 h49 => ?_
                  subst h49
                  refine O.as rfl <| JO.nil <| J.ret1 rfl (.tmp rfl) fun W' iE iP => ?_
                  rfl
                · skip
                  exact absurd ⟨fine1_iff.2 ⟨hbR.1 (by cases bR <;> simp_all), hbA.1 (by cases bA <;> simp_all)⟩, by omega, by omega⟩ hno -- done
        · skip
          obtain ⟨hfi, hb0, hb1⟩ := hbF.1 rfl
          obtain ⟨n, rfl⟩ : ∃ n : Nat, bits = n := ⟨bits.toNat, by omega⟩
          have hn64 : n ≤ 64 := by omega
          obtain ⟨k, w, x, hk, rfl, rfl, hR, hT, hx, mT, mx⟩ := one_typed hS hfi
          have e1 := eW3 k (by omega)
          have e2 : eB 1025 (2 * (2048 + n + 16)) k ≤ 300000 := Nat.le_trans (eB_mono (by omega) k) (eB3' k (by omega))
          have hw := enc_bits (bits := n) hR mT mx (P := 2048) (by omega)
          refine J.reg rfl <| O.fa rfl <| ?_
          refine O.ldTs rfl hb2.to.h.f fun p23 m23 c23 s23 => ?_
          have h23 := s23.v
          refine O.fa rfl <| ?_
          refine O.ldTs rfl hb2.to.h.s.f fun p25 m25 c25 s25 => ?_
          have h25 := s25.v
          refine O.mv rfl <| O.call rfl (sign_Enclose_ok (P := 2048) (s := 1025) (bits := n) hR hw s23.to s25.to hT hx (by decide) (by omega) (vB_all (by omega) (by decide)) (by omega) (by decide) (by omega)) fun W27 v27 i27 e27 h27 => ?_
          obtain ⟨lo, hi, h27, hin, hwd, qx, qy⟩ := h27
          refine O.allocE fun W5 b5 i5 e5 hl5 hc5 hz5 => ?_
          refine O.stT rfl rfl hl5.to h27.to rfl fun Ws2 is2 hb5 F5 => ?_
          refine JO.nil <| J.seq <| J.seq <| J.reg rfl <| O.fa rfl <| ?_
          refine O.ldTs rfl hb2.to.h.f fun p29 m29 c29 s29 => ?_
          have h29 := s29.v
          refine O.call rfl ((ref07_Real_ok s29.to hS.st (by have := s29.hn; omega) (short_TSR hS.t) (by rw [s29.hn]; exact hv1)).eqB (b0 := true) ⟨fun _ => realR_ct.2 hR, fun _ => rfl⟩) fun W30 v30 i30 e30 h30 => ?_
          subst h30
          refine O.not rfl <| O.mv rfl <| O.gt rfl rfl <| O.fa rfl <| O.gt rfl rfl <| ?_
          refine O.ldTs rfl hb2.to.h.f fun p34 m34 c34 s34 => ?_
          have h34 := s34.v
          refine O.gt rfl rfl <| O.fa rfl <| O.gt rfl rfl <| ?_
          refine O.ldTs rfl hb2.to.h.s.f fun p36 m36 c36 s36 => ?_
          have h36 := s36.v
          refine O.gt rfl rfl <| ?_
          refine O.call rfl ((ref06_Formed_ok s34.to s36.to hS.st hS.a.small (by omega)).eqB (b0 := true) ⟨fun _ => (fine1_iff.1 (fine_ct1 hR)).2, fun _ => rfl⟩) fun W37 v37 i37 e37 h37 => ?_
          subst h37
          refine O.gt rfl rfl <| O.not rfl <| O.pickF rfl rfl <| O.mv rfl <| O.gt rfl rfl <| O.mv rfl <| O.gt rfl rfl <| O.lt rfl rfl <| ?_
          refine O.set (t := 42) (.bool false) rfl (by simp only [Value.bool.injEq, decide_eq_false_iff_not]; omega) ?_
          refine O.pickF rfl rfl <| O.mv rfl <| O.gt rfl rfl <| O.mv rfl <| O.gt rfl rfl <| O.gtr rfl rfl <| ?_
          refine O.set (t := 46) (.bool false) rfl (by simp only [Value.bool.injEq, decide_eq_false_iff_not]; omega) ?_
          refine O.pickF rfl rfl <| JO.nil <| J.condF rfl <| J.skip <| J.seq <| J.reg rfl <| O.ldT rfl hb5.to.h rfl rfl (fun h => nomatch h) fun v50 h50 => O.mv rfl <| ?_
          refine O.call rfl (ref03_Narrow_ok (b := n) h50.to qx qy (by omega) (by omega)) fun W52 v52 i52 e52 h52 => ?_
          subst h52
          refine O.set (t := 52) (.bool true) rfl (by simp only [Value.bool.injEq, decide_eq_true_eq]; exact narrow_iff.2 hwd) ?_
          refine O.mv rfl <| O.gt rfl rfl <| O.fa rfl <| O.gt rfl rfl <| ?_
          refine O.ldTs rfl hb2.to.h.f fun p55 m55 c55 s55 => ?_
          have h55 := s55.v
          refine O.gt rfl rfl <| O.fa rfl <| O.gt rfl rfl <| ?_
          refine O.ldTs rfl hb2.to.h.s.f fun p57 m57 c57 s57 => ?_
          have h57 := s57.v
          refine O.gt rfl rfl <| O.ldT rfl hb5.to.h rfl rfl (fun h => nomatch h) fun v58 h58 => O.gt rfl rfl <| ?_
          refine O.call rfl (ref07_Contains_ok (s := 1025) hR s55.to s57.to h58.to hT hx qx qy (by omega) (vB_all (by omega) (by omega)) hin) fun W59 v59 i59 e59 h59 => ?_
          subst h59
          refine O.pickT rfl rfl <| O.as rfl <| JO.nil <| J.ret1 rfl (.tmp rfl) fun W' iE iP => ?_
          rfl
    · skip
      refine O.set (t := 16) (.bool false) rfl (by simp only [Value.bool.injEq, decide_eq_true_eq, decide_eq_false_iff_not]; omega) <| O.gs rfl rfl rfl <| O.gs rfl rfl rfl <| O.gt rfl rfl <| O.pickF rfl rfl <| O.pickF rfl rfl <| JO.nil <| J.condF rfl <| J.skip <| J.seq <| ?_
      cases bF
      · skip
        have hno : ¬ (fine t [a] ∧ 0 ≤ bits ∧ bits ≤ 1024) := fun e => by have := hbF.2 e; cases this
        have hno' : ¬ fine t [a] ∨ bits < 0 ∨ 1024 < bits := by
          by_cases h1 : fine t [a]
          · exact .inr (by by_cases h2 : 0 ≤ bits <;> simp_all <;> omega)
          · exact .inl h1
        refine J.reg rfl <| O.fa rfl <| ?_
        refine O.ldTs rfl hb2.to.h.f fun p23 m23 c23 s23 => ?_
        have h23 := s23.v
        refine O.fa rfl <| ?_
        refine O.ldTs rfl hb2.to.h.s.f fun p25 m25 c25 s25 => ?_
        have h25 := s25.v
        refine O.mv rfl <| O.call rfl (sign_Enclose_no hno' s23.to s25.to hS.st hS.a.small (by have := s23.hn; omega) (short_TSR hS.t) (by rw [s23.hn]; exact hv1)) fun W27 v27 i27 e27 h27 => ?_
        refine O.allocE fun W5 b5 i5 e5 hl5 hc5 hz5 => ?_
        refine O.stT rfl rfl hl5.to h27.to rfl fun Ws3 is3 hb5 F5 => ?_
        refine JO.nil <| J.seq <| J.seq <| J.reg rfl <| O.fa rfl <| ?_
        refine O.ldTs rfl hb2.to.h.f fun p29 m29 c29 s29 => ?_
        have h29 := s29.v
        refine O.call rfl ((ref07_Real_ok s29.to hS.st (by have := s29.hn; omega) (short_TSR hS.t) (by rw [s29.hn]; exact hv1)).eqB hbR) fun W30 v30 i30 e30 h30 => ?_
        subst h30
        refine O.not rfl <| O.mv rfl <| ?_
        by_cases hg32 : bR = false
        · skip
          refine O.set (t := 32) (.bool true) rfl (by rw [hg32]; rfl) <| O.gs rfl rfl rfl <| O.gs rfl rfl rfl <| O.gs rfl rfl rfl <| O.gs rfl rfl rfl <| O.gs rfl rfl rfl <| O.gs rfl rfl rfl <| O.pickT rfl rfl <| O.mv rfl <| O.gs rfl rfl rfl <| O.gs rfl rfl rfl <| O.pickT rfl rfl <| O.mv rfl <| O.gs rfl rfl rfl <| O.gs rfl rfl rfl <| O.pickT rfl rfl <| JO.nil <| J.condT rfl <| J.seq <| J.reg rfl <| O.ldT rfl hb5.to.h rfl rfl (fun h => nomatch h) fun v48 h48 => ?_
          refine O.call rfl (ref03_Zero_ok h48.to) fun W49 v49 i49 e49 h49 => ?_
          subst h49
          refine O.as rfl <| JO.nil <| J.ret1 rfl (.tmp rfl) fun W' iE iP => ?_
          rfl
        · skip
          refine O.set (t := 32) (.bool false) rfl (by cases bR <;> simp_all) <| O.gt rfl rfl <| O.fa rfl <| O.gt rfl rfl <| ?_
          refine O.ldTs rfl hb2.to.h.f fun p34 m34 c34 s34 => ?_
          have h34 := s34.v
          refine O.gt rfl rfl <| O.fa rfl <| O.gt rfl rfl <| ?_
          refine O.ldTs rfl hb2.to.h.s.f fun p36 m36 c36 s36 => ?_
          have h36 := s36.v
          refine O.gt rfl rfl <| ?_
          refine O.call rfl ((ref06_Formed_ok s34.to s36.to hS.st hS.a.small (by omega)).eqB hbA) fun W37 v37 i37 e37 h37 => ?_
          subst h37
          refine O.gt rfl rfl <| O.not rfl <| O.pickF rfl rfl <| O.mv rfl <| ?_
          by_cases hg40 : bA = false
          · skip
            refine O.set (t := 40) (.bool true) rfl (by rw [hg40]; rfl) <| O.gs rfl rfl rfl <| O.gs rfl rfl rfl <| O.pickT rfl rfl <| O.mv rfl <| O.gs rfl rfl rfl <| O.gs rfl rfl rfl <| O.pickT rfl rfl <| JO.nil <| J.condT rfl <| J.seq <| J.reg rfl <| O.ldT rfl hb5.to.h rfl rfl (fun h => nomatch h) fun v48 h48 => ?_
            refine O.call rfl (ref03_Zero_ok h48.to) fun W49 v49 i49 e49 h49 => ?_
            subst h49
            refine O.as rfl <| JO.nil <| J.ret1 rfl (.tmp rfl) fun W' iE iP => ?_
            rfl
          · skip
            refine O.set (t := 40) (.bool false) rfl (by cases bA <;> simp_all) <| O.gt rfl rfl <| O.mv rfl <| O.gt rfl rfl <| O.lt rfl rfl <| O.pickF rfl rfl <| O.mv rfl <| ?_
            by_cases hg44 : bits < 0
            · skip
              refine O.set (t := 44) (.bool true) rfl (by simp only [Value.bool.injEq, decide_eq_true_eq, decide_eq_false_iff_not]; omega) <| O.gs rfl rfl rfl <| O.gs rfl rfl rfl <| O.pickT rfl rfl <| JO.nil <| J.condT rfl <| J.seq <| J.reg rfl <| O.ldT rfl hb5.to.h rfl rfl (fun h => nomatch h) fun v48 h48 => ?_
              refine O.call rfl (ref03_Zero_ok h48.to) fun W49 v49 i49 e49 h49 => ?_
              subst h49
              refine O.as rfl <| JO.nil <| J.ret1 rfl (.tmp rfl) fun W' iE iP => ?_
              rfl
            · skip
              refine O.set (t := 44) (.bool false) rfl (by simp only [Value.bool.injEq, decide_eq_true_eq, decide_eq_false_iff_not]; omega) <| O.gt rfl rfl <| O.mv rfl <| O.gt rfl rfl <| O.gtr rfl rfl <| O.pickF rfl rfl <| JO.nil <| J.condD rfl (fun h47 => ?_) (fun h47 => ?_)
              · skip
                refine J.seq <| J.reg rfl <| O.ldT rfl hb5.to.h rfl rfl (fun h => nomatch h) fun v48 h48 => ?_
                refine O.call rfl (ref03_Zero_ok h48.to) fun W49 v49 i49 e49 h49 => ?_
                subst h49
                refine O.as rfl <| JO.nil <| J.ret1 rfl (.tmp rfl) fun W' iE iP => ?_
                rfl
              · skip
                exact absurd ⟨fine1_iff.2 ⟨hbR.1 (by cases bR <;> simp_all), hbA.1 (by cases bA <;> simp_all)⟩, by omega, by omega⟩ hno -- done
      · skip
        obtain ⟨hfi, hb0, hb1⟩ := hbF.1 rfl
        obtain ⟨n, rfl⟩ : ∃ n : Nat, bits = n := ⟨bits.toNat, by omega⟩
        have hn64 : n ≤ 64 := by omega
        obtain ⟨k, w, x, hk, rfl, rfl, hR, hT, hx, mT, mx⟩ := one_typed hS hfi
        have e1 := eW3 k (by omega)
        have e2 : eB 1025 (2 * (2048 + n + 16)) k ≤ 300000 := Nat.le_trans (eB_mono (by omega) k) (eB3' k (by omega))
        have hw := enc_bits (bits := n) hR mT mx (P := 2048) (by omega)
        refine J.reg rfl <| O.fa rfl <| ?_
        refine O.ldTs rfl hb2.to.h.f fun p23 m23 c23 s23 => ?_
        have h23 := s23.v
        refine O.fa rfl <| ?_
        refine O.ldTs rfl hb2.to.h.s.f fun p25 m25 c25 s25 => ?_
        have h25 := s25.v
        refine O.mv rfl <| O.call rfl (sign_Enclose_ok (P := 2048) (s := 1025) (bits := n) hR hw s23.to s25.to hT hx (by decide) (by omega) (vB_all (by omega) (by decide)) (by omega) (by decide) (by omega)) fun W27 v27 i27 e27 h27 => ?_
        obtain ⟨lo, hi, h27, hin, hwd, qx, qy⟩ := h27
        refine O.allocE fun W5 b5 i5 e5 hl5 hc5 hz5 => ?_
        refine O.stT rfl rfl hl5.to h27.to rfl fun Ws4 is4 hb5 F5 => ?_
        refine JO.nil <| J.seq <| J.seq <| J.reg rfl <| O.fa rfl <| ?_
        refine O.ldTs rfl hb2.to.h.f fun p29 m29 c29 s29 => ?_
        have h29 := s29.v
        refine O.call rfl ((ref07_Real_ok s29.to hS.st (by have := s29.hn; omega) (short_TSR hS.t) (by rw [s29.hn]; exact hv1)).eqB (b0 := true) ⟨fun _ => realR_ct.2 hR, fun _ => rfl⟩) fun W30 v30 i30 e30 h30 => ?_
        subst h30
        refine O.not rfl <| O.mv rfl <| O.gt rfl rfl <| O.fa rfl <| O.gt rfl rfl <| ?_
        refine O.ldTs rfl hb2.to.h.f fun p34 m34 c34 s34 => ?_
        have h34 := s34.v
        refine O.gt rfl rfl <| O.fa rfl <| O.gt rfl rfl <| ?_
        refine O.ldTs rfl hb2.to.h.s.f fun p36 m36 c36 s36 => ?_
        have h36 := s36.v
        refine O.gt rfl rfl <| ?_
        refine O.call rfl ((ref06_Formed_ok s34.to s36.to hS.st hS.a.small (by omega)).eqB (b0 := true) ⟨fun _ => (fine1_iff.1 (fine_ct1 hR)).2, fun _ => rfl⟩) fun W37 v37 i37 e37 h37 => ?_
        subst h37
        refine O.gt rfl rfl <| O.not rfl <| O.pickF rfl rfl <| O.mv rfl <| O.gt rfl rfl <| O.mv rfl <| O.gt rfl rfl <| O.lt rfl rfl <| ?_
        refine O.set (t := 42) (.bool false) rfl (by simp only [Value.bool.injEq, decide_eq_false_iff_not]; omega) ?_
        refine O.pickF rfl rfl <| O.mv rfl <| O.gt rfl rfl <| O.mv rfl <| O.gt rfl rfl <| O.gtr rfl rfl <| ?_
        refine O.set (t := 46) (.bool false) rfl (by simp only [Value.bool.injEq, decide_eq_false_iff_not]; omega) ?_
        refine O.pickF rfl rfl <| JO.nil <| J.condF rfl <| J.skip <| J.seq <| J.reg rfl <| O.ldT rfl hb5.to.h rfl rfl (fun h => nomatch h) fun v50 h50 => O.mv rfl <| ?_
        refine O.call rfl (ref03_Narrow_ok (b := n) h50.to qx qy (by omega) (by omega)) fun W52 v52 i52 e52 h52 => ?_
        subst h52
        refine O.set (t := 52) (.bool true) rfl (by simp only [Value.bool.injEq, decide_eq_true_eq]; exact narrow_iff.2 hwd) ?_
        refine O.mv rfl <| O.gt rfl rfl <| O.fa rfl <| O.gt rfl rfl <| ?_
        refine O.ldTs rfl hb2.to.h.f fun p55 m55 c55 s55 => ?_
        have h55 := s55.v
        refine O.gt rfl rfl <| O.fa rfl <| O.gt rfl rfl <| ?_
        refine O.ldTs rfl hb2.to.h.s.f fun p57 m57 c57 s57 => ?_
        have h57 := s57.v
        refine O.gt rfl rfl <| O.ldT rfl hb5.to.h rfl rfl (fun h => nomatch h) fun v58 h58 => O.gt rfl rfl <| ?_
        refine O.call rfl (ref07_Contains_ok (s := 1025) hR s55.to s57.to h58.to hT hx qx qy (by omega) (vB_all (by omega) (by omega)) hin) fun W59 v59 i59 e59 h59 => ?_
        subst h59
        refine O.pickT rfl rfl <| O.as rfl <| JO.nil <| J.ret1 rfl (.tmp rfl) fun W' iE iP => ?_
        rfl
end
end Go.Proofs.YtklnoajdhknfnaaGreat
