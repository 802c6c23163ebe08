/- The statements on Real, Sign, Lift, Sum, Product: the walks. -/
import Derived.Test.YtklnoajdhknfnaaGreatSq
set_option linter.unusedVariables false
set_option linter.unusedSimpArgs false
set_option maxRecDepth 10000
set_option maxHeartbeats 8000000
namespace Go.Rx
open Go
section
variable {P : Program} {n : Nat} {ops : Array Oper} {l : List Oper} {K : List Kt} {fin : Exit → Act → World → Prop} {env : Env} {W : GW}
variable {d : Nat} {ty : TypeId} {pos : String} {aft : Array Edge}
/-- == with a known answer -/
theorem O.eqV {x y : Operand} {T T' : TypeId} {k' : IntKind} {a b : Int} (c : Bool) (hx : get env x = some (.int k' a)) (hy : get env y = some (.int k' b)) (h : decide (a = b) = c)
    (k : JO P n ops l K fin ((d, .bool c) :: env) W) : JO P n ops (⟨some d, .binOp .eql T x y T', ty, pos, aft, none⟩ :: l) K fin env W := by
  subst h
  exact O.eq hx hy k
end
end Go.Rx
namespace Go.Proofs.YtklnoajdhknfnaaGreat
open Go Go.Rx Go.Num Go.Tow
theorem ref06_MulE_ok {W : GW} {p q q2 : Option Addr} {n c m d m2 d2 r s s' k : Nat} {t : Tw k} {a b : El k} (h : Sl RE W p n c (ct (toT k t))) (h' : Sl RQ W q m d (cl (toL k a))) (h2 : Sl RQ W q2 m2 d2 (cl (toL k b))) (hT : TS r k t) (ha : Sz s (toL k a)) (hb : Sz s' (toL k b)) (hk : k ≤ 16) (hs : s + s' + cB r k ≤ 8796093022208) :
    Ok Tryz.prog 26 [.slice p n c, .slice q m d, .slice q2 m2 d2] W fun W' v => V RE W' v (cl (toL k (mul k t a b))) := (ref06_Mul_own h h' h2 hT ha hb hk hs).own
theorem ref06_AddE_ok {W : GW} {p q q2 : Option Addr} {n c m d m2 d2 s s' k : Nat} {a b : El k} (h' : Sl RQ W q m d (cl (toL k a))) (h2 : Sl RQ W q2 m2 d2 (cl (toL k b))) (ha : Sz s (toL k a)) (hb : Sz s' (toL k b)) (hk : k ≤ 16) (hs : s + s' + 1 ≤ 8796093022208) :
    Ok Tryz.prog 28 [.slice p n c, .slice q m d, .slice q2 m2 d2] W fun W' v => V RE W' v (cl (toL k (add k a b))) := by
  have hp := pow_le hk
  have hm : m = 2 ^ k := by rw [h'.hn, cl_length, toL_length]
  rw [toL_add]
  exact (ref06_Add_own h' h2 (by rw [toL_length, toL_length]) (by omega) ha.qs' hb.qs' (by omega)).own
theorem ref06_NegE_ok {W : GW} {p q : Option Addr} {n c m d s k : Nat} {a : El k} (h' : Sl RQ W q m d (cl (toL k a))) (ha : Sz s (toL k a)) (hk : k ≤ 16) (hs : s ≤ 8796093022208) :
    Ok Tryz.prog 27 [.slice p n c, .slice q m d] W fun W' v => V RE W' v (cl (toL k (neg k a))) := by
  have hp := pow_le hk
  have hm : m = 2 ^ k := by rw [h'.hn, cl_length, toL_length]
  rw [toL_neg]
  exact (ref06_Neg_own h' (by omega)).own
section
variable {W : GW} {v : Value} {t : List (List Raw)} {a b : List Raw}
/-- what a right case is -/
theorem right_typed {t : List (List Raw)} {a b : List Raw} (h : smallC t a b ∧ fine t [a, b]) : ∃ (k : Nat) (w : Tw k) (x y : El k), k ≤ 3 ∧ t = ct (toT k w) ∧ a = cl (toL k x) ∧ b = cl (toL k y) ∧ real k w ∧ TS 1025 k w ∧ Sz 1025 (toL k x) ∧ Sz 1025 (toL k y) := by
  obtain ⟨k, w, x, y, rfl, rfl, rfl, hw⟩ := fine2 h.2
  have hS := h.1.s
  have hl := hS.l
  rw [ct_length] at hl
  exact ⟨k, w, x, y, hl, rfl, rfl, rfl, hw, short_ts hS.t, short_sz hS.a, short_sz hS.b⟩
theorem law07_SignReal_ok (hv : V RC3 W v (t, a, b)) (ht : t.length ≤ 1099511627776) :
    Ok Tryz.prog 3 [v] W fun _ r => r = .bool true := by
  refine Ok.enter Tryz.func3 rfl rfl rfl rfl fun W0 iEn => ?_
  refine J.seq <| J.reg rfl <| O.boxT rfl hv.to fun W1 b1 i1 hb1 => O.as rfl <| JO.nil <| J.seq <| J.seq <| J.reg rfl <| ?_
  refine O.call rfl (law07_awake_ok) fun W3 v3 i3 e3 h3 => ?_
  subst h3
  refine O.not rfl <| O.mv rfl <| O.gt rfl rfl <| O.ldT rfl hb1.to.h rfl rfl (fun h => nomatch h) fun v6 h6 => O.gt rfl rfl <| O.call rfl (ref07_Small_ok h6.to ht) fun W7 v7 i7 e7 h7 => ?_
  obtain ⟨f1, rfl, hf1⟩ := h7
  refine O.gt rfl rfl <| O.not rfl <| O.pickF rfl rfl <| JO.nil <| J.cond rfl (fun h9 => ?_) (fun h9 => ?_)
  · skip
    refine J.seq <| J.reg rfl <| ?_
    refine O.call rfl (law07_awake_ok) fun W10 v10 i10 e10 h10 => ?_
    subst h10
    refine O.as rfl <| JO.nil <| J.ret1 rfl (.tmp rfl) fun W' iE iP => ?_
    rfl
  · skip
    have hS := (hf1.1 (by cases f1 <;> simp_all)).s
    have hl3 := hS.l
    obtain ⟨bR, hbR⟩ := dec_ex (realR t)
    refine J.skip <| J.seq <| ?_
    refine J.draw [.ex _, .rel _, .ex _, .ex _, .rel _] rfl rfl ⟨fun Wd id ed _ => O.fa rfl <| D.ex, fun Wd id ed _ => O.ldTD rfl hb1.to.h.f rfl rfl (fun _ => rfl), fun Wd id ed _ => fun v12 h12 => (by obtain ⟨p12, m12, c12, rfl, s12⟩ := h12.sl; exact O.call rfl ((sign_Real_ok s12.to hS.st (by have := s12.hn; omega) (short_TSR hS.t) (vB_all (by have := s12.hn; omega) (by decide))).eqB hbR) fun Wd vd id ed hd => D.eq ed hd), fun Wd id ed _ => O.fa rfl <| D.ex, fun Wd id ed _ => O.ldTD rfl hb1.to.h.f rfl rfl (fun _ => rfl), trivial⟩ ?_
    intro Wr3 ir3 er3 v12 h12 v15 h15
    obtain ⟨p12, m12, c12, rfl, s12⟩ := h12.sl
    obtain ⟨p15, m15, c15, rfl, s15⟩ := h15.sl
    refine O.call rfl ((ref07_Real_ok s15.to hS.st (by have := s15.hn; omega) (short_TSR hS.t) (vB_all (by have := s15.hn; omega) (by decide))).eqB hbR) fun W16 v16 i16 e16 h16 => ?_
    subst h16
    refine O.beq rfl rfl <| O.as rfl <| JO.nil <| J.ret1 rfl (.tmp rfl) fun W' iE iP => ?_
    cases bR <;> rfl
theorem law07_SignSign_ok (hv : V RC3 W v (t, a, b)) (ht : t.length ≤ 1099511627776) :
    Ok Tryz.prog 10 [v] W fun _ r => r = .bool true := by
  refine Ok.enter Tryz.func10 rfl rfl rfl rfl fun W0 iEn => ?_
  refine J.seq <| J.reg rfl <| O.boxT rfl hv.to fun W1 b1 i1 hb1 => O.as rfl <| JO.nil <| J.seq <| J.seq <| J.reg rfl <| ?_
  refine O.call rfl (law07_awake_ok) fun W4 v4 i4 e4 h4 => ?_
  subst h4
  refine O.not rfl <| O.mv rfl <| O.gt rfl rfl <| O.ldT rfl hb1.to.h rfl rfl (fun h => nomatch h) fun v7 h7 => O.gt rfl rfl <| O.call rfl (ref07_Small_ok h7.to ht) fun W8 v8 i8 e8 h8 => ?_
  obtain ⟨f1, rfl, hf1⟩ := h8
  refine O.gt rfl rfl <| O.not rfl <| O.pickF rfl rfl <| JO.nil <| J.cond rfl (fun h10 => ?_) (fun h10 => ?_)
  · skip
    refine J.seq <| J.reg rfl <| ?_
    refine O.call rfl (law07_awake_ok) fun W11 v11 i11 e11 h11 => ?_
    subst h11
    refine O.as rfl <| JO.nil <| J.ret1 rfl (.tmp rfl) fun W' iE iP => ?_
    rfl
  · skip
    have hC := hf1.1 (by cases f1 <;> simp_all)
    have hS := hC.s
    have hl3 := hS.l
    obtain ⟨z, hz⟩ := SgnIs.ex t a
    refine J.skip <| J.seq <| J.reg rfl <| O.as rfl <| JO.nil <| J.seq <| J.seq <| J.reg rfl <| O.ldT rfl hb1.to.h rfl rfl (fun h => nomatch h) fun v12 h12 => O.call rfl (ref07_Right_ok h12.to ht) fun W13 v13 i13 e13 h13 => ?_
    obtain ⟨f2, rfl, hf2⟩ := h13
    refine JO.nil <| J.cond rfl (fun h13 => ?_) (fun h13 => ?_)
    · skip
      obtain ⟨k, w, x, y, hk, rfl, rfl, rfl, hR, hT, hx, hy⟩ := right_typed (hf2.1 h13)
      have hd : Sz (1025 + 1025 + 1) (toL k (add k x (neg k y))) := by rw [toL_add, toL_neg]; exact hx.add hy.neg
      refine J.draw [.ex _, .rel _, .ex _, .rel _, .ex _, .rel _, .ex _, .rel _, .rel _] rfl rfl ⟨fun Wd id ed _ => O.fa rfl <| D.ex, fun Wd id ed _ => O.ldTD rfl hb1.to.h.f rfl rfl (fun _ => rfl), fun Wd id ed _ => O.fa rfl <| D.ex, fun Wd id ed _ => O.ldTD rfl hb1.to.h.f rfl rfl (fun _ => rfl), fun Wd id ed _ => O.fa rfl <| D.ex, fun Wd id ed _ => O.ldTD rfl hb1.to.h.s.f rfl rfl (fun _ => rfl), fun Wd id ed _ => O.fa rfl <| D.ex, fun Wd id ed _ => O.ldTD rfl hb1.to.h.s.s rfl rfl (fun _ => rfl), fun Wd id ed _ => fun v17 h17 => fun v19 h19 => fun v21 h21 => (by obtain ⟨p17, m17, c17, rfl, s17⟩ := h17.sl; obtain ⟨p19, m19, c19, rfl, s19⟩ := h19.sl; obtain ⟨p21, m21, c21, rfl, s21⟩ := h21.sl; exact O.call rfl (ref06_SubE_ok s19.to s21.to hx hy (by omega) (by decide)) fun Wd vd id ed hd => D.rel ed hd V.me), trivial⟩ ?_
      intro Wr5 ir5 er5 v15 h15 v17 h17 v19 h19 v21 h21 v22 h22
      obtain ⟨p15, m15, c15, rfl, s15⟩ := h15.sl
      obtain ⟨p17, m17, c17, rfl, s17⟩ := h17.sl
      obtain ⟨p19, m19, c19, rfl, s19⟩ := h19.sl
      obtain ⟨p21, m21, c21, rfl, s21⟩ := h21.sl
      obtain ⟨p22, m22, c22, rfl, s22⟩ := h22.sl
      refine O.call rfl (ref07_Sign_ok (r := 1025) (s := 2051) (SgnIs.ct hR) s15.to s22.to hS.st (small_cl hd.qs' (by decide)) (by have := s15.hn; rw [ct_length] at this; omega) (TSR_ct hT) (SZR_cl hd) (vB_all (by have := s15.hn; rw [ct_length] at this; omega) (by decide)) (vB_all (by have := s15.hn; rw [ct_length] at this; omega) (by decide))) fun W23 v23 i23 e23 h23 => ?_
      subst h23
      refine O.as rfl <| JO.nil <| J.seq <| ?_
      have hcmp : CmpIs (ct (toT k w)) (cl (toL k x)) (cl (toL k y)) (sgn k w (add k x (neg k y))) := CmpIs.ct hR
      refine J.draw [.ex _, .rel _, .ex _, .rel _, .rel _, .ex _, .ex _, .rel _, .ex _, .rel _, .ex _, .ex _, .ex _, .ex _, .rel _, .ex _, .rel _, .ex _, .rel _, .ex _, .ex _, .ex _, .ex _] rfl rfl ⟨fun Wd id ed _ => O.fa rfl <| D.ex, fun Wd id ed _ => O.ldTD rfl hb1.to.h.f rfl rfl (fun _ => rfl), fun Wd id ed _ => O.fa rfl <| D.ex, fun Wd id ed _ => O.ldTD rfl hb1.to.h.s.f rfl rfl (fun _ => rfl), fun Wd id ed _ => fun v27 h27 => (by obtain ⟨p27, m27, c27, rfl, s27⟩ := h27.sl; exact O.call rfl (law07_cp_ok s27.to (by have := s27.hn; have := hS.a.1; omega)) fun Wd vd id ed hd => D.rel ed hd V.me), fun Wd id ed _ => fun v25 h25 => fun _ _ => fun v28 h28 => (by obtain ⟨p25, m25, c25, rfl, s25⟩ := h25.sl; obtain ⟨p28, m28, c28, rfl, s28⟩ := h28.sl; exact O.call rfl (sign_Sign_ok (r := 1025) (s := 1025) hz s25.to s28.to hS.st hS.a.small (by have := s25.hn; omega) (short_TSR hS.t) (short_SZR hS.a) (vB_all (by have := s25.hn; omega) (by decide)) (vB_all (by have := s25.hn; omega) (by decide))) fun Wd vd id ed hd => D.eq ed hd), fun Wd id ed _ => O.fa rfl <| D.ex, fun Wd id ed _ => O.ldTD rfl hb1.to.h.f rfl rfl (fun _ => rfl), fun Wd id ed _ => O.fa rfl <| D.ex, fun Wd id ed _ => O.ldTD rfl hb1.to.h.s.f rfl rfl (fun _ => rfl), fun Wd id ed _ => fun v31 h31 => fun v33 h33 => (by obtain ⟨p31, m31, c31, rfl, s31⟩ := h31.sl; obtain ⟨p33, m33, c33, rfl, s33⟩ := h33.sl; exact O.call rfl (ref07_Sign_ok (r := 1025) (s := 1025) hz s31.to s33.to hS.st hS.a.small (by have := s31.hn; omega) (short_TSR hS.t) (short_SZR hS.a) (vB_all (by have := s31.hn; omega) (by decide)) (vB_all (by have := s31.hn; omega) (by decide))) fun Wd vd id ed hd => D.eq ed hd), fun Wd id ed _ => O.eqV true rfl rfl (decide_eq_true rfl) <| D.ex, fun Wd id ed _ => O.mv rfl <| D.ex, fun Wd id ed _ => O.gt rfl rfl <| O.fa rfl <| D.ex, fun Wd id ed _ => O.gt rfl rfl <| O.ldTD rfl hb1.to.h.f rfl rfl (fun _ => rfl), fun Wd id ed _ => O.gt rfl rfl <| O.fa rfl <| D.ex, fun Wd id ed _ => O.gt rfl rfl <| O.ldTD rfl hb1.to.h.s.f rfl rfl (fun _ => rfl), fun Wd id ed _ => O.gt rfl rfl <| O.fa rfl <| D.ex, fun Wd id ed _ => O.gt rfl rfl <| O.ldTD rfl hb1.to.h.s.s rfl rfl (fun _ => rfl), fun Wd id ed _ => fun v38 h38 => fun v40 h40 => fun v42 h42 => (by obtain ⟨p38, m38, c38, rfl, s38⟩ := h38.sl; obtain ⟨p40, m40, c40, rfl, s40⟩ := h40.sl; obtain ⟨p42, m42, c42, rfl, s42⟩ := h42.sl; exact O.gt rfl rfl <| O.call rfl (sign_Cmp_ok (r := 1025) (s := 1025) (s' := 1025) hcmp s38.to s40.to s42.to hS.st hS.a.small hS.b.small (by have := s38.hn; omega) (short_TSR hS.t) (short_SZR hS.a) (short_SZR hS.b) (vB_all (by have := s38.hn; omega) (by decide)) (vB_all (by have := s38.hn; omega) (by decide))) fun Wd vd id ed hd => D.eq ed hd), fun Wd id ed _ => O.gt rfl rfl <| O.mv rfl <| D.ex, fun Wd id ed _ => O.gt rfl rfl <| O.eqV true rfl rfl (decide_eq_true rfl) <| D.ex, fun Wd id ed _ => O.pickT rfl rfl <| D.ex, trivial⟩ ?_
      intro Wr6 ir6 er6 v25 h25 v27 h27 v28 h28 v31 h31 v33 h33 v38 h38 v40 h40 v42 h42
      obtain ⟨p25, m25, c25, rfl, s25⟩ := h25.sl
      obtain ⟨p27, m27, c27, rfl, s27⟩ := h27.sl
      obtain ⟨p28, m28, c28, rfl, s28⟩ := h28.sl
      obtain ⟨p31, m31, c31, rfl, s31⟩ := h31.sl
      obtain ⟨p33, m33, c33, rfl, s33⟩ := h33.sl
      obtain ⟨p38, m38, c38, rfl, s38⟩ := h38.sl
      obtain ⟨p40, m40, c40, rfl, s40⟩ := h40.sl
      obtain ⟨p42, m42, c42, rfl, s42⟩ := h42.sl
      refine O.as rfl <| JO.nil <| J.ret1 rfl (.tmp rfl) fun W' iE iP => ?_
      rfl
    · skip
      refine J.skip <| J.seq <| ?_
      have hcmp : CmpIs t a b 0 := .inr ⟨(fun e => (by have := hf2.2 ⟨hC, e⟩; rw [this] at h13; cases h13)), rfl⟩
      refine J.draw [.ex _, .rel _, .ex _, .rel _, .rel _, .ex _, .ex _, .rel _, .ex _, .rel _, .ex _, .ex _, .ex _, .ex _, .rel _, .ex _, .rel _, .ex _, .rel _, .ex _, .ex _, .ex _, .ex _] rfl rfl ⟨fun Wd id ed _ => O.fa rfl <| D.ex, fun Wd id ed _ => O.ldTD rfl hb1.to.h.f rfl rfl (fun _ => rfl), fun Wd id ed _ => O.fa rfl <| D.ex, fun Wd id ed _ => O.ldTD rfl hb1.to.h.s.f rfl rfl (fun _ => rfl), fun Wd id ed _ => fun v27 h27 => (by obtain ⟨p27, m27, c27, rfl, s27⟩ := h27.sl; exact O.call rfl (law07_cp_ok s27.to (by have := s27.hn; have := hS.a.1; omega)) fun Wd vd id ed hd => D.rel ed hd V.me), fun Wd id ed _ => fun v25 h25 => fun _ _ => fun v28 h28 => (by obtain ⟨p25, m25, c25, rfl, s25⟩ := h25.sl; obtain ⟨p28, m28, c28, rfl, s28⟩ := h28.sl; exact O.call rfl (sign_Sign_ok (r := 1025) (s := 1025) hz s25.to s28.to hS.st hS.a.small (by have := s25.hn; omega) (short_TSR hS.t) (short_SZR hS.a) (vB_all (by have := s25.hn; omega) (by decide)) (vB_all (by have := s25.hn; omega) (by decide))) fun Wd vd id ed hd => D.eq ed hd), fun Wd id ed _ => O.fa rfl <| D.ex, fun Wd id ed _ => O.ldTD rfl hb1.to.h.f rfl rfl (fun _ => rfl), fun Wd id ed _ => O.fa rfl <| D.ex, fun Wd id ed _ => O.ldTD rfl hb1.to.h.s.f rfl rfl (fun _ => rfl), fun Wd id ed _ => fun v31 h31 => fun v33 h33 => (by obtain ⟨p31, m31, c31, rfl, s31⟩ := h31.sl; obtain ⟨p33, m33, c33, rfl, s33⟩ := h33.sl; exact O.call rfl (ref07_Sign_ok (r := 1025) (s := 1025) hz s31.to s33.to hS.st hS.a.small (by have := s31.hn; omega) (short_TSR hS.t) (short_SZR hS.a) (vB_all (by have := s31.hn; omega) (by decide)) (vB_all (by have := s31.hn; omega) (by decide))) fun Wd vd id ed hd => D.eq ed hd), fun Wd id ed _ => O.eqV true rfl rfl (decide_eq_true rfl) <| D.ex, fun Wd id ed _ => O.mv rfl <| D.ex, fun Wd id ed _ => O.gt rfl rfl <| O.fa rfl <| D.ex, fun Wd id ed _ => O.gt rfl rfl <| O.ldTD rfl hb1.to.h.f rfl rfl (fun _ => rfl), fun Wd id ed _ => O.gt rfl rfl <| O.fa rfl <| D.ex, fun Wd id ed _ => O.gt rfl rfl <| O.ldTD rfl hb1.to.h.s.f rfl rfl (fun _ => rfl), fun Wd id ed _ => O.gt rfl rfl <| O.fa rfl <| D.ex, fun Wd id ed _ => O.gt rfl rfl <| O.ldTD rfl hb1.to.h.s.s rfl rfl (fun _ => rfl), fun Wd id ed _ => fun v38 h38 => fun v40 h40 => fun v42 h42 => (by obtain ⟨p38, m38, c38, rfl, s38⟩ := h38.sl; obtain ⟨p40, m40, c40, rfl, s40⟩ := h40.sl; obtain ⟨p42, m42, c42, rfl, s42⟩ := h42.sl; exact O.gt rfl rfl <| O.call rfl (sign_Cmp_ok (r := 1025) (s := 1025) (s' := 1025) hcmp s38.to s40.to s42.to hS.st hS.a.small hS.b.small (by have := s38.hn; omega) (short_TSR hS.t) (short_SZR hS.a) (short_SZR hS.b) (vB_all (by have := s38.hn; omega) (by decide)) (vB_all (by have := s38.hn; omega) (by decide))) fun Wd vd id ed hd => D.eq ed hd), fun Wd id ed _ => O.gt rfl rfl <| O.mv rfl <| D.ex, fun Wd id ed _ => O.gt rfl rfl <| O.eqV true rfl rfl (decide_eq_true rfl) <| D.ex, fun Wd id ed _ => O.pickT rfl rfl <| D.ex, trivial⟩ ?_
      intro Wr6 ir6 er6 v25 h25 v27 h27 v28 h28 v31 h31 v33 h33 v38 h38 v40 h40 v42 h42
      obtain ⟨p25, m25, c25, rfl, s25⟩ := h25.sl
      obtain ⟨p27, m27, c27, rfl, s27⟩ := h27.sl
      obtain ⟨p28, m28, c28, rfl, s28⟩ := h28.sl
      obtain ⟨p31, m31, c31, rfl, s31⟩ := h31.sl
      obtain ⟨p33, m33, c33, rfl, s33⟩ := h33.sl
      obtain ⟨p38, m38, c38, rfl, s38⟩ := h38.sl
      obtain ⟨p40, m40, c40, rfl, s40⟩ := h40.sl
      obtain ⟨p42, m42, c42, rfl, s42⟩ := h42.sl
      refine O.as rfl <| JO.nil <| J.ret1 rfl (.tmp rfl) fun W' iE iP => ?_
      rfl
theorem sgn_mul_tri {k : Nat} (t : Tw k) (x y : El k) : IntKind.i64.wrap (sgn k t x * sgn k t y) = sgn k t x * sgn k t y :=
  wI (by rcases sgn_tri t x with e | e | e <;> rcases sgn_tri t y with e' | e' | e' <;> rw [e, e'] <;> decide)
theorem cB3 : ∀ k, k < 4 → cB 1025 k ≤ 8000 := by decide
theorem law07_SignProduct_ok (hv : V RC3 W v (t, a, b)) (ht : t.length ≤ 1099511627776) :
    Ok Tryz.prog 6 [v] W fun _ r => r = .bool true := by
  refine Ok.enter Tryz.func6 rfl rfl rfl rfl fun W0 iEn => ?_
  refine J.seq <| J.reg rfl <| O.boxT rfl hv.to fun W1 b1 i1 hb1 => O.as rfl <| JO.nil <| J.seq <| J.seq <| J.reg rfl <| ?_
  refine O.call rfl (law07_awake_ok) fun W5 v5 i5 e5 h5 => ?_
  subst h5
  refine O.not rfl <| O.mv rfl <| O.gt rfl rfl <| O.ldT rfl hb1.to.h rfl rfl (fun h => nomatch h) fun v8 h8 => O.gt rfl rfl <| O.call rfl (ref07_Right_ok h8.to ht) fun W9 v9 i9 e9 h9 => ?_
  obtain ⟨f1, rfl, hf1⟩ := h9
  refine O.gt rfl rfl <| O.not rfl <| O.pickF rfl rfl <| JO.nil <| J.cond rfl (fun h11 => ?_) (fun h11 => ?_)
  · skip
    refine J.seq <| J.reg rfl <| ?_
    refine O.call rfl (law07_awake_ok) fun W12 v12 i12 e12 h12 => ?_
    subst h12
    refine O.as rfl <| JO.nil <| J.ret1 rfl (.tmp rfl) fun W' iE iP => ?_
    rfl
  · skip
    have hC := hf1.1 (by cases f1 <;> simp_all)
    have hS := hC.1.s
    obtain ⟨k, w, x, y, hk, rfl, rfl, rfl, hR, hT, hx, hy⟩ := right_typed hC
    have hcb := cB3 k (by omega)
    have hxy := hx.mul hT hy
    have hxx := hx.mul hT hx
    have hxn : Sz 1025 (toL k (neg k x)) := by rw [toL_neg]; exact hx.neg
    have hvv : ∀ s, s ≤ 1000000 → vB 1025 k s ≤ 8796093022208 := fun s hs => vB_all (by omega) hs
    have hN : ∀ {W : GW} {p : Option Addr} {n c : Nat}, Sl RE W p n c (ct (toT k w)) → n = k := fun h => by rw [h.hn, ct_length]
    have hSg : ∀ {s : Nat} {z : El k} {W : GW} {p q : Option Addr} {n c m d : Nat}, s ≤ 1000000 → Sz s (toL k z) → Sl RE W p n c (ct (toT k w)) → Sl RQ W q m d (cl (toL k z)) → Ok Tryz.prog 25 [.slice p n c, .slice q m d] W fun _ v => v = .int .i64 (sgn k w z) := fun {s z W p q n c m d} hs hz h h' => by
      obtain rfl := hN h
      exact sign_Sign_ok (r := 1025) (s := s) (SgnIs.ct hR) h h' hS.st (small_cl hz.qs' (by omega)) (by omega) (TSR_ct hT) (SZR_cl hz) (hvv _ (by omega)) (hvv _ hs)
    have hsm := (sgn_ok hR).sm
    refine J.skip <| J.seq <| ?_
    refine J.draw [.ex _, .rel _, .ex _, .rel _, .ex _, .ex _, .rel _, .ex _, .rel _] rfl rfl ⟨fun Wd id ed _ => O.fa rfl <| D.ex, fun Wd id ed _ => O.ldTD rfl hb1.to.h.f rfl rfl (fun _ => rfl), fun Wd id ed _ => O.fa rfl <| D.ex, fun Wd id ed _ => O.ldTD rfl hb1.to.h.s.f rfl rfl (fun _ => rfl), fun Wd id ed _ => fun v14 h14 => fun v16 h16 => (by obtain ⟨p14, m14, c14, rfl, s14⟩ := h14.sl; obtain ⟨p16, m16, c16, rfl, s16⟩ := h16.sl; exact O.call rfl (hSg (by decide) hx s14.to s16.to) fun Wd vd id ed hd => D.eq ed hd), fun Wd id ed _ => O.fa rfl <| D.ex, fun Wd id ed _ => O.ldTD rfl hb1.to.h.f rfl rfl (fun _ => rfl), fun Wd id ed _ => O.fa rfl <| D.ex, fun Wd id ed _ => O.ldTD rfl hb1.to.h.s.s rfl rfl (fun _ => rfl), trivial⟩ ?_
    intro Wr3 ir3 er3 v14 h14 v16 h16 v19 h19 v21 h21
    obtain ⟨p14, m14, c14, rfl, s14⟩ := h14.sl
    obtain ⟨p16, m16, c16, rfl, s16⟩ := h16.sl
    obtain ⟨p19, m19, c19, rfl, s19⟩ := h19.sl
    obtain ⟨p21, m21, c21, rfl, s21⟩ := h21.sl
    refine O.call rfl (hSg (by decide) hy s19.to s21.to) fun W22 v22 i22 e22 h22 => ?_
    subst h22
    refine O.as rfl <| O.as rfl <| JO.nil <| J.seq <| ?_
    refine J.drawQ (23 :: 24 :: 25 :: 26 :: 27 :: 28 :: 29 :: 30 :: 31 :: 32 :: 33 :: 34 :: 35 :: 36 :: 37 :: 38 :: 39 :: 40 :: 41 :: 42 :: 43 :: 44 :: 45 :: 46 :: 47 :: 48 :: 49 :: 50 :: 51 :: 52 :: 53 :: 54 :: 55 :: 56 :: 57 :: 58 :: 59 :: 60 :: 61 :: 62 :: 63 :: 64 :: 65 :: []) ([] :: [(0, 23)] :: [] :: [(2, 25)] :: [] :: [(4, 27)] :: [] :: [(6, 29)] :: [(3, 26), (5, 28), (7, 30)] :: [(1, 24), (8, 31), (8, 31)] :: [] :: [] :: [(10, 33), (11, 34)] :: [(9, 32), (12, 35)] :: [(13, 36), (9, 32)] :: [(14, 37)] :: [(15, 38), (14, 37)] :: [(14, 37)] :: [(17, 40), (14, 37)] :: [(14, 37)] :: [(19, 42), (14, 37)] :: [(14, 37)] :: [(21, 44), (14, 37)] :: [(18, 41), (20, 43), (22, 45), (14, 37), (14, 37)] :: [(16, 39), (23, 46), (23, 46), (14, 37)] :: [(14, 37)] :: [(14, 37)] :: [(25, 48), (26, 49), (14, 37)] :: [(24, 47), (27, 50), (14, 37)] :: [(14, 37), (28, 51)] :: [(29, 52), (24, 47)] :: [(30, 53)] :: [(31, 54), (30, 53)] :: [(30, 53)] :: [(33, 56), (30, 53)] :: [(30, 53)] :: [(35, 58), (30, 53)] :: [(34, 57), (36, 59), (30, 53), (30, 53)] :: [(32, 55), (37, 60), (37, 60), (30, 53)] :: [(30, 53)] :: [(39, 62), (30, 53)] :: [(38, 61), (40, 63), (30, 53)] :: [(30, 53), (41, 64)] :: []) (0 :: 1 :: 0 :: 1 :: 0 :: 1 :: 0 :: 1 :: 2 :: 3 :: 0 :: 0 :: 1 :: 4 :: 5 :: 6 :: 7 :: 6 :: 7 :: 6 :: 7 :: 6 :: 7 :: 8 :: 9 :: 6 :: 6 :: 7 :: 10 :: 11 :: 12 :: 13 :: 14 :: 13 :: 14 :: 13 :: 14 :: 15 :: 16 :: 13 :: 14 :: 17 :: 18 :: []) (43 :: 43 :: 43 :: 43 :: 43 :: 43 :: 43 :: 43 :: 43 :: 43 :: 43 :: 43 :: 43 :: 43 :: 43 :: 43 :: 43 :: 43 :: 43 :: 43 :: 43 :: 43 :: 43 :: 43 :: 43 :: 43 :: 43 :: 43 :: 43 :: 43 :: 43 :: 43 :: 43 :: 43 :: 43 :: 43 :: 43 :: 43 :: 43 :: 43 :: 43 :: 43 :: 43 :: []) (.ex _ :: .rel _ :: .ex _ :: .rel _ :: .ex _ :: .rel _ :: .ex _ :: .rel _ :: .rel _ :: .ex _ :: .ex _ :: .ex _ :: .ex _ :: .ex _ :: .ex _ :: .ex _ :: .rel _ :: .ex _ :: .rel _ :: .ex _ :: .rel _ :: .ex _ :: .rel _ :: .rel _ :: .ex _ :: .ex _ :: .ex _ :: .ex _ :: .ex _ :: .ex _ :: .ex _ :: .ex _ :: .rel _ :: .ex _ :: .rel _ :: .ex _ :: .rel _ :: .rel _ :: .ex _ :: .ex _ :: .ex _ :: .ex _ :: .ex _ :: []) (false :: false :: false :: false :: false :: false :: false :: false :: false :: false :: false :: false :: false :: false :: false :: false :: false :: false :: false :: false :: false :: false :: false :: false :: false :: false :: false :: false :: false :: false :: false :: false :: false :: false :: false :: false :: false :: false :: false :: false :: false :: false :: false :: []) (by decide +kernel) rfl rfl rfl ⟨fun Wd id ed Lq hLq _ => O.fa rfl <| D.ex, fun Wd id ed Lq hLq _ => O.ldTD rfl hb1.to.h.f rfl rfl (fun _ => rfl), fun Wd id ed Lq hLq _ => O.fa rfl <| D.ex, fun Wd id ed Lq hLq _ => O.ldTD rfl hb1.to.h.f rfl rfl (fun _ => rfl), fun Wd id ed Lq hLq _ => O.fa rfl <| D.ex, fun Wd id ed Lq hLq _ => O.ldTD rfl hb1.to.h.s.f rfl rfl (fun _ => rfl), fun Wd id ed Lq hLq _ => O.fa rfl <| D.ex, fun Wd id ed Lq hLq _ => O.ldTD rfl hb1.to.h.s.s rfl rfl (fun _ => rfl), fun Wd id ed Lq hLq _ => fun v26 h26 => fun v28 h28 => fun v30 h30 => (by obtain ⟨p26, m26, c26, rfl, s26⟩ := h26.sl; obtain ⟨p28, m28, c28, rfl, s28⟩ := h28.sl; obtain ⟨p30, m30, c30, rfl, s30⟩ := h30.sl; exact O.call rfl (ref06_MulE_ok s26.to s28.to s30.to hT hx hy (by omega) (by omega)) fun Wd vd id ed hd => D.rel ed hd V.me), fun Wd id ed Lq hLq _ => fun v24 h24 => fun _ _ => fun v31 h31 => (by obtain ⟨p24, m24, c24, rfl, s24⟩ := h24.sl; obtain ⟨p31, m31, c31, rfl, s31⟩ := h31.sl; exact O.call rfl (hSg (by omega) hxy s24.to s31.to) fun Wd vd id ed hd => D.eq ed hd), fun Wd id ed Lq hLq _ => O.mv rfl <| D.ex, fun Wd id ed Lq hLq _ => O.mv rfl <| D.ex, fun Wd id ed Lq hLq _ => O.mul (r := sgn k w x * sgn k w y) rfl rfl (sgn_mul_tri w x y) <| D.ex, fun Wd id ed Lq hLq _ => O.eqV true rfl rfl (decide_eq_true (hsm x y)) <| D.ex, fun Wd id ed Lq hLq _ => O.mv rfl <| D.ex, fun Wd id ed Lq hLq _ => O.gt (hLq _ _ rfl) rfl <| O.fa rfl <| D.ex, fun Wd id ed Lq hLq _ => O.gt (hLq _ _ rfl) rfl <| O.ldTD rfl hb1.to.h.f rfl rfl (fun _ => rfl), fun Wd id ed Lq hLq _ => O.gt (hLq _ _ rfl) rfl <| O.fa rfl <| D.ex, fun Wd id ed Lq hLq _ => O.gt (hLq _ _ rfl) rfl <| O.ldTD rfl hb1.to.h.f rfl rfl (fun _ => rfl), fun Wd id ed Lq hLq _ => O.gt (hLq _ _ rfl) rfl <| O.fa rfl <| D.ex, fun Wd id ed Lq hLq _ => O.gt (hLq _ _ rfl) rfl <| O.ldTD rfl hb1.to.h.s.f rfl rfl (fun _ => rfl), fun Wd id ed Lq hLq _ => O.gt (hLq _ _ rfl) rfl <| O.fa rfl <| D.ex, fun Wd id ed Lq hLq _ => O.gt (hLq _ _ rfl) rfl <| O.ldTD rfl hb1.to.h.s.f rfl rfl (fun _ => rfl), fun Wd id ed Lq hLq _ => fun v41 h41 => fun v43 h43 => fun v45 h45 => (by obtain ⟨p41, m41, c41, rfl, s41⟩ := h41.sl; obtain ⟨p43, m43, c43, rfl, s43⟩ := h43.sl; obtain ⟨p45, m45, c45, rfl, s45⟩ := h45.sl; exact O.gt (hLq _ _ rfl) rfl <| O.call rfl (ref06_MulE_ok s41.to s43.to s45.to hT hx hx (by omega) (by omega)) fun Wd vd id ed hd => D.rel ed hd V.me), fun Wd id ed Lq hLq _ => fun v39 h39 => fun _ _ => fun v46 h46 => (by obtain ⟨p39, m39, c39, rfl, s39⟩ := h39.sl; obtain ⟨p46, m46, c46, rfl, s46⟩ := h46.sl; exact O.gt (hLq _ _ rfl) rfl <| O.call rfl (hSg (by omega) hxx s39.to s46.to) fun Wd vd id ed hd => D.eq ed hd), fun Wd id ed Lq hLq _ => O.gt (hLq _ _ rfl) rfl <| O.mv rfl <| D.ex, fun Wd id ed Lq hLq _ => O.gt (hLq _ _ rfl) rfl <| O.mv rfl <| D.ex, fun Wd id ed Lq hLq _ => O.gt (hLq _ _ rfl) rfl <| O.mul (r := sgn k w x * sgn k w x) rfl rfl (sgn_mul_tri w x x) <| D.ex, fun Wd id ed Lq hLq _ => O.gt (hLq _ _ rfl) rfl <| O.eqV true rfl rfl (decide_eq_true (hsm x x)) <| D.ex, fun Wd id ed Lq hLq _ => O.pickT rfl rfl <| D.ex, fun Wd id ed Lq hLq _ => O.mv rfl <| D.ex, fun Wd id ed Lq hLq _ => O.gt (hLq _ _ rfl) rfl <| O.fa rfl <| D.ex, fun Wd id ed Lq hLq _ => O.gt (hLq _ _ rfl) rfl <| O.ldTD rfl hb1.to.h.f rfl rfl (fun _ => rfl), fun Wd id ed Lq hLq _ => O.gt (hLq _ _ rfl) rfl <| O.fa rfl <| D.ex, fun Wd id ed Lq hLq _ => O.gt (hLq _ _ rfl) rfl <| O.ldTD rfl hb1.to.h.f rfl rfl (fun _ => rfl), fun Wd id ed Lq hLq _ => O.gt (hLq _ _ rfl) rfl <| O.fa rfl <| D.ex, fun Wd id ed Lq hLq _ => O.gt (hLq _ _ rfl) rfl <| O.ldTD rfl hb1.to.h.s.f rfl rfl (fun _ => rfl), fun Wd id ed Lq hLq _ => fun v57 h57 => fun v59 h59 => (by obtain ⟨p57, m57, c57, rfl, s57⟩ := h57.sl; obtain ⟨p59, m59, c59, rfl, s59⟩ := h59.sl; exact O.gt (hLq _ _ rfl) rfl <| O.call rfl (ref06_NegE_ok s59.to hx (by omega) (by decide)) fun Wd vd id ed hd => D.rel ed hd V.me), fun Wd id ed Lq hLq _ => fun v55 h55 => fun _ _ => fun v60 h60 => (by obtain ⟨p55, m55, c55, rfl, s55⟩ := h55.sl; obtain ⟨p60, m60, c60, rfl, s60⟩ := h60.sl; exact O.gt (hLq _ _ rfl) rfl <| O.call rfl (hSg (by decide) hxn s55.to s60.to) fun Wd vd id ed hd => D.eq ed hd), fun Wd id ed Lq hLq _ => O.gt (hLq _ _ rfl) rfl <| O.mv rfl <| D.ex, fun Wd id ed Lq hLq _ => O.gt (hLq _ _ rfl) rfl <| O.neg (r := - sgn k w x) rfl (wI (by rcases sgn_tri w x with e | e | e <;> rw [e] <;> decide)) <| D.ex, fun Wd id ed Lq hLq _ => O.gt (hLq _ _ rfl) rfl <| O.eqV true rfl rfl (decide_eq_true ((sgn_ok hR).sn x)) <| D.ex, fun Wd id ed Lq hLq _ => O.pickT rfl rfl <| D.ex, trivial⟩ ?_
    intro Wr4 ir4 er4 v24 h24 v26 h26 v28 h28 v30 h30 v31 h31 v39 h39 v41 h41 v43 h43 v45 h45 v46 h46 v55 h55 v57 h57 v59 h59 v60 h60
    refine O.as rfl <| JO.nil <| J.ret1 rfl (.tmp rfl) fun W' iE iP => ?_
    rfl
end
end Go.Proofs.YtklnoajdhknfnaaGreat
