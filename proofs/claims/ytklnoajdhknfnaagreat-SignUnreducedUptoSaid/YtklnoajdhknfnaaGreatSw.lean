/- The statements on Lift and Unreduced: the walks. -/
import Derived.Test.YtklnoajdhknfnaaGreatSv
import Derived.Test.YtklnoajdhknfnaaGreatUe
set_option linter.unusedVariables false
set_option linter.unusedSimpArgs false
set_option maxRecDepth 10000
set_option maxHeartbeats 8000000
namespace Go.Proofs.YtklnoajdhknfnaaGreat
open Go Go.Rx Go.Num Go.Tow
theorem ref06_Lift1_ok {W : GW} {p : Option Addr} {n c j : Nat} {x : El j} (h : Sl RQ W p n c (cl (toL j x))) (hj : j ≤ 4) :
    Ok Tryz.prog 33 [.slice p n c, .int .i64 1] W fun W' r => V RE W' r (cl (toL (j + 1) (up j x))) := by
  have hn : n = 2 ^ j := by rw [h.hn, cl_length, toL_length]
  have hp : 2 ^ j ≤ 2 ^ 4 := Nat.pow_le_pow_right (by decide) hj
  have e : cl (toL (j + 1) (up j x)) = cl (toL j x) ++ List.replicate (n * 2 ^ 1 - n) (cq 0) := by
    show cl (toL j x ++ toL j (zero j)) = _
    rw [cl_append, toL_zero, cl, cl, List.map_replicate]
    congr 2
    omega
  rw [e]
  exact ref06_Lift_ok (s := 1) h (by decide) (by omega) (by omega)
theorem up_sz {k s : Nat} {x : El k} (h : Sz s (toL k x)) : Sz (s + 1) (toL (k + 1) (up k x)) := h.append (Sz.zero k)
theorem rt1_sz (k : Nat) : Sz 3 (toL (k + 1) (rt1 k)) := (Sz.zero k).append (Sz.rat k (p := 1) (Qs.int (z := 1) (Zs.one (by decide)) (by decide)))
theorem root_rt1 (k : Nat) : root (k + 1) k = rt1 k := by rw [root, if_pos rfl]; rfl
theorem ct_snoc {k : Nat} {w : Tw k} {y : El k} : ct (toT (k + 1) (tsn w y)) = ct (toT k w) ++ [cl (toL k y)] := ct_succ (tsn w y)
section
variable {W : GW} {v : Value} {t : List (List Raw)} {a b : List Raw}
theorem law07_SignLift_ok (hv : V RC3 W v (t, a, b)) (ht : t.length ≤ 1099511627776) :
    Ok Tryz.prog 9 [v] W fun _ r => r = .bool true := by
  refine Ok.enter Tryz.func9 rfl rfl rfl rfl fun W0 iEn => ?_
  refine J.seq <| J.reg rfl <| O.boxT rfl hv.to fun W1 b1 i1 hb1 => O.as rfl <| JO.nil <| J.seq <| J.seq <| J.reg rfl <| ?_
  refine O.call rfl (law07_awake_ok) fun W4 v4 i4 e4 h4 => ?_
  subst h4
  refine O.not rfl <| O.mv rfl <| O.gt rfl rfl <| O.ldT rfl hb1.to.h rfl rfl (fun h => nomatch h) fun v7 h7 => O.gt rfl rfl <| O.call rfl (ref07_Right_ok h7.to ht) fun W8 v8 i8 e8 h8 => ?_
  obtain ⟨f1, rfl, hf1⟩ := h8
  refine O.gt rfl rfl <| O.not rfl <| O.pickF rfl rfl <| O.mv rfl <| ?_
  by_cases hg11 : f1 = false
  · skip
    refine O.set (t := 11) (.bool true) rfl (by rw [hg11]; rfl) <| O.gs rfl rfl rfl <| O.gs rfl rfl rfl <| O.gs rfl rfl rfl <| O.gs rfl rfl rfl <| O.pickT rfl rfl <| O.mv rfl <| O.gs rfl rfl rfl <| O.gs rfl rfl rfl <| O.gs rfl rfl rfl <| O.gs rfl rfl rfl <| O.gs rfl rfl rfl <| O.gs rfl rfl rfl <| O.pickT rfl rfl <| JO.nil <| J.condT rfl <| J.seq <| J.reg rfl <| ?_
    refine O.call rfl (law07_awake_ok) fun W25 v25 i25 e25 h25 => ?_
    subst h25
    refine O.as rfl <| JO.nil <| J.ret1 rfl (.tmp rfl) fun W' iE iP => ?_
    rfl
  · skip
    have hC := hf1.1 (by cases f1 <;> simp_all)
    have hS := hC.1.s
    obtain ⟨k, w, x, y, hk, rfl, rfl, rfl, hR, hT, hx, hy⟩ := right_typed hC
    have hvv : ∀ j s, j ≤ 4 → s ≤ 1000000 → vB 1025 j s ≤ 8796093022208 := fun j s hj hs => vB_all hj hs
    have hN : ∀ {W : GW} {p : Option Addr} {n c : Nat}, Sl RE W p n c (ct (toT k w)) → n = k := fun h => by rw [h.hn, ct_length]
    have hRf : ∀ {s : Nat} {z : El k} {W : GW} {p q : Option Addr} {n c m d : Nat}, s ≤ 1000000 → Sz s (toL k z) → Sl RE W p n c (ct (toT k w)) → Sl RQ W q m d (cl (toL k z)) → Ok Tryz.prog 29 [.slice p n c, .slice q m d] W fun _ v => v = .int .i64 (sgn k w z) := fun {s z W p q n c m d} hs hz h h' => by
      obtain rfl := hN h
      exact ref07_Sign_ok (r := 1025) (s := s) (SgnIs.ct hR) h h' hS.st (small_cl hz.qs' (by omega)) (by omega) (TSR_ct hT) (SZR_cl hz) (hvv _ _ (by omega) (by omega)) (hvv _ _ (by omega) hs)
    refine O.set (t := 11) (.bool false) rfl (by cases f1 <;> simp_all) <| O.gt rfl rfl <| O.fa rfl <| O.gt rfl rfl <| ?_
    refine O.ldTs rfl hb1.to.h.f fun p13 m13 c13 s13 => ?_
    have h13 := s13.v
    refine O.gt rfl rfl <| O.len rfl <| O.gt rfl rfl <| O.gtr rfl rfl <| O.pickF rfl rfl <| O.mv rfl <| ?_
    by_cases hg17 : 2 < m13
    · skip
      refine O.set (t := 17) (.bool true) rfl (by simp only [Value.bool.injEq, decide_eq_true_eq, decide_eq_false_iff_not]; omega) <| O.gs rfl rfl rfl <| O.gs rfl rfl rfl <| O.gs rfl rfl rfl <| O.gs rfl rfl rfl <| O.gs rfl rfl rfl <| O.gs rfl rfl rfl <| O.pickT rfl rfl <| JO.nil <| J.condT rfl <| J.seq <| J.reg rfl <| ?_
      refine O.call rfl (law07_awake_ok) fun W25 v25 i25 e25 h25 => ?_
      subst h25
      refine O.as rfl <| JO.nil <| J.ret1 rfl (.tmp rfl) fun W' iE iP => ?_
      rfl
    · skip
      refine O.set (t := 17) (.bool false) rfl (by simp only [Value.bool.injEq, decide_eq_true_eq, decide_eq_false_iff_not]; omega) <| O.gt rfl rfl <| O.fa rfl <| O.gt rfl rfl <| ?_
      refine O.ldTs rfl hb1.to.h.f fun p19 m19 c19 s19 => ?_
      have h19 := s19.v
      refine O.gt rfl rfl <| O.fa rfl <| O.gt rfl rfl <| ?_
      refine O.ldTs rfl hb1.to.h.s.s fun p21 m21 c21 s21 => ?_
      have h21 := s21.v
      refine O.gt rfl rfl <| ?_
      refine O.call rfl (hRf (by decide) hy s19.to s21.to) fun W22 v22 i22 e22 h22 => ?_
      subst h22
      refine O.gt rfl rfl <| O.ne rfl rfl <| O.pickF rfl rfl <| JO.nil <| J.condD rfl (fun h24 => ?_) (fun h24 => ?_)
      · skip
        refine J.seq <| J.reg rfl <| ?_
        refine O.call rfl (law07_awake_ok) fun W25 v25 i25 e25 h25 => ?_
        subst h25
        refine O.as rfl <| JO.nil <| J.ret1 rfl (.tmp rfl) fun W' iE iP => ?_
        rfl
      · skip
        have hy1 : sgn k w y = 1 := by first | exact h24 | exact Decidable.not_not.1 h24
        have hm13 : m13 = k := hN s13
        have hR2 : real (k + 1) (tsn w y) := ⟨hR, hy1⟩
        have hT2 : TS 1025 (k + 1) (tsn w y) := ⟨hT, hy⟩
        have hSg : ∀ {s : Nat} {z : El (k + 1)} {W : GW} {p q : Option Addr} {n c m d : Nat}, s ≤ 1000000 → Sz s (toL (k + 1) z) → Sl RE W p n c (ct (toT (k + 1) (tsn w y))) → Sl RQ W q m d (cl (toL (k + 1) z)) → Ok Tryz.prog 25 [.slice p n c, .slice q m d] W fun _ v => v = .int .i64 (sgn (k + 1) (tsn w y) z) := fun {s z W p q n c m d} hs hz h h' => by
          have hn : n = k + 1 := by rw [h.hn, ct_length]
          subst hn
          exact sign_Sign_ok (r := 1025) (s := s) (SgnIs.ct hR2) h h' (small_ct hT2 (by decide)) (small_cl hz.qs' (by omega)) (by omega) (TSR_ct hT2) (SZR_cl hz) (hvv _ _ (by omega) (by omega)) (hvv _ _ (by omega) hs)
        refine J.skip <| J.seq <| ?_
        refine J.draw [.rel _, .ex _, .rel _, .rel _, .ex _, .rel _, .rel _] rfl rfl ⟨fun Wd id ed _ => O.bs (r := RE) (ps := []) (vs := []) [] rfl trivial rfl rfl rfl (by decide) (.inr rfl) (by decide) fun Wd pd id ed sd => D.rel (R := Nil0) ed ⟨pd, rfl⟩ Nil0.me, fun Wd id ed _ => O.fa rfl <| D.ex, fun Wd id ed _ => O.ldTD rfl hb1.to.h.f rfl rfl (fun _ => rfl), fun Wd id ed _ => fun v26 h26 => fun v28 h28 => O.app0O (r := RE) (W0 := W0) rfl rfl h26 h28 rfl rfl (by rw [ct_length]; omega) (by rw [ct_length]; omega) (inferInstance : Le W0 _).s.size fun Wd vd id ed hd => D.rel (R := fun W v => OwnR RE W0 W v (ct (toT k w))) ed hd OwnR.me, fun Wd id ed _ => O.fa rfl <| D.ex, fun Wd id ed _ => O.ldTD rfl hb1.to.h.s.s rfl rfl (fun _ => rfl), fun Wd id ed _ => fun v31 h31 => O.bs (r := RE) [cl (toL k y)] rfl ⟨h31.to, trivial⟩ rfl rfl rfl (by decide) (.inr rfl) (by decide) fun Wd pd id ed sd => D.rel (R := fun W v => V RT W v [cl (toL k y)]) ed sd.v V.me, trivial⟩ ?_
        intro Wr3 ir3 er3 v26 h26 v28 h28 v29 h29 v31 h31 v32 h32
        obtain ⟨p28, m28, c28, rfl, s28⟩ := h28.sl
        obtain ⟨p29, m29, c29, rfl, o29, f29⟩ := h29
        obtain ⟨p31, m31, c31, rfl, s31⟩ := h31.sl
        obtain ⟨p32, m32, c32, rfl, s32⟩ := h32.sl
        refine O.app rfl rfl o29 s32.to rfl rfl (by have := o29.hn; have := s32.hn; rw [ct_length] at *; simp at *; omega) (by have := o29.hn; have := s32.hn; rw [ct_length] at *; simp at *; omega) fun W33 p33 c33 i33 o33 => ?_
        rw [← ct_snoc] at o33
        refine O.pub o33 fun Wq iq s33 => ?_
        refine O.as rfl <| JO.nil <| J.seq <| ?_
        refine J.draw [.ex _, .ex _, .rel _, .rel _, .ex _, .ex _, .rel _, .ex _, .rel _, .ex _, .ex _, .ex _, .ex _, .ex _, .ex _, .rel _, .ex _, .rel _, .ex _, .ex _, .ex _] rfl rfl ⟨fun Wd id ed _ => O.mv rfl <| D.ex, fun Wd id ed _ => O.fa rfl <| D.ex, fun Wd id ed _ => O.ldTD rfl hb1.to.h.s.f rfl rfl (fun _ => rfl), fun Wd id ed _ => fun v36 h36 => (by obtain ⟨p36, m36, c36, rfl, s36⟩ := h36.sl; exact O.call rfl (ref06_Lift1_ok s36.to (by omega)) fun Wd vd id ed hd => D.rel ed hd V.me), fun Wd id ed _ => fun _ _ => fun v37 h37 => (by obtain ⟨p37, m37, c37, rfl, s37⟩ := h37.sl; exact O.call rfl (hSg (by decide) (up_sz hx) s33.to s37.to) fun Wd vd id ed hd => D.eq ed hd), fun Wd id ed _ => O.fa rfl <| D.ex, fun Wd id ed _ => O.ldTD rfl hb1.to.h.f rfl rfl (fun _ => rfl), fun Wd id ed _ => O.fa rfl <| D.ex, fun Wd id ed _ => O.ldTD rfl hb1.to.h.s.f rfl rfl (fun _ => rfl), fun Wd id ed _ => fun v40 h40 => fun v42 h42 => (by obtain ⟨p40, m40, c40, rfl, s40⟩ := h40.sl; obtain ⟨p42, m42, c42, rfl, s42⟩ := h42.sl; exact O.call rfl (hRf (by decide) hx s40.to s42.to) fun Wd vd id ed hd => D.eq ed hd), fun Wd id ed _ => O.eqV true rfl rfl (decide_eq_true (sgn_up (t := (tsn w y)) x hR)) <| D.ex, fun Wd id ed _ => O.mv rfl <| D.ex, fun Wd id ed _ => O.gt rfl rfl <| O.mv rfl <| D.ex, fun Wd id ed _ => O.gt rfl rfl <| O.mv rfl <| D.ex, fun Wd id ed _ => O.gt rfl rfl <| O.fa rfl <| D.ex, fun Wd id ed _ => O.gt rfl rfl <| O.ldTD rfl hb1.to.h.f rfl rfl (fun _ => rfl), fun Wd id ed _ => fun v49 h49 => O.gt rfl rfl <| O.lenV (m := k) rfl h49 (by rw [ct_length]) <| D.ex, fun Wd id ed _ => O.gt rfl rfl <| O.call rfl (ref06_Root_ok (k := k + 1) (i := k) s33.to (by omega) (by omega)) fun Wd vd id ed hd => D.rel (R := fun W v => V RE W v (cl (toL (k + 1) (rt1 k)))) ed (by rw [root_rt1] at hd; exact hd) V.me, fun Wd id ed _ => fun _ _ => fun v51 h51 => (by obtain ⟨p51, m51, c51, rfl, s51⟩ := h51.sl; exact O.gt rfl rfl <| O.call rfl (hSg (by decide) (rt1_sz k) s33.to s51.to) fun Wd vd id ed hd => D.eq ed hd), fun Wd id ed _ => O.gt rfl rfl <| O.eqV true rfl rfl (decide_eq_true (sgn_rt1 (t := (tsn w y)) hR)) <| D.ex, fun Wd id ed _ => O.pickT rfl rfl <| D.ex, trivial⟩ ?_
        intro Wr4 ir4 er4 v36 h36 v37 h37 v40 h40 v42 h42 v49 h49 v51 h51
        obtain ⟨p36, m36, c36, rfl, s36⟩ := h36.sl
        obtain ⟨p37, m37, c37, rfl, s37⟩ := h37.sl
        obtain ⟨p40, m40, c40, rfl, s40⟩ := h40.sl
        obtain ⟨p42, m42, c42, rfl, s42⟩ := h42.sl
        obtain ⟨p49, m49, c49, rfl, s49⟩ := h49.sl
        obtain ⟨p51, m51, c51, rfl, s51⟩ := h51.sl
        refine O.as rfl <| JO.nil <| J.ret1 rfl (.tmp rfl) fun W' iE iP => ?_
        rfl
end
end Go.Proofs.YtklnoajdhknfnaaGreat
