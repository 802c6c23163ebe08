/- TowerConjugate: in every tower of at most four radicands with short numbers Conjugate returns the specified element, respects sums and products, and twice it changes nothing; and the arguments read afterwards as before. Conditions: none. -/
import Derived.Test.YtcobdnnfmhfenaaGreatYc
import Derived.Test.YtcobdnnfmhfenaaGreatYa
import Derived.Test.YtcobdnnfmhfenaaGreatYe
set_option linter.unusedVariables false
set_option linter.unusedSimpArgs false
set_option maxRecDepth 100000
set_option maxHeartbeats 4000000
namespace Go.Proofs.YtcobdnnfmhfenaaGreat
open Go Go.Rx Go.Num Go.Tow

theorem conjB {W : GW} {k : Nat} {t : Tw k} {a : El k} {i : Int} {b : Bool} (hb : b = true ↔ (0 ≤ i ∧ i < k ∧ conjOk i.toNat (toT k t))) {v : Value}
    (h : ∃ v1 b, v = .tuple #[v1, .bool b] ∧ (((0 ≤ i ∧ i < k ∧ conjOk i.toNat (toT k t)) ∧ b = true ∧ V RE W v1 (cl (flipL i.toNat (toL k a)))) ∨ (¬ (0 ≤ i ∧ i < k ∧ conjOk i.toNat (toT k t)) ∧ b = false ∧ V RE W v1 []))) :
    ∃ v1, v = .tuple #[v1, .bool b] ∧ V RE W v1 (match b with | true => cl (toL k (conj i.toNat k a)) | false => []) := by
  obtain ⟨v1, b', rfl, ⟨hp, rfl, hv⟩ | ⟨hp, rfl, hv⟩⟩ := h
  · obtain rfl : b = true := hb.2 hp
    exact ⟨v1, rfl, by rw [toL_conj]; exact hv⟩
  · obtain rfl : b = false := by cases b with | false => rfl | true => exact absurd (hb.1 rfl) hp
    exact ⟨v1, rfl, hv⟩
def TupR (L : List Raw) (b : Bool) (W : GW) (v : Value) : Prop := ∃ v1, v = .tuple #[v1, .bool b] ∧ V RE W v1 L
theorem TupR.me {L : List Raw} {b : Bool} : MonoR (TupR L b) := fun _ _ _ e ⟨v1, h1, h2⟩ => ⟨v1, h1, h2.mono e.toLeS.f⟩
section
variable {W : GW} {p q q2 : Option Addr} {n c m d m2 d2 r s s' k : Nat} {t : Tw k} {a b : El k}
theorem ref06_AddE_ok (h' : Sl RQ W q m d (cl (toL k a))) (h2 : Sl RQ W q2 m2 d2 (cl (toL k b))) (ha : Sz s (toL k a)) (hb : Sz s' (toL k b)) (hk : k ≤ 16) (hs : s + s' + 1 ≤ 8796093022208) :
    Ok Tryz.prog 13 [.slice p n c, .slice q m d, .slice q2 m2 d2] W fun W' v => V RE W' v (cl (toL k (add k a b))) := by
  have hp := pow_le hk
  have hm : m = 2 ^ k := by rw [h'.hn, cl_length, toL_length]
  rw [toL_add]
  exact (ref06_Add_own h' h2 (by rw [toL_length, toL_length]) (by omega) ha.qs' hb.qs' (by omega)).own
theorem ref06_MulE_ok (h : Sl RE W p n c (ct (toT k t))) (h' : Sl RQ W q m d (cl (toL k a))) (h2 : Sl RQ W q2 m2 d2 (cl (toL k b))) (hT : TS r k t) (ha : Sz s (toL k a)) (hb : Sz s' (toL k b)) (hk : k ≤ 16) (hs : s + s' + cB r k ≤ 8796093022208) :
    Ok Tryz.prog 14 [.slice p n c, .slice q m d, .slice q2 m2 d2] W fun W' v => V RE W' v (cl (toL k (mul k t a b))) := (ref06_Mul_own h h' h2 hT ha hb hk hs).own
end
theorem Sz.conj {s j k : Nat} {x : El k} (h : Sz s (toL k x)) : Sz s (toL k (conj j k x)) := by rw [toL_conj]; exact h.flip
theorem conj_ex (i : Int) (k : Nat) (w : Tw k) : ∃ b : Bool, b = true ↔ (0 ≤ i ∧ i < k ∧ conjOk i.toNat (toT k w)) := by
  by_cases h : 0 ≤ i ∧ i < k ∧ conjOk i.toNat (toT k w)
  · exact ⟨true, by simp [h]⟩
  · exact ⟨false, by simp only [h]; simp⟩

theorem law06_TowerConjugate_ok {W : GW} {v : Value} {t : List (List Raw)} {a b c : List Raw} {i : Int} (h : CaseR W v t a b c) (hi : -9223372036854775808 ≤ i ∧ i < 9223372036854775808) :
    Ok Tryz.prog 3 [v, .int .i64 i] W fun _ r => r = .bool true := by
  have hv := h.v
  refine Ok.enter Tryz.func3 rfl rfl rfl rfl fun W0 iEn => ?_
  refine J.seq <| J.reg rfl <| O.boxT rfl hv.to fun W2 b2 i2 hb2 => O.as rfl <| JO.nil <| J.seq <| J.seq <| J.reg rfl <| ?_
  refine O.call rfl (law06_awake_ok) fun W17 v17 i17 e17 h17 => ?_
  subst h17
  refine O.not rfl <| O.mv rfl <| O.gt rfl rfl <| O.ldT rfl hb2.to.h rfl rfl (fun h => nomatch h) fun v20 h20 => O.gt rfl rfl <| O.call rfl (law06_right_ok (caseR h20.to)) fun W21 v21 i21 e21 h21 => ?_
  obtain ⟨f, rfl, hf⟩ := h21
  refine O.gt rfl rfl <| O.not rfl <| O.pickF rfl rfl <| JO.nil <| J.cond rfl (fun h23 => ?_) (fun h23 => ?_)
  · skip
    refine J.seq <| J.reg rfl <| ?_
    refine O.call rfl (law06_awake_ok) fun W24 v24 i24 e24 h24 => ?_
    subst h24
    refine O.as rfl <| JO.nil <| J.ret1 rfl (.tmp rfl) fun W' iE iP => ?_
    rfl
  · skip
    have hft : f = true := by cases f <;> simp_all
    obtain ⟨k, w, x, y, z, hk, rfl, rfl, rfl, rfl, hT, hx, hy, hz⟩ := formed_typed (hf.1 hft)
    have hcb := cB4 k (by omega)
    obtain ⟨ok, hok⟩ := conj_ex i k w
    have hfx : Sz 2049 (toL k (conj i.toNat k x)) := hx.conj
    have hfy : Sz 2049 (toL k (conj i.toNat k y)) := hy.conj
    have hxy : Sz (2049 + 2049 + 1) (toL k (add k x y)) := by rw [toL_add]; exact hx.add hy
    refine J.skip <| J.seq <| J.reg rfl <| O.fa rfl <| ?_
    refine O.ldTs rfl hb2.to.h.f fun p27 m27 c27 s27 => ?_
    have h27 := s27.v
    refine O.fa rfl <| ?_
    refine O.ldTs rfl hb2.to.h.s.f fun p29 m29 c29 s29 => ?_
    have h29 := s29.v
    refine O.mv rfl <| O.call rfl (tower_Conjugate_ok s27.to s29.to hT hx (by omega) (by decide) (by decide) hi) fun W31 v31 i31 e31 h31 => ?_
    obtain ⟨v32, rfl, h32⟩ := conjB hok h31
    refine O.mv rfl <| O.ext rfl rfl <| O.ext rfl rfl <| O.as rfl <| O.as rfl <| JO.nil <| J.seq <| J.reg rfl <| O.fa rfl <| ?_
    refine O.ldTs rfl hb2.to.h.f fun p36 m36 c36 s36 => ?_
    have h36 := s36.v
    refine O.fa rfl <| ?_
    refine O.ldTs rfl hb2.to.h.s.f fun p38 m38 c38 s38 => ?_
    have h38 := s38.v
    refine O.mv rfl <| O.call rfl (ref06_Conjugate_ok s36.to s38.to (by omega) hi) fun W40 v40 i40 e40 h40 => ?_
    obtain ⟨v41, rfl, h41⟩ := conjB hok h40
    refine O.mv rfl <| O.ext rfl rfl <| O.ext rfl rfl <| O.as rfl <| O.as rfl <| JO.nil <| J.seq <| J.seq <| ?_
    cases ok
    · skip
      replace h32 : V RE _ v32 [] := h32
      replace h41 : V RE _ v41 [] := h41
      obtain ⟨p32, m32, c32, rfl, s32⟩ := h32.sl
      obtain ⟨p41, m41, c41, rfl, s41⟩ := h41.sl
      refine J.reg rfl <| O.mv rfl <| O.mv rfl <| O.bne rfl rfl <| O.mv rfl <| O.gt rfl rfl <| O.mv rfl <| O.gt rfl rfl <| O.mv rfl <| O.gt rfl rfl <| O.call rfl (ref06_Same_ok s32.to s41.to) fun W49 v49 i49 e49 h49 => ?_
      obtain rfl := same_t h49 rfl
      refine O.gt rfl rfl <| O.not rfl <| O.pickF rfl rfl <| O.mv rfl <| O.gt rfl rfl <| O.mv rfl <| O.gt rfl rfl <| O.not rfl <| O.pickF rfl rfl <| JO.nil <| J.condT rfl <| J.seq <| J.reg rfl <| O.mv rfl <| O.mv rfl <| O.beq rfl rfl <| O.mv rfl <| O.gt rfl rfl <| O.mv rfl <| O.gt rfl rfl <| O.mv rfl <| O.gt rfl rfl <| O.call rfl (ref06_Same_ok s32.to s41.to) fun W62 v62 i62 e62 h62 => ?_
      obtain rfl := same_t h62 rfl
      refine O.pickT rfl rfl <| O.as rfl <| JO.nil <| J.ret1 rfl (.tmp rfl) fun W' iE iP => ?_
      rfl
    · skip
      replace h32 : V RE _ v32 (cl (toL k (conj i.toNat k x))) := h32
      replace h41 : V RE _ v41 (cl (toL k (conj i.toNat k x))) := h41
      obtain ⟨p32, m32, c32, rfl, s32⟩ := h32.sl
      obtain ⟨p41, m41, c41, rfl, s41⟩ := h41.sl
      have hfix := fix_of (hok.1 rfl).2.2
      refine J.reg rfl <| O.mv rfl <| O.mv rfl <| O.bne rfl rfl <| O.mv rfl <| O.gt rfl rfl <| O.mv rfl <| O.gt rfl rfl <| O.mv rfl <| O.gt rfl rfl <| O.call rfl (ref06_Same_ok s32.to s41.to) fun W49 v49 i49 e49 h49 => ?_
      obtain rfl := same_t h49 rfl
      refine O.gt rfl rfl <| O.not rfl <| O.pickF rfl rfl <| O.mv rfl <| O.gt rfl rfl <| O.mv rfl <| O.gt rfl rfl <| O.not rfl <| O.pickF rfl rfl <| JO.nil <| J.condF rfl <| J.skip <| J.seq <| J.reg rfl <| O.fa rfl <| ?_
      refine O.ldTs rfl hb2.to.h.f fun p66 m66 c66 s66 => ?_
      have h66 := s66.v
      refine O.fa rfl <| ?_
      refine O.ldTs rfl hb2.to.h.s.s.f fun p68 m68 c68 s68 => ?_
      have h68 := s68.v
      refine O.mv rfl <| O.call rfl (tower_Conjugate_ok s66.to s68.to hT hy (by omega) (by decide) (by decide) hi) fun W70 v70 i70 e70 h70 => ?_
      obtain ⟨v71, rfl, h71⟩ := conjB hok h70
      replace h71 : V RE _ v71 (cl (toL k (conj i.toNat k y))) := h71
      obtain ⟨p71, m71, c71, rfl, s71⟩ := h71.sl
      refine O.mv rfl <| O.ext rfl rfl <| O.ext rfl rfl <| O.as rfl <| O.as rfl <| JO.nil <| J.seq <| ?_
      refine J.draw [.ex _, .rel _, .ex _, .rel _, .ex _, .rel _, .ex _, .rel _, .rel _, .ex _, .rel _, .rel _, .rel _, .ex _, .rel _] rfl rfl ⟨fun Wd id ed _ => O.fa rfl <| D.ex, fun Wd id ed _ => O.ldTD rfl hb2.to.h.f rfl rfl (fun _ => rfl), fun Wd id ed _ => O.fa rfl <| D.ex, fun Wd id ed _ => O.ldTD rfl hb2.to.h.f rfl rfl (fun _ => rfl), fun Wd id ed _ => O.fa rfl <| D.ex, fun Wd id ed _ => O.ldTD rfl hb2.to.h.s.f rfl rfl (fun _ => rfl), fun Wd id ed _ => O.fa rfl <| D.ex, fun Wd id ed _ => O.ldTD rfl hb2.to.h.s.s.f rfl rfl (fun _ => rfl), fun Wd id ed _ => fun v77 h77 => fun v79 h79 => fun v81 h81 => (by obtain ⟨p77, m77, c77, rfl, s77⟩ := h77.sl; obtain ⟨p79, m79, c79, rfl, s79⟩ := h79.sl; obtain ⟨p81, m81, c81, rfl, s81⟩ := h81.sl; exact O.call rfl (ref06_AddE_ok s79 s81 hx hy (by omega) (by omega)) fun Wd vd id ed hd => D.rel ed hd V.me), fun Wd id ed _ => O.mv rfl <| D.ex, fun Wd id ed _ => fun v75 h75 => fun _ _ => fun v82 h82 => (by obtain ⟨p75, m75, c75, rfl, s75⟩ := h75.sl; obtain ⟨p82, m82, c82, rfl, s82⟩ := h82.sl; exact O.call rfl (tower_Conjugate_ok s75 s82 hT hxy (by omega) (by decide) (by decide) hi) fun Wd vd id ed hd => D.rel (R := TupR (cl (toL k (conj i.toNat k (add k x y)))) true) ed (conjB hok hd) TupR.me), fun Wd id ed _ => fun v84 h84 => O.mv rfl <| D.rel (R := TupR (cl (toL k (conj i.toNat k (add k x y)))) true) (Ext.refl _) h84 TupR.me, fun Wd id ed _ => fun v73 h73 => (by obtain ⟨v1, rfl, hv1⟩ := h73; exact O.ext rfl rfl <| D.rel (R := fun W v => V RE W v (cl (toL k (conj i.toNat k (add k x y))))) (Ext.refl _) hv1 V.me), fun Wd id ed _ => fun v73 h73 => (by obtain ⟨v1, rfl, hv1⟩ := h73; exact O.ext rfl rfl <| D.ex), fun Wd id ed _ => fun _ _ => fun _ _ => fun v75 h75 => fun v77 h77 => fun v79 h79 => fun v81 h81 => fun v82 h82 => fun v84 h84 => fun v73 h73 => fun v85 h85 => O.as rfl <| D.rel (R := fun W v => V RE W v (cl (toL k (conj i.toNat k (add k x y))))) (Ext.refl _) h85 V.me, trivial⟩ ?_
      intro Wr8 ir8 er8 v75 h75 v77 h77 v79 h79 v81 h81 v82 h82 v84 h84 v73 h73 v85 h85 v11 h11
      obtain ⟨p75, m75, c75, rfl, s75⟩ := h75.sl
      obtain ⟨p77, m77, c77, rfl, s77⟩ := h77.sl
      obtain ⟨p79, m79, c79, rfl, s79⟩ := h79.sl
      obtain ⟨p81, m81, c81, rfl, s81⟩ := h81.sl
      obtain ⟨p82, m82, c82, rfl, s82⟩ := h82.sl
      obtain ⟨p85, m85, c85, rfl, s85⟩ := h85.sl
      obtain ⟨p11, m11, c11, rfl, s11⟩ := h11.sl
      refine O.as rfl <| JO.nil <| J.seq <| ?_
      refine J.draw [.ex _, .rel _, .ex _, .rel _, .ex _, .rel _, .ex _, .rel _, .rel _, .ex _, .rel _, .rel _, .rel _, .ex _, .rel _] rfl rfl ⟨fun Wd id ed _ => O.fa rfl <| D.ex, fun Wd id ed _ => O.ldTD rfl hb2.to.h.f rfl rfl (fun _ => rfl), fun Wd id ed _ => O.fa rfl <| D.ex, fun Wd id ed _ => O.ldTD rfl hb2.to.h.f rfl rfl (fun _ => rfl), fun Wd id ed _ => O.fa rfl <| D.ex, fun Wd id ed _ => O.ldTD rfl hb2.to.h.s.f rfl rfl (fun _ => rfl), fun Wd id ed _ => O.fa rfl <| D.ex, fun Wd id ed _ => O.ldTD rfl hb2.to.h.s.s.f rfl rfl (fun _ => rfl), fun Wd id ed _ => fun v91 h91 => fun v93 h93 => fun v95 h95 => (by obtain ⟨p91, m91, c91, rfl, s91⟩ := h91.sl; obtain ⟨p93, m93, c93, rfl, s93⟩ := h93.sl; obtain ⟨p95, m95, c95, rfl, s95⟩ := h95.sl; exact O.call rfl (ref06_MulE_ok s91 s93 s95 hT hx hy (by omega) (by omega)) fun Wd vd id ed hd => D.rel ed hd V.me), fun Wd id ed _ => O.mv rfl <| D.ex, fun Wd id ed _ => fun v89 h89 => fun _ _ => fun v96 h96 => (by obtain ⟨p89, m89, c89, rfl, s89⟩ := h89.sl; obtain ⟨p96, m96, c96, rfl, s96⟩ := h96.sl; exact O.call rfl (tower_Conjugate_ok s89 s96 hT (hx.mul hT hy) (by omega) (by omega) (by decide) hi) fun Wd vd id ed hd => D.rel (R := TupR (cl (toL k (conj i.toNat k (mul k w x y)))) true) ed (conjB hok hd) TupR.me), fun Wd id ed _ => fun v98 h98 => O.mv rfl <| D.rel (R := TupR (cl (toL k (conj i.toNat k (mul k w x y)))) true) (Ext.refl _) h98 TupR.me, fun Wd id ed _ => fun v87 h87 => (by obtain ⟨v1, rfl, hv1⟩ := h87; exact O.ext rfl rfl <| D.rel (R := fun W v => V RE W v (cl (toL k (conj i.toNat k (mul k w x y))))) (Ext.refl _) hv1 V.me), fun Wd id ed _ => fun v87 h87 => (by obtain ⟨v1, rfl, hv1⟩ := h87; exact O.ext rfl rfl <| D.ex), fun Wd id ed _ => fun _ _ => fun _ _ => fun v89 h89 => fun v91 h91 => fun v93 h93 => fun v95 h95 => fun v96 h96 => fun v98 h98 => fun v87 h87 => fun v99 h99 => O.as rfl <| D.rel (R := fun W v => V RE W v (cl (toL k (conj i.toNat k (mul k w x y))))) (Ext.refl _) h99 V.me, trivial⟩ ?_
      intro Wr9 ir9 er9 v89 h89 v91 h91 v93 h93 v95 h95 v96 h96 v98 h98 v87 h87 v99 h99 v13 h13
      obtain ⟨p89, m89, c89, rfl, s89⟩ := h89.sl
      obtain ⟨p91, m91, c91, rfl, s91⟩ := h91.sl
      obtain ⟨p93, m93, c93, rfl, s93⟩ := h93.sl
      obtain ⟨p95, m95, c95, rfl, s95⟩ := h95.sl
      obtain ⟨p96, m96, c96, rfl, s96⟩ := h96.sl
      obtain ⟨p99, m99, c99, rfl, s99⟩ := h99.sl
      obtain ⟨p13, m13, c13, rfl, s13⟩ := h13.sl
      refine O.as rfl <| JO.nil <| J.seq <| J.reg rfl <| O.fa rfl <| ?_
      refine O.ldTs rfl hb2.to.h.f fun p103 m103 c103 s103 => ?_
      have h103 := s103.v
      refine O.mv rfl <| O.mv rfl <| O.call rfl (tower_Conjugate_ok s103.to s32.to hT hfx (by omega) (by decide) (by decide) hi) fun W106 v106 i106 e106 h106 => ?_
      obtain ⟨v107, rfl, h107⟩ := conjB hok h106
      replace h107 : V RE _ v107 (cl (toL k (conj i.toNat k (conj i.toNat k x)))) := h107
      obtain ⟨p107, m107, c107, rfl, s107⟩ := h107.sl
      refine O.mv rfl <| O.ext rfl rfl <| O.ext rfl rfl <| O.as rfl <| O.as rfl <| JO.nil <| J.seq <| J.reg rfl <| O.mv rfl <| O.mv rfl <| O.gt rfl rfl <| O.mv rfl <| O.gt rfl rfl <| O.fa rfl <| O.gt rfl rfl <| ?_
      refine O.ldTs rfl hb2.to.h.f fun p113 m113 c113 s113 => ?_
      have h113 := s113.v
      refine O.gt rfl rfl <| O.mv rfl <| O.gt rfl rfl <| O.mv rfl <| O.gt rfl rfl <| ?_
      refine O.call rfl (ref06_AddE_ok s32.to s71.to hfx hfy (by omega) (by omega)) fun W116 v116 i116 e116 h116 => ?_
      obtain ⟨p116, m116, c116, rfl, s116⟩ := h116.sl
      refine O.gt rfl rfl <| O.call rfl (ref06_Same_ok s11.to s116.to) fun W117 v117 i117 e117 h117 => ?_
      obtain rfl := same_t h117 (by rw [conj_add w])
      refine O.pickT rfl rfl <| O.mv rfl <| O.gt rfl rfl <| O.mv rfl <| O.gt rfl rfl <| O.fa rfl <| O.gt rfl rfl <| ?_
      refine O.ldTs rfl hb2.to.h.f fun p122 m122 c122 s122 => ?_
      have h122 := s122.v
      refine O.gt rfl rfl <| O.mv rfl <| O.gt rfl rfl <| O.mv rfl <| O.gt rfl rfl <| ?_
      refine O.call rfl (ref06_MulE_ok s122.to s32.to s71.to hT hfx hfy (by omega) (by omega)) fun W125 v125 i125 e125 h125 => ?_
      obtain ⟨p125, m125, c125, rfl, s125⟩ := h125.sl
      refine O.gt rfl rfl <| O.call rfl (ref06_Same_ok s13.to s125.to) fun W126 v126 i126 e126 h126 => ?_
      obtain rfl := same_t h126 (by rw [conj_mul hfix])
      refine O.pickT rfl rfl <| O.mv rfl <| O.gt rfl rfl <| O.mv rfl <| O.gt rfl rfl <| O.fa rfl <| O.gt rfl rfl <| ?_
      refine O.ldTs rfl hb2.to.h.s.f fun p131 m131 c131 s131 => ?_
      have h131 := s131.v
      refine O.gt rfl rfl <| O.call rfl (ref06_Same_ok s107.to s131.to) fun W132 v132 i132 e132 h132 => ?_
      obtain rfl := same_t h132 (by rw [conj_conj w])
      refine O.pickT rfl rfl <| O.as rfl <| JO.nil <| J.ret1 rfl (.tmp rfl) fun W' iE iP => ?_
      rfl
open Go.ChangeShapes Go.WideShapes Go.ChangeAt Go.RowKit in
theorem towerConjugate_lifted (os : Os) (started : os.Started) (H : Type) (enc : TypeId × Value → H) :
    ReturnsInHanded {} Tryz.checked os 3 .any (Rows.towerConjugateSpec.pre6 enc Tryz.prog Tryz.f3 Rows.towerConjugateRow.domain false) (Rows.towerConjugateSpec.post enc Tryz.prog Tryz.f3 false true false false) := by
  refine returnsInHanded_of_change (C := Tryz.checked) own started (by kernel_rfl) Tryz.func3
    (ChangeSpec.witness6 (enc := enc) (C := Tryz.checked) false ⟨#[], #[.agg #[.slice none 0 0, .slice none 0 0, .slice none 0 0, .slice none 0 0], .int .i64 0], []⟩ 8 (by kernel_rfl) (by kernel_rfl) (by kernel_rfl) (by kernel_rfl)) ?_
  intro W base args ds gs before hval hW _ _
  exact law2i (s := Rows.towerConjugateSpec) rfl rfl rfl (fun _ _ => rfl) (fun W v t a b c i h hi => law06_TowerConjugate_ok h hi) W base args ds gs before hval hW

open Go.ChangeShapes Go.WideShapes Go.ChangeAt Go.RowKit in
theorem TowerConjugate_holds : Rows.TowerConjugateSaid :=
  OpenClaim.holds_of_wide 3 Tryz.f3 rfl rfl rfl rfl rfl rfl rfl ⟨rfl, rfl, rfl, rfl, rfl⟩ rfl rfl rfl rfl rfl (by kernel_rfl) Tryz.func3 (by kernel_rfl)
    (of_decide_eq_true (by kernel_rfl)) (by unfold Func.isWrapper; rw [if_neg (of_decide_eq_false (by kernel_rfl))]; exact ⟨rfl, rfl⟩)
    (fun os started H enc _ => towerConjugate_lifted os started H enc)
#print axioms TowerConjugate_holds
end Go.Proofs.YtcobdnnfmhfenaaGreat
