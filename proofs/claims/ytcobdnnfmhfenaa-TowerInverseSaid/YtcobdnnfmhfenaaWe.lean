/- The statements about towers: inverses: the walk. -/
import Derived.Test.YtcobdnnfmhfenaaWc
set_option linter.unusedVariables false
set_option maxRecDepth 10000
set_option maxHeartbeats 2000000
namespace Go.Proofs.Ytcobdnnfmhfenaa
open Go Go.Rx Go.Num Go.Tow

theorem inv_zero0 {a : El 0} (h : Tow.inv 0 () a = none) : ∀ x ∈ toL 0 a, x = 0 := by
  have : ∀ y : Rat, Tow.inv 0 () y = none → y = 0 := by
    intro y hy
    rw [inv0] at hy
    by_cases h : y = 0
    · exact h
    · rw [if_neg h] at hy; cases hy
  intro x hx
  have e : x = a := List.mem_singleton.1 hx
  rw [e]
  exact this a h
def InvN (W : GW) (v : Value) : Prop := ∃ v1, v = .tuple #[v1, .int .i64 6] ∧ V RE W v1 []
theorem InvN.me : MonoR InvN := fun _ _ _ e ⟨v1, h1, h2⟩ => ⟨v1, h1, h2.mono e.toLeS.f⟩
theorem law06_TowerInverse_ok {W : GW} {v : Value} {t : List (List Raw)} {a b c : List Raw} (h : CaseR W v t a b c) :
    Ok Try.prog 5 [v] W fun _ r => r = .bool true := by
  obtain ⟨p, n, m, pa, na, ma, pb, nb, mb, pc, nc, mc, rfl, ht, ha, hb, hc⟩ := h.h
  refine Ok.enter Try.func5 rfl rfl rfl rfl fun W0 iEn => ?_
  refine J.seq <| J.reg rfl <| O.box rfl fun W1 b1 i1 hb1 => O.as rfl <| JO.nil <| J.seq <| J.seq <| J.reg rfl <| O.call rfl law06_awake_ok fun W2 v2 i2 e2 h2 => ?_
  subst h2
  refine O.not rfl <| O.mv rfl <| O.gt rfl rfl <| O.ldBw rfl hb1.to rfl <| O.gt rfl rfl <| O.call rfl (law06_right_ok ⟨_, _, _, _, _, _, _, _, _, _, _, _, rfl, ht.to, ha.to, hb.to, hc.to⟩) fun W3 v3 i3 e3 h3 => ?_
  obtain ⟨f, rfl, hf⟩ := h3
  refine O.gt rfl rfl <| O.not rfl <| O.pickF rfl rfl <| JO.nil <| J.cond rfl (fun h13 => ?_) (fun h13 => ?_)
  · skip
    refine J.seq <| J.reg rfl <| O.call rfl law06_awake_ok fun W4 v4 i4 e4 h4 => ?_
    subst h4
    refine O.as rfl <| JO.nil <| J.ret1 rfl (.tmp rfl) fun W' iE iP => ?_
    rfl
  · skip
    have hft : f = true := by simpa using h13
    obtain ⟨k, w, x, y, z, hk, rfl, rfl, rfl, rfl, hT, hx, hy, hz⟩ := formed_typed (hf.1 hft)
    have hn : n = k := by rw [ht.hn, ct_length]
    have hcb := cB4 k (by omega)
    have hib := iB4 k (by omega)
    refine J.skip <| J.seq <| J.reg rfl <| O.fa rfl <| O.ldB rfl hb1.to rfl <| O.fa rfl <| O.ldB rfl hb1.to rfl <| O.call rfl (tower_Inv_ok ht.to ha.to hT hx (by omega) (by omega) (by decide)) fun W5 v5 i5 e5 h5 => ?_
    obtain ⟨v6, er, rfl, h6⟩ := h5
    obtain ⟨q, hq⟩ : ∃ q, q = (Tow.inv k w x).isSome := ⟨_, rfl⟩
    refine O.mv rfl <| O.ext rfl rfl <| O.ext rfl rfl <| O.as rfl <| O.as rfl <| JO.nil <| J.seq <| J.seq <| ?_
    cases q
    · skip
      refine J.reg rfl <| O.mv rfl <| ?_
      have hu : Tow.inv k w x = none := by
        cases hh : Tow.inv k w x with
        | none => rfl
        | some u => rw [hh] at hq; cases hq
      rw [hu] at h6
      obtain ⟨rfl, h6⟩ := h6
      refine O.eq rfl rfl <| O.set (t := 24) (.bool false) rfl rfl <| JO.nil <| J.condF rfl <| J.skip <| J.seq <| J.seq <| J.reg rfl <| O.fa rfl <| O.ldB rfl hb1.to rfl <| O.len rfl <| O.eq rfl rfl <| JO.nil <| J.condD rfl (fun h39 => ?_) (fun h39 => ?_)
      · skip
        have hk0 : k = 0 := by omega
        subst hk0
        have hz0 := inv_zero0 hu
        refine J.seq <| J.reg rfl <| O.fa rfl <| O.ldB rfl hb1.to rfl <| O.call rfl (tower_Zero_ok ha.to) fun W8 v8 i8 e8 h8 => ?_
        obtain rfl : v8 = .bool true := by rw [h8, decide_eq_true hz0]
        refine O.as rfl <| JO.nil <| J.ret1 rfl (.tmp rfl) fun W' iE iP => ?_
        rfl
      · skip
        obtain ⟨k, rfl⟩ : ∃ k', k = k' + 1 := ⟨k - 1, by omega⟩
        have hu2 : Tow.inv k w.1 (Tow.norm k w x) = none := inv_none hu
        have ht1 := ht.take k (by omega)
        rw [ct_succ, List.take_left' (ct_length _)] at ht1
        obtain ⟨hi1, hi2⟩ := iB_norm hib
        have hN := hx.norm hT
        refine J.sub [(1, _)] ⟨rfl, trivial⟩ ?_
        refine J.skip <| J.seq <| ?_
        refine J.draw [.ex _, .ex _, .ex _, .ex _, .ex _, .ex _, .ex _, .ex _, .ex _, .ex _, .ex _, .rel _, .rel _, .rel _, .rel _, .ex _, .rel _] rfl rfl ⟨fun W1 i1 e1 _ => O.fa rfl <| D.ex, fun W1 i1 e1 _ => O.ldB rfl hb1.to rfl <| D.ex, fun W1 i1 e1 _ => O.fa rfl <| D.ex, fun W1 i1 e1 _ => O.ldB rfl hb1.to rfl <| D.ex, fun W1 i1 e1 _ => O.len rfl <| D.ex, fun W1 i1 e1 _ => O.sb (r := (k : Int)) rfl rfl ((wI (by omega)).trans (by omega)) <| D.ex, fun W1 i1 e1 _ => O.slh (hi := k) rfl rfl rfl (by have := ht.hc; omega) <| D.ex, fun W1 i1 e1 _ => O.fa rfl <| D.ex, fun W1 i1 e1 _ => O.ldB rfl hb1.to rfl <| D.ex, fun W1 i1 e1 _ => O.fa rfl <| D.ex, fun W1 i1 e1 _ => O.ldB rfl hb1.to rfl <| D.ex, fun W1 i1 e1 _ => O.call rfl (tower_Norm_ok ht.to ha.to hT hx (by omega) (by omega) (by decide)) fun W7 v7 i7 e7 h7 => D.rel e7 h7 V.me, fun W1 i1 e1 _ => fun _ _ => fun v55 h55 => (by obtain ⟨p8, n8, c8, rfl, s8⟩ := h55.sl; exact O.call rfl (tower_Inv_ok ht1.to s8 hT.1 hN (by omega) (by omega) (by decide)) fun W7 v7 i7 e7 h7 => D.rel (R := InvN) e7 (by obtain ⟨v8, e8, rfl, h8⟩ := h7; rw [hu2] at h8; obtain ⟨rfl, h8⟩ := h8; exact ⟨v8, rfl, h8⟩) InvN.me), fun W1 i1 e1 _ => fun v56 h56 => O.mv rfl <| D.rel (R := InvN) (Ext.refl _) h56 InvN.me, fun W1 i1 e1 _ => fun v43 h43 => (by obtain ⟨v8, rfl, h8⟩ := h43; exact O.ext rfl rfl <| D.rel (R := fun W v => V RE W v []) (Ext.refl _) h8 V.me), fun W1 i1 e1 _ => fun v43 h43 => (by obtain ⟨v8, rfl, h8⟩ := h43; exact O.ext rfl rfl <| D.ex), fun W1 i1 e1 _ => fun _ _ => fun _ _ => fun v55 h55 => fun v56 h56 => fun v43 h43 => fun v57 h57 => O.as rfl <| D.rel (R := fun W v => V RE W v []) (Ext.refl _) h57 V.me, trivial⟩ ?_
        intro W1 i1 e1 v55 h55 v56 h56 v43 h43 v57 h57 v5 h5
        refine O.as rfl <| JO.nil <| J.seq <| J.reg rfl <| O.mv rfl <| O.eq rfl rfl <| O.set (t := 60) (.bool true) rfl rfl <| O.as rfl <| JO.nil <| J.ret1 rfl (.tmp rfl) fun W' iE iP => ?_
        rfl
    · skip
      refine J.reg rfl <| O.mv rfl <| ?_
      obtain ⟨u, hu⟩ : ∃ u, Tow.inv k w x = some u := Option.isSome_iff_exists.1 hq.symm
      rw [hu] at h6
      obtain ⟨rfl, h6⟩ := h6
      obtain ⟨p6, n6, c6, rfl, s6⟩ := h6.sl
      have hsu := hx.inv hT hu
      have hmu := inv_mul hu
      refine O.eq rfl rfl <| O.set (t := 24) (.bool true) rfl rfl <| JO.nil <| J.condT rfl <| J.seq <| ?_
      refine J.sub [(1, _), (3, _)] ⟨rfl, rfl, trivial⟩ ?_
      refine J.draw [.ex _, .ex _, .ex _, .ex _, .ex _, .rel _, .ex _, .ex _, .rel _] rfl rfl ⟨fun W1 i1 e1 _ => O.fa rfl <| D.ex, fun W1 i1 e1 _ => O.ldB rfl hb1.to rfl <| D.ex, fun W1 i1 e1 _ => O.mv rfl <| D.ex, fun W1 i1 e1 _ => O.fa rfl <| D.ex, fun W1 i1 e1 _ => O.ldB rfl hb1.to rfl <| D.ex, fun W1 i1 e1 _ => O.call rfl (tower_Mul_ok ht.to s6.to ha.to hT hsu hx (by omega) (by omega) (by decide)) fun W7 v7 i7 e7 h7 => D.rel e7 h7 V.me, fun W1 i1 e1 _ => O.fa rfl <| D.ex, fun W1 i1 e1 _ => O.ldB rfl hb1.to rfl <| D.ex, fun W1 i1 e1 _ => fun v30 h30 => O.call rfl (ref02_FromInt_ok (z := 1) (by decide)) fun W7 v7 i7 e7 h7 => D.rel e7 h7 V.me, trivial⟩ ?_
      intro W1 i1 e1 v30 h30 v33 h33
      obtain ⟨p8, n8, c8, rfl, s8⟩ := h30.sl
      refine O.call rfl (ref06_FromRat_own ht.to h33.to (by omega)).own fun W8 v8 i8 e8 h8 => ?_
      obtain ⟨p10, n10, c10, rfl, s10⟩ := h8.sl
      refine O.call rfl (ref06_Same_ok s8.to s10) fun W9 v9 i9 e9 h9 => ?_
      subst hn
      obtain rfl := same_t h9 (by rw [hmu]; rfl)
      refine O.as rfl <| JO.nil <| J.ret1 rfl (.tmp rfl) fun W' iE iP => ?_
      rfl
end Go.Proofs.Ytcobdnnfmhfenaa
