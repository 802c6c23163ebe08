/- The statements on towers that are not formed: the answers. -/
import Derived.Test.YtcobdnnfmhfenaaGreatYh
import Derived.Test.YtcobdnnfmhfenaaGreatRh
set_option linter.unusedVariables false
set_option linter.unusedSimpArgs false
set_option maxRecDepth 10000
set_option maxHeartbeats 8000000
namespace Go.Proofs.YtcobdnnfmhfenaaGreat
open Go Go.Rx Go.Num Go.Tow

theorem mid_few {l : List Raw} (h : fewL l) : midL l := ⟨Nat.le_trans h.1 (by decide), fun i hi => ⟨Nat.le_trans (h.2 i hi).1 (by decide), Nat.le_trans (h.2 i hi).2 (by decide)⟩⟩
theorem fromRat_gen {t : List (List Raw)} {i : Raw} (h4 : t.length ≤ 4) (hf : ∀ l ∈ t, fewL l) (hi : smallR i) :
    ∃ L : List Raw, ((okT t ∧ ∃ x, i = cq x) → ∃ x, i = cq x ∧ L = cl (toL t.length (rat t.length x))) ∧ (¬ (okT t ∧ ∃ x, i = cq x) → L = []) ∧
      ∀ {W : GW} {p : Option Addr} {n c : Nat} {v : Value}, Sl RE W p n c t → V RQ W v i → Ok Tryz.prog 28 [.slice p n c, v] W fun W' r => V RE W' r L := by
  have hs : ∀ r ∈ t, ∀ i ∈ r, smallR i := fun r hr i hi => ((hf r hr).2 i hi).small
  by_cases hp : okT t ∧ ∃ x, i = cq x
  · obtain ⟨hT, x, rfl⟩ := hp
    obtain ⟨w, hw⟩ := okT_typed hT
    refine ⟨_, fun _ => ⟨x, rfl, rfl⟩, fun h => absurd ⟨hT, x, rfl⟩ h, fun {W p n c v} h h' => ?_⟩
    rw [hw] at h
    exact tower_FromRat_ok h h' (few_ts (by rw [← hw]; exact hf)) hi (by omega) (by decide)
  · exact ⟨[], fun h => absurd h hp, fun _ => rfl, fun {W p n c v} h h' => tower_FromRat_nil h h' hs hi (by omega) (Classical.not_and_iff_not_or_not.1 hp)⟩
theorem root_gen {t : List (List Raw)} {i : Int} (h4 : t.length ≤ 4) (hf : ∀ l ∈ t, fewL l) :
    ∃ L : List Raw, ((okT t ∧ 0 ≤ i ∧ i < t.length) → ∃ (w : Tw t.length), t = ct (toT t.length w) ∧ L = cl (toL t.length (root t.length i.toNat))) ∧ (¬ (okT t ∧ 0 ≤ i ∧ i < t.length) → L = []) ∧
      ∀ {W : GW} {p : Option Addr} {n c : Nat}, Sl RE W p n c t → Ok Tryz.prog 20 [.slice p n c, .int .i64 i] W fun W' r => V RE W' r L := by
  have hs : ∀ r ∈ t, ∀ i ∈ r, smallR i := fun r hr i hi => ((hf r hr).2 i hi).small
  by_cases hp : okT t ∧ 0 ≤ i ∧ i < t.length
  · obtain ⟨hT, h0, hl⟩ := hp
    obtain ⟨w, hw⟩ := okT_typed hT
    refine ⟨_, fun _ => ⟨w, hw, rfl⟩, fun h => absurd ⟨hT, h0, hl⟩ h, fun {W p n c} h => ?_⟩
    rw [hw] at h
    have e : i = (i.toNat : Int) := by omega
    rw [e]
    exact tower_Root_ok h (few_ts (by rw [← hw]; exact hf)) (by omega) (by omega) (by decide)
  · refine ⟨[], fun h => absurd h hp, fun _ => rfl, fun {W p n c} h => tower_Root_nil h hs (by omega) ?_⟩
    by_cases hT : okT t
    · exact .inr (by by_cases h0 : 0 ≤ i <;> simp_all <;> omega)
    · exact .inl hT
theorem formed1 {t : List (List Raw)} {a : List Raw} (h4 : t.length ≤ 4) (hf : ∀ l ∈ t, fewL l) (ha : fewL a) (h : okT t ∧ okE (2 ^ t.length) a) :
    ∃ (k : Nat) (w : Tw k) (x : El k), k ≤ 4 ∧ t = ct (toT k w) ∧ a = cl (toL k x) ∧ TS 2049 k w ∧ Sz 2049 (toL k x) := by
  obtain ⟨w, hw⟩ := okT_typed h.1
  obtain ⟨x, rfl⟩ := okE_typed h.2
  exact ⟨t.length, w, x, h4, hw, rfl, few_ts (by rw [← hw]; exact hf), few_sz ha⟩

theorem law06_TowerFormed_ok {W : GW} {v u : Value} {t : List (List Raw)} {a b c : List Raw} {i : Raw} (hv : V RCs W v (t, a, b, c)) (hu : V RQ W u i) (hc : midL c) :
    Ok Tryz.prog 6 [v, u] W fun _ r => r = .bool true := by
  refine Ok.enter Tryz.func6 rfl rfl rfl rfl fun W0 iEn => ?_
  refine J.seq <| J.reg rfl <| O.boxT rfl hv.to fun W2 b2 i2 hb2 => O.boxT rfl hu.to fun W3 b3 i3 hb3 => O.as rfl <| JO.nil <| J.seq <| J.seq <| J.reg rfl <| ?_
  refine O.call rfl (law06_awake_ok) fun W7 v7 i7 e7 h7 => ?_
  subst h7
  refine O.not rfl <| O.mv rfl <| O.gt rfl rfl <| O.fa rfl <| O.gt rfl rfl <| ?_
  refine O.ldTs rfl hb2.to.h.f fun p11 m11 c11 s11 => ?_
  have h11 := s11.v
  refine O.gt rfl rfl <| O.fa rfl <| O.gt rfl rfl <| ?_
  refine O.ldTs rfl hb2.to.h.s.f fun p13 m13 c13 s13 => ?_
  have h13 := s13.v
  refine O.gt rfl rfl <| O.fa rfl <| O.gt rfl rfl <| ?_
  refine O.ldTs rfl hb2.to.h.s.s.f fun p15 m15 c15 s15 => ?_
  have h15 := s15.v
  refine O.gt rfl rfl <| O.ldT rfl hb3.to.h rfl rfl (fun h => nomatch h) fun v16 h16 => O.gt rfl rfl <| O.bs (r := RQ) [i] rfl ⟨h16.to, trivial⟩ rfl rfl rfl (by decide) (.inl rfl) (by decide) fun W17 p17 i17 e17 s17 => O.gt rfl rfl <| O.bs (r := RE) [a, b, [i]] rfl ⟨h13.to, h15.to, s17.v, trivial⟩ rfl rfl rfl (by decide) (.inr rfl) (by decide) fun W18 p18 i18 e18 s18 => O.gt rfl rfl <| O.call rfl (ref06_Few_ok s11.to s18.to (by decide)) fun W19 v19 i19 e19 h19 => ?_
  obtain ⟨f, rfl, hf⟩ := h19
  refine O.gt rfl rfl <| O.not rfl <| O.pickF rfl rfl <| JO.nil <| J.cond rfl (fun h21 => ?_) (fun h21 => ?_)
  · skip
    refine J.seq <| J.reg rfl <| ?_
    refine O.call rfl (law06_awake_ok) fun W22 v22 i22 e22 h22 => ?_
    subst h22
    refine O.as rfl <| JO.nil <| J.ret1 rfl (.tmp rfl) fun W' iE iP => ?_
    rfl
  · skip
    have hft : f = true := by cases f <;> simp_all
    have hfew := hf.1 hft
    have ht4 := hfew.1
    have hfa : fewL a := hfew.2 a (by simp)
    have hfb : fewL b := hfew.2 b (by simp)
    have hfi : fewR i := (hfew.2 [i] (by simp)).2 i (by simp)
    have hfT : ∀ l ∈ t, fewL l := fun l hl => hfew.2 l (List.mem_append_left _ hl)
    have hst : ∀ r ∈ t, ∀ i ∈ r, smallR i := fun r hr i hi => ((hfT r hr).2 i hi).small
    have hsa : ∀ i ∈ a, smallR i := fun i hi => (hfa.2 i hi).small
    have hsb : ∀ i ∈ b, smallR i := fun i hi => (hfb.2 i hi).small
    have hi : smallR i := hfi.small
    obtain ⟨bT, hbT⟩ := dec_ex (okT t)
    obtain ⟨bN, hbN⟩ := dec_ex (∃ x, i = cq x)
    obtain ⟨bA, hbA⟩ := dec_ex (okT t ∧ okE (2 ^ t.length) a)
    obtain ⟨bB, hbB⟩ := dec_ex (okT t ∧ okE (2 ^ t.length) b)
    obtain ⟨L, hL1, hL2, hL⟩ := fromRat_gen ht4 hfT hi
    refine J.skip <| J.seq <| J.reg rfl <| O.ldT rfl hb2.to.h rfl rfl (fun h => nomatch h) fun v23 h23 => O.call rfl (law06_own_ok h23.to (by omega) (fun l hl => mid_few (hfT l hl)) (mid_few hfa) (mid_few hfb) hc) fun W24 v24 i24 e24 h24 => ?_
    refine O.allocE fun W5 b5 i5 e5 hl5 hc5 hz5 => ?_
    refine O.stT rfl rfl hl5.to h24.to rfl fun Ws1 is1 hb5 F5 => ?_
    refine JO.nil <| J.seq <| J.seq <| ?_
    refine J.draw [.ex _, .rel _, .ex _, .rel _, .ex _, .ex _, .rel _, .ex _, .rel _] rfl rfl ⟨fun Wd id ed _ => O.fa rfl <| D.ex, fun Wd id ed _ => O.ldTD rfl hb5.to.h.f rfl rfl (fun _ => rfl), fun Wd id ed _ => O.fa rfl <| D.ex, fun Wd id ed _ => O.ldTD rfl hb5.to.h.s.f rfl rfl (fun _ => rfl), fun Wd id ed _ => fun v26 h26 => fun v28 h28 => (by obtain ⟨p26, m26, c26, rfl, s26⟩ := h26.sl; obtain ⟨p28, m28, c28, rfl, s28⟩ := h28.sl; exact O.call rfl ((tower_Formed_ok s26 s28 hst hsa (by omega)).eqB hbA) fun Wd vd id ed hd => D.eq ed hd), fun Wd id ed _ => O.fa rfl <| D.ex, fun Wd id ed _ => O.ldTD rfl hb2.to.h.f rfl rfl (fun _ => rfl), fun Wd id ed _ => O.fa rfl <| D.ex, fun Wd id ed _ => O.ldTD rfl hb2.to.h.s.f rfl rfl (fun _ => rfl), trivial⟩ ?_
    intro Wr4 ir4 er4 v26 h26 v28 h28 v31 h31 v33 h33
    obtain ⟨p26, m26, c26, rfl, s26⟩ := h26.sl
    obtain ⟨p28, m28, c28, rfl, s28⟩ := h28.sl
    obtain ⟨p31, m31, c31, rfl, s31⟩ := h31.sl
    obtain ⟨p33, m33, c33, rfl, s33⟩ := h33.sl
    refine O.call rfl ((ref06_Formed_ok s31 s33 hst hsa (by omega)).eqB hbA) fun W34 v34 i34 e34 h34 => ?_
    subst h34
    refine O.bne rfl rfl <| ?_
    refine O.set (t := 35) (.bool false) rfl (by simp) ?_
    refine JO.nil <| J.condF rfl <| J.skip <| J.seq <| J.seq <| J.reg rfl <| O.fa rfl <| ?_
    refine O.ldTs rfl hb5.to.h.f fun p37 m37 c37 s37 => ?_
    have h37 := s37.v
    refine O.ldT rfl hb3.to.h rfl rfl (fun h => nomatch h) fun v38 h38 => ?_
    refine O.call rfl (hL s37.to h38.to) fun W39 v39 i39 e39 h39 => ?_
    obtain ⟨p39, m39, c39, rfl, s39⟩ := h39.sl
    refine O.as rfl <| JO.nil <| J.seq <| ?_
    refine J.cut (α := Unit) (fun _ => [(2, .pointer (some ⟨b2, 0, none⟩)), (5, .pointer (some ⟨b5, 0, none⟩)), (71, .bool false)]) (fun _ W' => Le W0 W' ∧ Pt RCs W' b2 0 (t, a, b, c) ∧ Pt RCs W' b5 0 (t, a, b, c)) ?_ ?_
    · skip
      refine J.reg rfl <| O.fa rfl <| ?_
      refine O.ldTs rfl hb2.to.h.f fun p41 m41 c41 s41 => ?_
      have h41 := s41.v
      refine O.call rfl ((ref06_Tower_ok s41.to hst (by omega)).eqB hbT) fun W42 v42 i42 e42 h42 => ?_
      subst h42
      refine O.mv rfl <| ?_
      by_cases hg43 : bT = true
      · skip
        refine O.set (t := 43) (.bool true) rfl (by rw [hg43]) <| O.gt rfl rfl <| O.ldT rfl hb3.to.h rfl rfl (fun h => nomatch h) fun v44 h44 => O.gt rfl rfl <| ?_
        refine O.call rfl ((ref02_Valid_ok h44.to hi.1 hi.2).eqB hbN) fun W45 v45 i45 e45 h45 => ?_
        subst h45
        refine O.pickT rfl rfl <| O.mv rfl <| ?_
        by_cases hg47 : bN = true
        · skip
          obtain ⟨x, rfl, hLx⟩ := hL1 ⟨hbT.1 hg43, hbN.1 hg47⟩
          refine O.set (t := 47) (.bool true) rfl (by rw [hg47]) <| O.gt rfl rfl <| O.mv rfl <| O.gt rfl rfl <| O.fa rfl <| O.gt rfl rfl <| ?_
          refine O.ldTs rfl hb2.to.h.f fun p50 m50 c50 s50 => ?_
          have h50 := s50.v
          refine O.gt rfl rfl <| O.ldT rfl hb3.to.h rfl rfl (fun h => nomatch h) fun v51 h51 => O.gt rfl rfl <| ?_
          refine O.call rfl ((ref06_FromRat_own (x := x) s50.to h51.to (by have := s50.hn; omega)).own) fun W52 v52 i52 e52 h52 => ?_
          obtain ⟨p52, m52, c52, rfl, s52⟩ := h52.sl
          refine O.gt rfl rfl <| O.call rfl (ref06_Same_ok s39.to s52.to) fun W53 v53 i53 e53 h53 => ?_
          obtain rfl := same_t h53 (by rw [hLx, s50.hn])
          refine O.gt rfl rfl <| O.not rfl <| O.pickT rfl rfl <| O.mv rfl <| O.gt rfl rfl <| O.fa rfl <| O.gt rfl rfl <| ?_
          refine O.ldTs rfl hb2.to.h.f fun p58 m58 c58 s58 => ?_
          have h58 := s58.v
          refine O.gt rfl rfl <| ?_
          refine O.call rfl ((ref06_Tower_ok s58.to hst (by omega)).eqB hbT) fun W59 v59 i59 e59 h59 => ?_
          subst h59
          refine O.gt rfl rfl <| O.not rfl <| ?_
          refine O.set (t := 60) (.bool false) rfl (by rw [hg43]; rfl) ?_
          refine O.gt rfl rfl <| O.mv rfl <| O.gt rfl rfl <| O.ldT rfl hb3.to.h rfl rfl (fun h => nomatch h) fun v62 h62 => O.gt rfl rfl <| ?_
          refine O.call rfl ((ref02_Valid_ok h62.to hi.1 hi.2).eqB hbN) fun W63 v63 i63 e63 h63 => ?_
          subst h63
          refine O.gt rfl rfl <| O.not rfl <| ?_
          refine O.set (t := 64) (.bool false) rfl (by rw [hg47]; rfl) ?_
          refine O.gt rfl rfl <| O.pickF rfl rfl <| O.gt rfl rfl <| O.mv rfl <| O.gs rfl rfl rfl <| O.gs rfl rfl rfl <| O.gs rfl rfl rfl <| O.gt rfl rfl <| O.pickF rfl rfl <| O.pickF rfl rfl <| JO.nil <| ?_
          exact J.at' () ⟨rfl, rfl, rfl, trivial⟩ ⟨inferInstance, hb2.to, hb5.to⟩
        · skip
          refine O.set (t := 47) (.bool false) rfl (by rw [Bool.eq_false_iff.2 hg47]) <| O.gs rfl rfl rfl <| O.gs rfl rfl rfl <| O.gs rfl rfl rfl <| O.gs rfl rfl rfl <| O.gs rfl rfl rfl <| O.gs rfl rfl rfl <| O.gs rfl rfl rfl <| O.pickF rfl rfl <| O.mv rfl <| O.gt rfl rfl <| O.fa rfl <| O.gt rfl rfl <| ?_
          refine O.ldTs rfl hb2.to.h.f fun p58 m58 c58 s58 => ?_
          have h58 := s58.v
          refine O.gt rfl rfl <| ?_
          refine O.call rfl ((ref06_Tower_ok s58.to hst (by omega)).eqB hbT) fun W59 v59 i59 e59 h59 => ?_
          subst h59
          refine O.gt rfl rfl <| O.not rfl <| ?_
          refine O.set (t := 60) (.bool false) rfl (by rw [hg43]; rfl) ?_
          refine O.gt rfl rfl <| O.mv rfl <| O.gt rfl rfl <| O.ldT rfl hb3.to.h rfl rfl (fun h => nomatch h) fun v62 h62 => O.gt rfl rfl <| ?_
          refine O.call rfl ((ref02_Valid_ok h62.to hi.1 hi.2).eqB hbN) fun W63 v63 i63 e63 h63 => ?_
          subst h63
          refine O.gt rfl rfl <| O.not rfl <| ?_
          refine O.set (t := 64) (.bool true) rfl (by rw [Bool.eq_false_iff.2 hg47]; rfl) ?_
          refine O.gt rfl rfl <| O.pickF rfl rfl <| O.gt rfl rfl <| O.mv rfl <| O.gt rfl rfl <| O.mv rfl <| O.gt rfl rfl <| O.len rfl <| O.gt rfl rfl <| O.gtr rfl rfl <| ?_
          have hL0 := hL2 fun h => hg47 (hbN.2 h.2)
          have hm := s39.hn
          rw [hL0] at hm
          refine O.set (t := 69) (.bool false) rfl (by simp only [Value.bool.injEq, decide_eq_false_iff_not]; simp at hm; omega) ?_
          refine O.gt rfl rfl <| O.pickT rfl rfl <| O.pickF rfl rfl <| JO.nil <| ?_
          exact J.at' () ⟨rfl, rfl, rfl, trivial⟩ ⟨inferInstance, hb2.to, hb5.to⟩
      · skip
        refine O.set (t := 43) (.bool false) rfl (by rw [Bool.eq_false_iff.2 hg43]) <| O.gs rfl rfl rfl <| O.gs rfl rfl rfl <| O.pickF rfl rfl <| O.mv rfl <| O.gs rfl rfl rfl <| O.gs rfl rfl rfl <| O.gs rfl rfl rfl <| O.gs rfl rfl rfl <| O.gs rfl rfl rfl <| O.gs rfl rfl rfl <| O.gs rfl rfl rfl <| O.pickF rfl rfl <| O.mv rfl <| O.gt rfl rfl <| O.fa rfl <| O.gt rfl rfl <| ?_
        refine O.ldTs rfl hb2.to.h.f fun p58 m58 c58 s58 => ?_
        have h58 := s58.v
        refine O.gt rfl rfl <| ?_
        refine O.call rfl ((ref06_Tower_ok s58.to hst (by omega)).eqB hbT) fun W59 v59 i59 e59 h59 => ?_
        subst h59
        refine O.gt rfl rfl <| O.not rfl <| ?_
        refine O.set (t := 60) (.bool true) rfl (by rw [Bool.eq_false_iff.2 hg43]; rfl) ?_
        refine O.gt rfl rfl <| O.mv rfl <| O.gs rfl rfl rfl <| O.gs rfl rfl rfl <| O.gs rfl rfl rfl <| O.gt rfl rfl <| O.pickT rfl rfl <| O.gt rfl rfl <| O.mv rfl <| O.gt rfl rfl <| O.mv rfl <| O.gt rfl rfl <| O.len rfl <| O.gt rfl rfl <| O.gtr rfl rfl <| ?_
        have hL0 := hL2 fun h => hg43 (hbT.2 h.1)
        have hm := s39.hn
        rw [hL0] at hm
        refine O.set (t := 69) (.bool false) rfl (by simp only [Value.bool.injEq, decide_eq_false_iff_not]; simp at hm; omega) ?_
        refine O.gt rfl rfl <| O.pickT rfl rfl <| O.pickF rfl rfl <| JO.nil <| ?_
        exact J.at' () ⟨rfl, rfl, rfl, trivial⟩ ⟨inferInstance, hb2.to, hb5.to⟩
    · skip
      rintro ⟨⟩ Wk ⟨_, hb2, hb5⟩
      refine J.condF rfl <| J.skip <| J.seq <| J.seq <| J.reg rfl <| O.fa rfl <| ?_
      refine O.ldTs rfl hb2.to.h.f fun p73 m73 c73 s73 => ?_
      have h73 := s73.v
      refine O.fa rfl <| ?_
      refine O.ldTs rfl hb2.to.h.s.f fun p75 m75 c75 s75 => ?_
      have h75 := s75.v
      refine O.call rfl ((ref06_Formed_ok s73.to s75.to hst hsa (by omega)).eqB hbA) fun W76 v76 i76 e76 h76 => ?_
      subst h76
      refine O.mv rfl <| ?_
      by_cases hg77 : bA = true
      · skip
        refine O.set (t := 77) (.bool true) rfl (by rw [hg77]) <| O.gt rfl rfl <| O.fa rfl <| O.gt rfl rfl <| ?_
        refine O.ldTs rfl hb2.to.h.f fun p79 m79 c79 s79 => ?_
        have h79 := s79.v
        refine O.gt rfl rfl <| O.fa rfl <| O.gt rfl rfl <| ?_
        refine O.ldTs rfl hb2.to.h.s.s.f fun p81 m81 c81 s81 => ?_
        have h81 := s81.v
        refine O.gt rfl rfl <| ?_
        refine O.call rfl ((ref06_Formed_ok s79.to s81.to hst hsb (by omega)).eqB hbB) fun W82 v82 i82 e82 h82 => ?_
        subst h82
        refine O.pickT rfl rfl <| JO.nil <| J.cond rfl (fun h83 => ?_) (fun h83 => ?_)
        · skip
          refine J.seq <| J.reg rfl <| O.as rfl <| JO.nil <| J.ret1 rfl (.tmp rfl) fun W' iE iP => ?_
          rfl
        · skip
          refine J.skip <| J.seq <| ?_
          have hno : ¬ (okT t ∧ okE (2 ^ t.length) a ∧ okE (2 ^ t.length) b) := fun h => by have := hbB.2 ⟨h.1, h.2.2⟩; rw [this] at h83; cases h83
          refine J.drawQ [84, 85, 86, 87, 88, 89, 90, 91, 92, 93, 94, 95, 96, 97, 98, 99, 100, 101, 102, 103, 104, 105, 106, 107, 108] [[], [(0, 84)], [], [(2, 86)], [], [(4, 88)], [(1, 85), (3, 87), (5, 89)], [(6, 90)], [], [(8, 92)], [], [(10, 94)], [], [(12, 96)], [(9, 93), (11, 95), (13, 97), (6, 90)], [(14, 98)], [(7, 91), (15, 99)], [], [(17, 101)], [], [(19, 103)], [], [(21, 105)], [(18, 102), (20, 104), (22, 106), (14, 98)], [(23, 107)]] [0, 1, 0, 1, 0, 1, 2, 3, 0, 1, 0, 1, 0, 1, 3, 4, 5, 0, 1, 0, 1, 0, 1, 4, 5] [1, 6, 3, 6, 5, 6, 14, 16, 9, 14, 11, 14, 13, 14, 23, 16, 25, 18, 23, 20, 23, 22, 23, 24, 25] [.ex _, .rel _, .ex _, .rel _, .ex _, .rel _, .rel _, .ex _, .ex _, .rel _, .ex _, .rel _, .ex _, .rel _, .rel _, .ex _, .ex _, .ex _, .rel _, .ex _, .rel _, .ex _, .rel _, .rel _, .ex _] [false, false, false, false, false, false, false, false, false, false, false, false, false, false, false, false, false, false, false, false, false, false, false, false, false] (by decide +kernel) rfl rfl rfl ⟨fun Wd id ed Lq hLq _ => O.fa rfl <| D.ex, fun Wd id ed Lq hLq _ => O.ldTD rfl hb5.to.h.f rfl rfl (fun _ => rfl), fun Wd id ed Lq hLq _ => O.fa rfl <| D.ex, fun Wd id ed Lq hLq _ => O.ldTD rfl hb5.to.h.s.f rfl rfl (fun _ => rfl), fun Wd id ed Lq hLq _ => O.fa rfl <| D.ex, fun Wd id ed Lq hLq _ => O.ldTD rfl hb5.to.h.s.s.f rfl rfl (fun _ => rfl), fun Wd id ed Lq hLq _ => fun v85 h85 => fun v87 h87 => fun v89 h89 => (by obtain ⟨p85, m85, c85, rfl, s85⟩ := h85.sl; obtain ⟨p87, m87, c87, rfl, s87⟩ := h87.sl; obtain ⟨p89, m89, c89, rfl, s89⟩ := h89.sl; exact O.call rfl (tower_Add_nil s85 s87 s89 hst hsa hsb (by omega) hno) fun Wd vd id ed hd => D.rel ed hd V.me), fun Wd id ed Lq hLq _ => fun v90 h90 => O.lenV (m := 0) rfl h90 rfl <| D.ex, fun Wd id ed Lq hLq _ => O.fa rfl <| D.ex, fun Wd id ed Lq hLq _ => O.ldTD rfl hb5.to.h.f rfl rfl (fun _ => rfl), fun Wd id ed Lq hLq _ => O.fa rfl <| D.ex, fun Wd id ed Lq hLq _ => O.ldTD rfl hb5.to.h.s.f rfl rfl (fun _ => rfl), fun Wd id ed Lq hLq _ => O.fa rfl <| D.ex, fun Wd id ed Lq hLq _ => O.ldTD rfl hb5.to.h.s.s.f rfl rfl (fun _ => rfl), fun Wd id ed Lq hLq _ => fun v93 h93 => fun v95 h95 => fun v97 h97 => fun v90 h90 => (by obtain ⟨p93, m93, c93, rfl, s93⟩ := h93.sl; obtain ⟨p95, m95, c95, rfl, s95⟩ := h95.sl; obtain ⟨p97, m97, c97, rfl, s97⟩ := h97.sl; obtain ⟨p90, m90, c90, rfl, s90⟩ := h90.sl; exact O.call rfl (tower_Sub_nil s93 s95 s97 hst hsa hsb (by omega) hno) fun Wd vd id ed hd => D.rel ed hd V.me), fun Wd id ed Lq hLq _ => fun v98 h98 => O.lenV (m := 0) rfl h98 rfl <| D.ex, fun Wd id ed Lq hLq _ => O.add rfl rfl (wI (by omega)) <| D.ex, fun Wd id ed Lq hLq _ => O.fa rfl <| D.ex, fun Wd id ed Lq hLq _ => O.ldTD rfl hb5.to.h.f rfl rfl (fun _ => rfl), fun Wd id ed Lq hLq _ => O.fa rfl <| D.ex, fun Wd id ed Lq hLq _ => O.ldTD rfl hb5.to.h.s.f rfl rfl (fun _ => rfl), fun Wd id ed Lq hLq _ => O.fa rfl <| D.ex, fun Wd id ed Lq hLq _ => O.ldTD rfl hb5.to.h.s.s.f rfl rfl (fun _ => rfl), fun Wd id ed Lq hLq _ => fun v102 h102 => fun v104 h104 => fun v106 h106 => fun v98 h98 => (by obtain ⟨p102, m102, c102, rfl, s102⟩ := h102.sl; obtain ⟨p104, m104, c104, rfl, s104⟩ := h104.sl; obtain ⟨p106, m106, c106, rfl, s106⟩ := h106.sl; obtain ⟨p98, m98, c98, rfl, s98⟩ := h98.sl; exact O.call rfl (tower_Mul_nil s102 s104 s106 hst hsa hsb (by omega) hno) fun Wd vd id ed hd => D.rel ed hd V.me), fun Wd id ed Lq hLq _ => fun v107 h107 => O.lenV (m := 0) rfl h107 rfl <| D.ex, trivial⟩ ?_
          intro Wr11 ir11 er11 v85 h85 v87 h87 v89 h89 v90 h90 v93 h93 v95 h95 v97 h97 v98 h98 v102 h102 v104 h104 v106 h106 v107 h107
          refine O.add rfl rfl (wI (by omega)) <| O.eq rfl rfl <| O.as rfl <| JO.nil <| J.ret1 rfl (.tmp rfl) fun W' iE iP => ?_
          rfl
      · skip
        refine O.set (t := 77) (.bool false) rfl (by rw [Bool.eq_false_iff.2 hg77]) <| O.gs rfl rfl rfl <| O.gs rfl rfl rfl <| O.gs rfl rfl rfl <| O.gs rfl rfl rfl <| O.gs rfl rfl rfl <| O.pickF rfl rfl <| JO.nil <| J.condF rfl <| J.skip <| J.seq <| ?_
        have hno : ¬ (okT t ∧ okE (2 ^ t.length) a ∧ okE (2 ^ t.length) b) := fun h => hg77 (hbA.2 ⟨h.1, h.2.1⟩)
        refine J.drawQ [84, 85, 86, 87, 88, 89, 90, 91, 92, 93, 94, 95, 96, 97, 98, 99, 100, 101, 102, 103, 104, 105, 106, 107, 108] [[], [(0, 84)], [], [(2, 86)], [], [(4, 88)], [(1, 85), (3, 87), (5, 89)], [(6, 90)], [], [(8, 92)], [], [(10, 94)], [], [(12, 96)], [(9, 93), (11, 95), (13, 97), (6, 90)], [(14, 98)], [(7, 91), (15, 99)], [], [(17, 101)], [], [(19, 103)], [], [(21, 105)], [(18, 102), (20, 104), (22, 106), (14, 98)], [(23, 107)]] [0, 1, 0, 1, 0, 1, 2, 3, 0, 1, 0, 1, 0, 1, 3, 4, 5, 0, 1, 0, 1, 0, 1, 4, 5] [1, 6, 3, 6, 5, 6, 14, 16, 9, 14, 11, 14, 13, 14, 23, 16, 25, 18, 23, 20, 23, 22, 23, 24, 25] [.ex _, .rel _, .ex _, .rel _, .ex _, .rel _, .rel _, .ex _, .ex _, .rel _, .ex _, .rel _, .ex _, .rel _, .rel _, .ex _, .ex _, .ex _, .rel _, .ex _, .rel _, .ex _, .rel _, .rel _, .ex _] [false, false, false, false, false, false, false, false, false, false, false, false, false, false, false, false, false, false, false, false, false, false, false, false, false] (by decide +kernel) rfl rfl rfl ⟨fun Wd id ed Lq hLq _ => O.fa rfl <| D.ex, fun Wd id ed Lq hLq _ => O.ldTD rfl hb5.to.h.f rfl rfl (fun _ => rfl), fun Wd id ed Lq hLq _ => O.fa rfl <| D.ex, fun Wd id ed Lq hLq _ => O.ldTD rfl hb5.to.h.s.f rfl rfl (fun _ => rfl), fun Wd id ed Lq hLq _ => O.fa rfl <| D.ex, fun Wd id ed Lq hLq _ => O.ldTD rfl hb5.to.h.s.s.f rfl rfl (fun _ => rfl), fun Wd id ed Lq hLq _ => fun v85 h85 => fun v87 h87 => fun v89 h89 => (by obtain ⟨p85, m85, c85, rfl, s85⟩ := h85.sl; obtain ⟨p87, m87, c87, rfl, s87⟩ := h87.sl; obtain ⟨p89, m89, c89, rfl, s89⟩ := h89.sl; exact O.call rfl (tower_Add_nil s85 s87 s89 hst hsa hsb (by omega) hno) fun Wd vd id ed hd => D.rel ed hd V.me), fun Wd id ed Lq hLq _ => fun v90 h90 => O.lenV (m := 0) rfl h90 rfl <| D.ex, fun Wd id ed Lq hLq _ => O.fa rfl <| D.ex, fun Wd id ed Lq hLq _ => O.ldTD rfl hb5.to.h.f rfl rfl (fun _ => rfl), fun Wd id ed Lq hLq _ => O.fa rfl <| D.ex, fun Wd id ed Lq hLq _ => O.ldTD rfl hb5.to.h.s.f rfl rfl (fun _ => rfl), fun Wd id ed Lq hLq _ => O.fa rfl <| D.ex, fun Wd id ed Lq hLq _ => O.ldTD rfl hb5.to.h.s.s.f rfl rfl (fun _ => rfl), fun Wd id ed Lq hLq _ => fun v93 h93 => fun v95 h95 => fun v97 h97 => fun v90 h90 => (by obtain ⟨p93, m93, c93, rfl, s93⟩ := h93.sl; obtain ⟨p95, m95, c95, rfl, s95⟩ := h95.sl; obtain ⟨p97, m97, c97, rfl, s97⟩ := h97.sl; obtain ⟨p90, m90, c90, rfl, s90⟩ := h90.sl; exact O.call rfl (tower_Sub_nil s93 s95 s97 hst hsa hsb (by omega) hno) fun Wd vd id ed hd => D.rel ed hd V.me), fun Wd id ed Lq hLq _ => fun v98 h98 => O.lenV (m := 0) rfl h98 rfl <| D.ex, fun Wd id ed Lq hLq _ => O.add rfl rfl (wI (by omega)) <| D.ex, fun Wd id ed Lq hLq _ => O.fa rfl <| D.ex, fun Wd id ed Lq hLq _ => O.ldTD rfl hb5.to.h.f rfl rfl (fun _ => rfl), fun Wd id ed Lq hLq _ => O.fa rfl <| D.ex, fun Wd id ed Lq hLq _ => O.ldTD rfl hb5.to.h.s.f rfl rfl (fun _ => rfl), fun Wd id ed Lq hLq _ => O.fa rfl <| D.ex, fun Wd id ed Lq hLq _ => O.ldTD rfl hb5.to.h.s.s.f rfl rfl (fun _ => rfl), fun Wd id ed Lq hLq _ => fun v102 h102 => fun v104 h104 => fun v106 h106 => fun v98 h98 => (by obtain ⟨p102, m102, c102, rfl, s102⟩ := h102.sl; obtain ⟨p104, m104, c104, rfl, s104⟩ := h104.sl; obtain ⟨p106, m106, c106, rfl, s106⟩ := h106.sl; obtain ⟨p98, m98, c98, rfl, s98⟩ := h98.sl; exact O.call rfl (tower_Mul_nil s102 s104 s106 hst hsa hsb (by omega) hno) fun Wd vd id ed hd => D.rel ed hd V.me), fun Wd id ed Lq hLq _ => fun v107 h107 => O.lenV (m := 0) rfl h107 rfl <| D.ex, trivial⟩ ?_
        intro Wr11 ir11 er11 v85 h85 v87 h87 v89 h89 v90 h90 v93 h93 v95 h95 v97 h97 v98 h98 v102 h102 v104 h104 v106 h106 v107 h107
        refine O.add rfl rfl (wI (by omega)) <| O.eq rfl rfl <| O.as rfl <| JO.nil <| J.ret1 rfl (.tmp rfl) fun W' iE iP => ?_
        rfl
end Go.Proofs.YtcobdnnfmhfenaaGreat
