/- The statement on functions of one element: formed or not. -/
import Derived.Test.YtcobdnnfmhfenaaGreatYi
set_option linter.unusedVariables false
set_option linter.unusedSimpArgs false
set_option maxRecDepth 10000
set_option maxHeartbeats 8000000
namespace Go.Proofs.YtcobdnnfmhfenaaGreat
open Go Go.Rx Go.Num Go.Tow

theorem toL_pos {k : Nat} (x : El k) : 0 < (cl (toL k x)).length := by rw [cl_length, toL_length]; exact Nat.two_pow_pos k
theorem law06_TowerSingle_ok {W : GW} {v : Value} {t : List (List Raw)} {a b c : List Raw} {i : Int} (hv : V RCs W v (t, a, b, c)) (hb : midL b) (hc : midL c) :
    Ok Tryz.prog 5 [v, .int .i64 i] W fun _ r => r = .bool true := by
  refine Ok.enter Tryz.func5 rfl rfl rfl rfl fun W0 iEn => ?_
  refine J.seq <| J.reg rfl <| O.boxT rfl hv.to fun W2 b2 i2 hb2 => O.as rfl <| JO.nil <| J.seq <| J.seq <| J.reg rfl <| ?_
  refine O.call rfl (law06_awake_ok) fun W13 v13 i13 e13 h13 => ?_
  subst h13
  refine O.not rfl <| O.mv rfl <| O.gt rfl rfl <| O.fa rfl <| O.gt rfl rfl <| ?_
  refine O.ldTs rfl hb2.to.h.f fun p17 m17 c17 s17 => ?_
  have h17 := s17.v
  refine O.gt rfl rfl <| O.fa rfl <| O.gt rfl rfl <| ?_
  refine O.ldTs rfl hb2.to.h.s.f fun p19 m19 c19 s19 => ?_
  have h19 := s19.v
  refine O.gt rfl rfl <| O.bs (r := RE) [a] rfl ⟨h19.to, trivial⟩ rfl rfl rfl (by decide) (.inr rfl) (by decide) fun W20 p20 i20 e20 s20 => O.gt rfl rfl <| O.call rfl (ref06_Few_ok s17.to s20.to (by decide)) fun W21 v21 i21 e21 h21 => ?_
  obtain ⟨f, rfl, hf⟩ := h21
  refine O.gt rfl rfl <| O.not rfl <| O.pickF rfl rfl <| JO.nil <| J.cond rfl (fun h23 => ?_) (fun h23 => ?_)
  · skip
    refine J.seq <| J.reg rfl <| ?_
    refine O.call rfl (law06_awake_ok) fun W24 v24 i24 e24 h24 => ?_
    subst h24
    refine O.as rfl <| JO.nil <| J.ret1 rfl (.tmp rfl) fun W' iE iP => ?_
    rfl
  · skip
    have hft : f = true := by cases f <;> simp_all
    have hfew := hf.1 hft
    have ht4 := hfew.1
    have hfa : fewL a := hfew.2 a (by simp)
    have hfT : ∀ l ∈ t, fewL l := fun l hl => hfew.2 l (List.mem_append_left _ hl)
    have hst : ∀ r ∈ t, ∀ i ∈ r, smallR i := fun r hr i hi => ((hfT r hr).2 i hi).small
    have hsa : ∀ i ∈ a, smallR i := fun i hi => (hfa.2 i hi).small
    obtain ⟨bT, hbT⟩ := dec_ex (okT t)
    obtain ⟨bA, hbA⟩ := dec_ex (okT t ∧ okE (2 ^ t.length) a)
    obtain ⟨bR, hbR⟩ := dec_ex (okT t ∧ 0 ≤ i ∧ i < t.length)
    obtain ⟨L, hL1, hL2, hL⟩ := root_gen (i := i) ht4 hfT
    refine J.skip <| J.seq <| J.reg rfl <| O.ldT rfl hb2.to.h rfl rfl (fun h => nomatch h) fun v25 h25 => O.call rfl (law06_own_ok h25.to (by omega) (fun l hl => mid_few (hfT l hl)) (mid_few hfa) hb hc) fun W26 v26 i26 e26 h26 => ?_
    refine O.allocE fun W5 b5 i5 e5 hl5 hc5 hz5 => ?_
    refine O.stT rfl rfl hl5.to h26.to rfl fun Ws1 is1 hb5 F5 => ?_
    refine JO.nil <| J.seq <| J.reg rfl <| O.fa rfl <| ?_
    refine O.ldTs rfl hb2.to.h.f fun p28 m28 c28 s28 => ?_
    have h28 := s28.v
    refine O.fa rfl <| ?_
    refine O.ldTs rfl hb2.to.h.s.f fun p30 m30 c30 s30 => ?_
    have h30 := s30.v
    refine O.call rfl ((ref06_Formed_ok s28.to s30.to hst hsa (by omega)).eqB hbA) fun W31 v31 i31 e31 h31 => ?_
    subst h31
    refine O.as rfl <| JO.nil <| J.seq <| J.seq <| J.reg rfl <| O.fa rfl <| ?_
    refine O.ldTs rfl hb5.to.h.f fun p33 m33 c33 s33 => ?_
    have h33 := s33.v
    refine O.mv rfl <| ?_
    refine O.call rfl (hL s33.to) fun W35 v35 i35 e35 h35 => ?_
    obtain ⟨p35, m35, c35, rfl, s35⟩ := h35.sl
    have hm35 := s35.hn
    refine O.as rfl <| JO.nil <| J.seq <| ?_
    refine J.cut (α := Unit) (fun _ => [(1, .int .i64 i), (2, .pointer (some ⟨b2, 0, none⟩)), (5, .pointer (some ⟨b5, 0, none⟩)), (6, .bool bA), (67, .bool false)]) (fun _ W' => Le W0 W' ∧ Pt RCs W' b2 0 (t, a, b, c) ∧ Pt RCs W' b5 0 (t, a, b, c)) ?_ ?_
    · skip
      cases bR
      · skip
        refine J.cut (α := Unit) (fun _ => [(1, .int .i64 i), (2, .pointer (some ⟨b2, 0, none⟩)), (5, .pointer (some ⟨b5, 0, none⟩)), (6, .bool bA), (67, .bool false)]) (fun _ W' => Le W0 W' ∧ Pt RCs W' b2 0 (t, a, b, c) ∧ Pt RCs W' b5 0 (t, a, b, c)) ?_ ?_
        · skip
          have hr : ¬ (okT t ∧ 0 ≤ i ∧ i < t.length) := fun h => nomatch hbR.2 h
          have hL0 := hL2 hr
          have hz : m35 = 0 := by rw [hm35, hL0]; rfl
          refine J.reg rfl <| O.fa rfl <| ?_
          refine O.ldTs rfl hb2.to.h.f fun p37 m37 c37 s37 => ?_
          have h37 := s37.v
          refine O.call rfl ((ref06_Tower_ok s37.to hst (by omega)).eqB hbT) fun W38 v38 i38 e38 h38 => ?_
          subst h38
          have hm37 := s37.hn
          refine O.mv rfl <| ?_
          by_cases hg39 : bT = true
          · skip
            refine O.set (t := 39) (.bool true) rfl (by rw [hg39]) <| O.gt rfl rfl <| O.mv rfl <| O.gt rfl rfl <| O.ge rfl rfl <| O.pickT rfl rfl <| O.mv rfl <| ?_
            by_cases hg43 : 0 ≤ i
            · skip
              refine O.set (t := 43) (.bool true) rfl (by simp only [Value.bool.injEq, decide_eq_true_eq, decide_eq_false_iff_not]; omega) <| O.gt rfl rfl <| O.mv rfl <| O.gt rfl rfl <| O.fa rfl <| O.gt rfl rfl <| ?_
              refine O.ldTs rfl hb2.to.h.f fun p46 m46 c46 s46 => ?_
              have h46 := s46.v
              have hm46 := s46.hn
              refine O.gt rfl rfl <| O.len rfl <| O.gt rfl rfl <| O.lt rfl rfl <| ?_
              refine O.set (t := 48) (.bool false) rfl (by simp only [Value.bool.injEq, decide_eq_false_iff_not]; exact fun h => hr ⟨hbT.1 hg39, hg43, by omega⟩) ?_
              refine O.pickT rfl rfl <| O.mv rfl <| O.len rfl <| O.gtr rfl rfl <| ?_
              refine O.set (t := 52) (.bool false) rfl (by simp only [Value.bool.injEq, decide_eq_false_iff_not]; omega) ?_
              refine O.bne rfl rfl <| O.mv rfl <| O.gt rfl rfl <| O.mv rfl <| O.gt rfl rfl <| O.len rfl <| O.gt rfl rfl <| O.gtr rfl rfl <| ?_
              refine O.set (t := 57) (.bool false) rfl (by simp only [Value.bool.injEq, decide_eq_false_iff_not]; omega) ?_
              refine O.gt rfl rfl <| O.mv rfl <| O.gs rfl rfl rfl <| O.gs rfl rfl rfl <| O.gs rfl rfl rfl <| O.gs rfl rfl rfl <| O.gs rfl rfl rfl <| O.gs rfl rfl rfl <| O.gs rfl rfl rfl <| O.gt rfl rfl <| O.pickF rfl rfl <| O.pickF rfl rfl <| JO.nil <| ?_
              exact J.at' () ⟨rfl, rfl, rfl, rfl, rfl, trivial⟩ ⟨inferInstance, hb2.to, hb5.to⟩
            · skip
              refine O.set (t := 43) (.bool false) rfl (by simp only [Value.bool.injEq, decide_eq_true_eq, decide_eq_false_iff_not]; omega) <| O.gs rfl rfl rfl <| O.gs rfl rfl rfl <| O.gs rfl rfl rfl <| O.gs rfl rfl rfl <| O.gs rfl rfl rfl <| O.pickF rfl rfl <| O.mv rfl <| O.len rfl <| O.gtr rfl rfl <| ?_
              refine O.set (t := 52) (.bool false) rfl (by simp only [Value.bool.injEq, decide_eq_false_iff_not]; omega) ?_
              refine O.bne rfl rfl <| O.mv rfl <| O.gt rfl rfl <| O.mv rfl <| O.gt rfl rfl <| O.len rfl <| O.gt rfl rfl <| O.gtr rfl rfl <| ?_
              refine O.set (t := 57) (.bool false) rfl (by simp only [Value.bool.injEq, decide_eq_false_iff_not]; omega) ?_
              refine O.gt rfl rfl <| O.mv rfl <| O.gs rfl rfl rfl <| O.gs rfl rfl rfl <| O.gs rfl rfl rfl <| O.gs rfl rfl rfl <| O.gs rfl rfl rfl <| O.gs rfl rfl rfl <| O.gs rfl rfl rfl <| O.gt rfl rfl <| O.pickF rfl rfl <| O.pickF rfl rfl <| JO.nil <| ?_
              exact J.at' () ⟨rfl, rfl, rfl, rfl, rfl, trivial⟩ ⟨inferInstance, hb2.to, hb5.to⟩
          · skip
            refine O.set (t := 39) (.bool false) rfl (by rw [Bool.eq_false_iff.2 hg39]) <| O.gs rfl rfl rfl <| O.gs rfl rfl rfl <| O.pickF rfl rfl <| O.mv rfl <| O.gs rfl rfl rfl <| O.gs rfl rfl rfl <| O.gs rfl rfl rfl <| O.gs rfl rfl rfl <| O.gs rfl rfl rfl <| O.pickF rfl rfl <| O.mv rfl <| O.len rfl <| O.gtr rfl rfl <| ?_
            refine O.set (t := 52) (.bool false) rfl (by simp only [Value.bool.injEq, decide_eq_false_iff_not]; omega) ?_
            refine O.bne rfl rfl <| O.mv rfl <| O.gt rfl rfl <| O.mv rfl <| O.gt rfl rfl <| O.len rfl <| O.gt rfl rfl <| O.gtr rfl rfl <| ?_
            refine O.set (t := 57) (.bool false) rfl (by simp only [Value.bool.injEq, decide_eq_false_iff_not]; omega) ?_
            refine O.gt rfl rfl <| O.mv rfl <| O.gs rfl rfl rfl <| O.gs rfl rfl rfl <| O.gs rfl rfl rfl <| O.gs rfl rfl rfl <| O.gs rfl rfl rfl <| O.gs rfl rfl rfl <| O.gs rfl rfl rfl <| O.gt rfl rfl <| O.pickF rfl rfl <| O.pickF rfl rfl <| JO.nil <| ?_
            exact J.at' () ⟨rfl, rfl, rfl, rfl, rfl, trivial⟩ ⟨inferInstance, hb2.to, hb5.to⟩
        · skip
          rintro ⟨⟩ Wk ⟨_, hb2, hb5⟩
          exact J.at' () ⟨rfl, rfl, rfl, rfl, rfl, trivial⟩ ⟨inferInstance, hb2.to, hb5.to⟩
      · skip
        refine J.cut (α := Unit) (fun _ => [(1, .int .i64 i), (2, .pointer (some ⟨b2, 0, none⟩)), (5, .pointer (some ⟨b5, 0, none⟩)), (6, .bool bA), (67, .bool false)]) (fun _ W' => Le W0 W' ∧ Pt RCs W' b2 0 (t, a, b, c) ∧ Pt RCs W' b5 0 (t, a, b, c)) ?_ ?_
        · skip
          have hr := hbR.1 rfl
          have hT1 := hbT.2 hr.1
          obtain ⟨j, rfl⟩ : ∃ j : Nat, i = j := ⟨i.toNat, by omega⟩
          obtain ⟨w, hw, hLw⟩ := hL1 hr
          have hpos : 0 < m35 := by rw [hm35, hLw]; exact toL_pos _
          refine J.reg rfl <| O.fa rfl <| ?_
          refine O.ldTs rfl hb2.to.h.f fun p37 m37 c37 s37 => ?_
          have h37 := s37.v
          refine O.call rfl ((ref06_Tower_ok s37.to hst (by omega)).eqB hbT) fun W38 v38 i38 e38 h38 => ?_
          subst h38
          have hm37 := s37.hn
          refine O.set (t := 38) (.bool true) rfl (by rw [hT1]) ?_
          refine O.mv rfl <| O.gt rfl rfl <| O.mv rfl <| O.gt rfl rfl <| O.ge rfl rfl <| ?_
          refine O.set (t := 41) (.bool true) rfl (by simp) ?_
          refine O.pickT rfl rfl <| O.mv rfl <| O.gt rfl rfl <| O.mv rfl <| O.gt rfl rfl <| O.fa rfl <| O.gt rfl rfl <| ?_
          refine O.ldTs rfl hb2.to.h.f fun p46 m46 c46 s46 => ?_
          have h46 := s46.v
          have hm46 := s46.hn
          refine O.gt rfl rfl <| O.len rfl <| O.gt rfl rfl <| O.lt rfl rfl <| ?_
          refine O.set (t := 48) (.bool true) rfl (by simp only [Value.bool.injEq, decide_eq_true_eq]; omega) ?_
          refine O.pickT rfl rfl <| O.mv rfl <| O.len rfl <| O.gtr rfl rfl <| ?_
          refine O.set (t := 52) (.bool true) rfl (by simp only [Value.bool.injEq, decide_eq_true_eq]; omega) ?_
          refine O.bne rfl rfl <| O.mv rfl <| O.gt rfl rfl <| O.mv rfl <| O.gt rfl rfl <| O.len rfl <| O.gt rfl rfl <| O.gtr rfl rfl <| ?_
          refine O.set (t := 57) (.bool true) rfl (by simp only [Value.bool.injEq, decide_eq_true_eq]; omega) ?_
          refine O.gt rfl rfl <| O.mv rfl <| O.gt rfl rfl <| O.mv rfl <| O.gt rfl rfl <| O.fa rfl <| O.gt rfl rfl <| ?_
          refine O.ldTs rfl hb2.to.h.f fun p61 m61 c61 s61 => ?_
          have h61 := s61.v
          rw [hw] at s61
          refine O.gt rfl rfl <| O.mv rfl <| O.gt rfl rfl <| ?_
          refine O.call rfl (ref06_Root_ok s61.to (by omega) (by omega)) fun W63 v63 i63 e63 h63 => ?_
          obtain ⟨p63, m63, c63, rfl, s63⟩ := h63.sl
          refine O.gt rfl rfl <| O.call rfl (ref06_Same_ok s35.to s63.to) fun W64 v64 i64 e64 h64 => ?_
          obtain rfl := same_t h64 (by rw [hLw]; rfl)
          refine O.gt rfl rfl <| O.not rfl <| O.gt rfl rfl <| O.pickT rfl rfl <| O.pickF rfl rfl <| JO.nil <| ?_
          exact J.at' () ⟨rfl, rfl, rfl, rfl, rfl, trivial⟩ ⟨inferInstance, hb2.to, hb5.to⟩
        · skip
          rintro ⟨⟩ Wk ⟨_, hb2, hb5⟩
          exact J.at' () ⟨rfl, rfl, rfl, rfl, rfl, trivial⟩ ⟨inferInstance, hb2.to, hb5.to⟩
    · skip
      rintro ⟨⟩ Wk ⟨_, hb2, hb5⟩
      refine J.condF rfl <| J.skip <| J.seq <| J.seq <| J.reg rfl <| O.mv rfl <| O.not rfl <| JO.nil <| J.cond rfl (fun h69 => ?_) (fun h69 => ?_)
      · skip
        have hno : ¬ (okT t ∧ okE (2 ^ t.length) a) := fun h => by rw [hbA.2 h] at h69; cases h69
        refine J.seq <| J.reg rfl <| O.fa rfl <| ?_
        refine O.ldTs rfl hb5.to.h.f fun p72 m72 c72 s72 => ?_
        have h72 := s72.v
        refine O.fa rfl <| ?_
        refine O.ldTs rfl hb5.to.h.s.f fun p74 m74 c74 s74 => ?_
        have h74 := s74.v
        refine O.call rfl (tower_Inv_nil s72.to s74.to hst hsa (by omega) hno) fun W75 v75 i75 e75 h75 => ?_
        obtain ⟨v76, rfl, h76⟩ := h75
        refine O.mv rfl <| O.ext rfl rfl <| O.ext rfl rfl <| O.as rfl <| O.as rfl <| JO.nil <| J.seq <| J.reg rfl <| O.fa rfl <| ?_
        refine O.ldTs rfl hb5.to.h.f fun p80 m80 c80 s80 => ?_
        have h80 := s80.v
        refine O.fa rfl <| ?_
        refine O.ldTs rfl hb5.to.h.s.f fun p82 m82 c82 s82 => ?_
        have h82 := s82.v
        refine O.mv rfl <| O.call rfl (tower_Conjugate_nil s80.to s82.to hst hsa (by omega) hno) fun W84 v84 i84 e84 h84 => ?_
        obtain ⟨v85, rfl, h85⟩ := h84
        refine O.mv rfl <| O.ext rfl rfl <| O.ext rfl rfl <| O.as rfl <| O.as rfl <| JO.nil <| J.seq <| ?_
        refine J.drawQ [87, 88, 89, 90, 91, 92, 93, 94, 95, 96, 97, 98, 99, 100, 101, 102, 103, 104] [[], [(0, 87)], [], [(2, 89)], [(1, 88), (3, 90)], [(4, 91)], [], [(6, 93)], [], [(8, 95)], [(7, 94), (9, 96), (4, 91)], [(10, 97)], [(5, 92), (11, 98)], [], [(13, 100)], [(12, 99), (14, 101)], [], [(16, 103)]] [0, 1, 0, 1, 2, 3, 0, 1, 0, 1, 3, 4, 5, 0, 1, 6, 0, 1] [1, 4, 3, 4, 10, 12, 7, 10, 9, 10, 11, 12, 15, 14, 15, 18, 17, 18] [.ex _, .rel _, .ex _, .rel _, .rel _, .ex _, .ex _, .rel _, .ex _, .rel _, .rel _, .ex _, .ex _, .ex _, .ex _, .ex _, .ex _, .ex _] [false, false, false, false, false, false, false, false, false, false, false, false, false, false, false, false, false, false] (by decide +kernel) rfl rfl rfl ⟨fun Wd id ed Lq hLq _ => O.fa rfl <| D.ex, fun Wd id ed Lq hLq _ => O.ldTD rfl hb5.to.h.f rfl rfl (fun _ => rfl), fun Wd id ed Lq hLq _ => O.fa rfl <| D.ex, fun Wd id ed Lq hLq _ => O.ldTD rfl hb5.to.h.s.f rfl rfl (fun _ => rfl), fun Wd id ed Lq hLq _ => fun v88 h88 => fun v90 h90 => (by obtain ⟨p88, m88, c88, rfl, s88⟩ := h88.sl; obtain ⟨p90, m90, c90, rfl, s90⟩ := h90.sl; exact O.call rfl (tower_Neg_nil s88 s90 hst hsa (by omega) hno) fun Wd vd id ed hd => D.rel ed hd V.me), fun Wd id ed Lq hLq _ => fun v91 h91 => O.lenV (m := 0) rfl h91 rfl <| D.ex, fun Wd id ed Lq hLq _ => O.fa rfl <| D.ex, fun Wd id ed Lq hLq _ => O.ldTD rfl hb5.to.h.f rfl rfl (fun _ => rfl), fun Wd id ed Lq hLq _ => O.fa rfl <| D.ex, fun Wd id ed Lq hLq _ => O.ldTD rfl hb5.to.h.s.f rfl rfl (fun _ => rfl), fun Wd id ed Lq hLq _ => fun v94 h94 => fun v96 h96 => fun v91 h91 => (by obtain ⟨p94, m94, c94, rfl, s94⟩ := h94.sl; obtain ⟨p96, m96, c96, rfl, s96⟩ := h96.sl; obtain ⟨p91, m91, c91, rfl, s91⟩ := h91.sl; exact O.call rfl (tower_Norm_nil s94 s96 hst hsa (by omega) (.inl hno)) fun Wd vd id ed hd => D.rel ed hd V.me), fun Wd id ed Lq hLq _ => fun v97 h97 => O.lenV (m := 0) rfl h97 rfl <| D.ex, fun Wd id ed Lq hLq _ => O.add rfl rfl (wI (by omega)) <| D.ex, fun Wd id ed Lq hLq _ => O.mv rfl <| D.ex, fun Wd id ed Lq hLq _ => O.lenV (m := 0) rfl h76.to rfl <| D.ex, fun Wd id ed Lq hLq _ => O.add rfl rfl (wI (by omega)) <| D.ex, fun Wd id ed Lq hLq _ => O.mv rfl <| D.ex, fun Wd id ed Lq hLq _ => O.lenV (m := 0) rfl h85.to rfl <| D.ex, trivial⟩ ?_
        intro Wr11 ir11 er11 v88 h88 v90 h90 v91 h91 v94 h94 v96 h96 v97 h97
        refine O.add rfl rfl (wI (by omega)) <| O.eq rfl rfl <| O.mv rfl <| O.gt rfl rfl <| O.mv rfl <| O.gt rfl rfl <| O.eq rfl rfl <| O.pickT rfl rfl <| O.mv rfl <| O.gt rfl rfl <| O.mv rfl <| O.gt rfl rfl <| O.not rfl <| O.pickT rfl rfl <| O.as rfl <| JO.nil <| J.ret1 rfl (.tmp rfl) fun W' iE iP => ?_
        rfl
      · skip
        have hyes : okT t ∧ okE (2 ^ t.length) a := hbA.1 (by cases bA <;> simp_all)
        refine J.skip <| J.seq <| J.seq <| ?_
        obtain ⟨k, w, x, hk, rfl, rfl, hT, hx⟩ := formed1 ht4 hfT hfa hyes
        obtain ⟨bZ, hbZ⟩ := dec_ex (k = 0)
        refine J.draw [.ex _, .rel _, .ex _, .rel _, .rel _, .ex _, .rel _, .ex _, .rel _] rfl rfl ⟨fun Wd id ed _ => O.fa rfl <| D.ex, fun Wd id ed _ => O.ldTD rfl hb5.to.h.f rfl rfl (fun _ => rfl), fun Wd id ed _ => O.fa rfl <| D.ex, fun Wd id ed _ => O.ldTD rfl hb5.to.h.s.f rfl rfl (fun _ => rfl), fun Wd id ed _ => fun v116 h116 => fun v118 h118 => (by obtain ⟨p116, m116, c116, rfl, s116⟩ := h116.sl; obtain ⟨p118, m118, c118, rfl, s118⟩ := h118.sl; exact O.call rfl (tower_Neg_ok s116 s118 hT hx (by omega) (by decide) (by decide)) fun Wd vd id ed hd => D.rel ed hd V.me), fun Wd id ed _ => O.fa rfl <| D.ex, fun Wd id ed _ => O.ldTD rfl hb2.to.h.f rfl rfl (fun _ => rfl), fun Wd id ed _ => O.fa rfl <| D.ex, fun Wd id ed _ => O.ldTD rfl hb2.to.h.s.f rfl rfl (fun _ => rfl), trivial⟩ ?_
        intro Wr12 ir12 er12 v116 h116 v118 h118 v119 h119 v121 h121 v123 h123
        obtain ⟨p116, m116, c116, rfl, s116⟩ := h116.sl
        obtain ⟨p118, m118, c118, rfl, s118⟩ := h118.sl
        obtain ⟨p119, m119, c119, rfl, s119⟩ := h119.sl
        obtain ⟨p121, m121, c121, rfl, s121⟩ := h121.sl
        obtain ⟨p123, m123, c123, rfl, s123⟩ := h123.sl
        refine O.call rfl ((ref06_Neg_own s123 (by have := s123.hn; rw [cl_length, toL_length] at this; have := pow_le (k := k) (by omega); omega)).own) fun W124 v124 i124 e124 h124 => ?_
        obtain ⟨p124, m124, c124, rfl, s124⟩ := h124.sl
        refine O.call rfl (ref06_Same_ok s119.to s124.to) fun W125 v125 i125 e125 h125 => ?_
        obtain rfl := same_t h125 (by rw [toL_neg])
        refine O.not rfl <| JO.nil <| J.condF rfl <| J.skip <| J.seq <| ?_
        cases bZ
        · skip
          obtain ⟨j, rfl⟩ : ∃ j, k = j + 1 := ⟨k - 1, by have : k ≠ 0 := fun h => (nomatch hbZ.2 h); omega⟩
          refine J.reg rfl <| O.fa rfl <| ?_
          refine O.ldTs rfl hb5.to.h.f fun p128 m128 c128 s128 => ?_
          have h128 := s128.v
          refine O.fa rfl <| ?_
          refine O.ldTs rfl hb5.to.h.s.f fun p130 m130 c130 s130 => ?_
          have h130 := s130.v
          refine O.call rfl (tower_Norm_ok s128.to s130.to hT hx (by omega) (by have := @nB4 j 2049 (by omega); omega) (by decide)) fun W131 v131 i131 e131 h131 => ?_
          obtain ⟨p131, m131, c131, rfl, s131⟩ := h131.sl
          refine O.as rfl <| JO.nil <| J.seq <| J.reg rfl <| O.fa rfl <| ?_
          refine O.ldTs rfl hb2.to.h.f fun p133 m133 c133 s133 => ?_
          have h133 := s133.v
          have hm133 := s133.hn
          rw [ct_length] at hm133
          refine O.len rfl <| O.eq rfl rfl <| ?_
          refine O.set (t := 135) (.bool false) rfl (by simp only [Value.bool.injEq, decide_eq_false_iff_not]; omega) ?_
          refine O.mv rfl <| O.gs rfl rfl rfl <| O.gs rfl rfl rfl <| O.gs rfl rfl rfl <| O.pickF rfl rfl <| O.mv rfl <| O.gt rfl rfl <| O.fa rfl <| O.gt rfl rfl <| ?_
          refine O.ldTs rfl hb2.to.h.f fun p143 m143 c143 s143 => ?_
          have h143 := s143.v
          have hm143 := s143.hn
          rw [ct_length] at hm143
          refine O.gt rfl rfl <| O.len rfl <| O.gt rfl rfl <| O.gtr rfl rfl <| ?_
          refine O.set (t := 145) (.bool true) rfl (by simp only [Value.bool.injEq, decide_eq_true_eq]; omega) ?_
          refine O.gt rfl rfl <| O.mv rfl <| O.gt rfl rfl <| O.mv rfl <| O.gt rfl rfl <| O.fa rfl <| O.gt rfl rfl <| ?_
          refine O.ldTs rfl hb2.to.h.f fun p149 m149 c149 s149 => ?_
          have h149 := s149.v
          refine O.gt rfl rfl <| O.fa rfl <| O.gt rfl rfl <| ?_
          refine O.ldTs rfl hb2.to.h.s.f fun p151 m151 c151 s151 => ?_
          have h151 := s151.v
          refine O.gt rfl rfl <| ?_
          refine O.call rfl ((ref06_Norm_own s149.to s151.to hT hx (by omega) (by have := @nB4 j 2049 (by omega); omega)).own) fun W152 v152 i152 e152 h152 => ?_
          obtain ⟨p152, m152, c152, rfl, s152⟩ := h152.sl
          refine O.gt rfl rfl <| O.call rfl (ref06_Same_ok s131.to s152.to) fun W153 v153 i153 e153 h153 => ?_
          obtain rfl := same_t h153 rfl
          refine O.gt rfl rfl <| O.pickT rfl rfl <| O.pickF rfl rfl <| O.as rfl <| JO.nil <| J.ret1 rfl (.tmp rfl) fun W' iE iP => ?_
          rfl
        · skip
          obtain rfl := hbZ.1 rfl
          refine J.reg rfl <| O.fa rfl <| ?_
          refine O.ldTs rfl hb5.to.h.f fun p128 m128 c128 s128 => ?_
          have h128 := s128.v
          refine O.fa rfl <| ?_
          refine O.ldTs rfl hb5.to.h.s.f fun p130 m130 c130 s130 => ?_
          have h130 := s130.v
          refine O.call rfl (tower_Norm_nil s128.to s130.to hst hsa (by omega) (.inr rfl)) fun W131 v131 i131 e131 h131 => ?_
          obtain ⟨p131, m131, c131, rfl, s131⟩ := h131.sl
          have hm131 : m131 = 0 := s131.hn
          refine O.as rfl <| JO.nil <| J.seq <| J.reg rfl <| O.fa rfl <| ?_
          refine O.ldTs rfl hb2.to.h.f fun p133 m133 c133 s133 => ?_
          have h133 := s133.v
          have hm133 := s133.hn
          rw [ct_length] at hm133
          refine O.len rfl <| O.eq rfl rfl <| ?_
          refine O.set (t := 135) (.bool true) rfl (by simp only [Value.bool.injEq, decide_eq_true_eq]; omega) ?_
          refine O.mv rfl <| O.gt rfl rfl <| O.mv rfl <| O.gt rfl rfl <| O.len rfl <| O.gt rfl rfl <| O.eq rfl rfl <| ?_
          refine O.set (t := 139) (.bool true) rfl (by simp only [Value.bool.injEq, decide_eq_true_eq]; omega) ?_
          refine O.pickT rfl rfl <| O.mv rfl <| O.gs rfl rfl rfl <| O.gs rfl rfl rfl <| O.gs rfl rfl rfl <| O.gs rfl rfl rfl <| O.gs rfl rfl rfl <| O.gu rfl rfl <| O.gu rfl rfl <| O.gu rfl rfl <| O.gu rfl rfl <| O.gu rfl rfl <| O.gu rfl rfl <| O.gu rfl rfl <| O.gs rfl rfl rfl <| O.pickT rfl rfl <| O.as rfl <| JO.nil <| J.ret1 rfl (.tmp rfl) fun W' iE iP => ?_
          rfl
end Go.Proofs.YtcobdnnfmhfenaaGreat
