/- Rational square roots and fractions, of the program and of the reference. -/
import Derived.Test.YtcaikjefkkejbaaGreatSb
import Derived.Test.YtcaikjefkkejbaaGreatUg
import Derived.Test.YtcaikjefkkejbaaGreatRc
import Derived.Test.YtcaikjefkkejbaaGreatRl
import Derived.Test.YtcaikjefkkejbaaGreatIdt
import Derived.Test.YtcaikjefkkejbaaGreatTb
set_option linter.unusedVariables false
set_option linter.unusedSimpArgs false
set_option maxRecDepth 10000
set_option maxHeartbeats 4000000
namespace Go.Proofs.YtcaikjefkkejbaaGreat
open Go Go.Rx Go.Num Go.Tow
section
theorem integer_Sqrt_neg {W : GW} {v : Value} {z : Int} (h : V RI W v (ci z)) (hz : z < 0) :
    Ok Tryz.prog 144 [v] W fun W' r => ∃ v1, r = .tuple #[v1, .int .i64 7] ∧ V RI W' v1 (ci 0) := by
  have hc : cmpI z 0 = -1 := by rcases cmpI_tri z 0 with ⟨g1, g2⟩ | ⟨g1, g2⟩ | ⟨g1, g2⟩ <;> omega
  refine Ok.enter Tryz.func144 rfl rfl rfl rfl fun W0 iEn => ?_
  refine J.seq <| J.reg rfl <| O.boxT rfl h.to fun W1 b1 i1 hb1 => ?_
  refine O.allocE fun W2 b2 i2 e2 hl2 hc2 hz2 => ?_
  refine O.as rfl <| JO.nil <| J.seq <| J.seq <| J.reg rfl <| O.ldT rfl hb1.to.h rfl rfl (fun h => nomatch h) fun v9 h9 => ?_
  refine O.call rfl (integer_Sign_ok h9.to) fun W10 v10 i10 e10 h10 => ?_
  subst h10
  refine JO.nil <| J.block <| J.seq <| J.reg rfl <| O.eq rfl rfl <| O.as rfl <| JO.nil <| J.condD rfl (fun h11 => ?_) (fun h11 => ?_)
  · skip
    refine J.seq <| J.reg rfl <| O.bld0 <| ?_
    refine O.stT rfl rfl hl2.to (mkI (nil_sl _ _ _)) rfl fun Ws1 is1 hb2 F2 => ?_
    refine O.as rfl <| JO.nil <| J.retTv rfl rfl hb2.to.h rfl rfl rfl fun W' v' iE iP hv' => ?_
    rw [ci_zero]
    exact ⟨_, rfl, hv'.to⟩
  · skip
    exact absurd hc h11 -- done
def rtz (z : Int) : Int := if z < 0 then 0 else (rt z.natAbs : Int)
theorem rtz_nn {z : Int} (h : ¬ z < 0) : rtz z = (rt z.natAbs : Int) := if_neg h
theorem rt_le (n : Nat) : rt n ≤ n := by
  have h := (rt_spec n).1
  rcases Nat.eq_zero_or_pos (rt n) with h0 | h0
  · omega
  · exact Nat.le_trans (Nat.le_mul_of_pos_right _ h0) h
theorem rational_root_neg {W : GW} {v : Value} {z : Int} (h : V RI W v (ci z)) (hz : z < 0) :
    Ok Tryz.prog 115 [v] W fun W' r => ∃ v1 b, r = .tuple #[v1, .bool b] ∧ (b = true ↔ 0 ≤ z ∧ sqN z.natAbs) ∧ V RI W' v1 (ci (rtz z)) := by
  refine Ok.enter Tryz.func115 rfl rfl rfl rfl fun W0 iEn => ?_
  refine J.seq <| J.reg rfl <| O.boxT rfl h.to fun W1 b1 i1 hb1 => ?_
  refine O.allocE fun W2 b2 i2 e2 hl2 hc2 hz2 => ?_
  refine O.as rfl <| JO.nil <| J.seq <| J.reg rfl <| O.ldT rfl hb1.to.h rfl rfl (fun h => nomatch h) fun v7 h7 => O.call rfl (integer_Sqrt_neg h7.to hz) fun W8 v8 i8 e8 h8 => ?_
  obtain ⟨v9, rfl, h9⟩ := h8
  refine O.mv rfl <| O.ext rfl rfl <| O.ext rfl rfl <| ?_
  refine O.allocE fun W4 b4 i4 e4 hl4 hc4 hz4 => ?_
  have n2_4 : b2 ≠ b4 := Nat.ne_of_lt (Nat.lt_of_lt_of_le (by exact hl2.to.lt) hz4)
  refine O.stT rfl rfl hl4.to h9.to rfl fun Ws1 is1 hb4 F4 => ?_
  have hl2 := F4.loc hl2.to n2_4
  refine O.as rfl <| JO.nil <| J.seq <| ?_
  refine J.drawM [.rel _, .ex _, .ex _, .ex _, .ex _, .ex _, .ex _, .ex _, .ex _, .ex _, .ex _] [false, false, false, false, false, false, false, false, false, false, false] 11 [9, 10] [([], [[12]]), ([10], [[10, 12]]), ([9, 10], [[9, 10, 12]])] (by decide +kernel) rfl rfl ⟨fun Wd id ed _ => O.ldTD rfl hb4.to.h rfl rfl (fun h => nomatch h), fun Wd id ed _ => O.mv rfl <| D.ex, fun Wd id ed _ => O.eq rfl rfl <| D.ex, fun Wd id ed _ => O.mv rfl <| D.ex, fun Wd id ed _ => O.gs rfl rfl rfl <| D.ex, fun Wd id ed _ => O.gs rfl rfl rfl <| D.ex, fun Wd id ed _ => O.gs rfl rfl rfl <| D.ex, fun Wd id ed _ => O.gs rfl rfl rfl <| D.ex, fun Wd id ed _ => O.gs rfl rfl rfl <| D.ex, fun Wd id ed _ => O.gs rfl rfl rfl <| D.ex, fun Wd id ed _ => O.pickF rfl rfl <| D.ex, trivial⟩ ⟨⟨?_, trivial⟩, ⟨?_, trivial⟩, ⟨?_, trivial⟩, trivial⟩
  · skip
    intro Wr2 ir2 er2 v11 h11
    refine O.stT rfl rfl hl2.to h11.to rfl fun Ws2 is2 hb2 F2 => ?_
    refine O.as rfl <| JO.nil <| J.retTv rfl rfl hb2.to.h rfl rfl rfl fun W' v' iE iP hv' => ?_
    refine ⟨_, _, rfl, ⟨fun h => (nomatch h), fun h => by omega⟩, ?_⟩
    rw [show rtz z = 0 from if_pos hz]
    exact hv'.to
  · skip
    intro Wr2 ir2 er2 v11 h11
    refine O.stT rfl rfl hl2.to h11.to rfl fun Ws3 is3 hb2 F2 => ?_
    refine O.pickF rfl rfl <| O.as rfl <| JO.nil <| J.retTv rfl rfl hb2.to.h rfl rfl rfl fun W' v' iE iP hv' => ?_
    refine ⟨_, _, rfl, ⟨fun h => (nomatch h), fun h => by omega⟩, ?_⟩
    rw [show rtz z = 0 from if_pos hz]
    exact hv'.to
  · skip
    intro Wr2 ir2 er2 v11 h11
    refine O.stT rfl rfl hl2.to h11.to rfl fun Ws4 is4 hb2 F2 => ?_
    refine O.gs rfl rfl rfl <| O.pickF rfl rfl <| O.as rfl <| JO.nil <| J.retTv rfl rfl hb2.to.h rfl rfl rfl fun W' v' iE iP hv' => ?_
    refine ⟨_, _, rfl, ⟨fun h => (nomatch h), fun h => by omega⟩, ?_⟩
    rw [show rtz z = 0 from if_pos hz]
    exact hv'.to
theorem rational_root_ok {W : GW} {v : Value} {z : Int} (h : V RI W v (ci z)) (hl : (dig z.natAbs).length ≤ 549755813888) :
    Ok Tryz.prog 115 [v] W fun W' r => ∃ v1 b, r = .tuple #[v1, .bool b] ∧ (b = true ↔ 0 ≤ z ∧ sqN z.natAbs) ∧ V RI W' v1 (ci (rtz z)) := by
  by_cases hz : z < 0
  · exact rational_root_neg h hz
  obtain ⟨a, rfl⟩ : ∃ a : Nat, z = (a : Int) := ⟨z.natAbs, by omega⟩
  rw [Int.natAbs_natCast] at hl ⊢
  have hrl : (dig (rt a : Int).natAbs).length ≤ 549755813888 := by rw [Int.natAbs_natCast]; exact Nat.le_trans (len_mono (rt_le a)) hl
  have hra : rtz (a : Int) = (rt a : Int) := by rw [rtz_nn hz, Int.natAbs_natCast]
  rw [hra]
  refine Ok.enter Tryz.func115 rfl rfl rfl rfl fun W0 iEn => ?_
  refine J.seq <| J.reg rfl <| O.boxT rfl h.to fun W1 b1 i1 hb1 => ?_
  refine O.allocE fun W2 b2 i2 e2 hl2 hc2 hz2 => ?_
  refine O.as rfl <| JO.nil <| J.seq <| J.reg rfl <| O.ldT rfl hb1.to.h rfl rfl (fun h => nomatch h) fun v7 h7 => O.call rfl (integer_Sqrt_ok h7.to hl) fun W8 v8 i8 e8 h8 => ?_
  obtain ⟨v9, rfl, h9⟩ := h8
  refine O.mv rfl <| O.ext rfl rfl <| O.ext rfl rfl <| ?_
  refine O.allocE fun W4 b4 i4 e4 hl4 hc4 hz4 => ?_
  have n2_4 : b2 ≠ b4 := Nat.ne_of_lt (Nat.lt_of_lt_of_le (by exact hl2.to.lt) hz4)
  refine O.stT rfl rfl hl4.to h9.to rfl fun Ws1 is1 hb4 F4 => ?_
  have hl2 := F4.loc hl2.to n2_4
  refine O.as rfl <| JO.nil <| J.seq <| ?_
  refine J.drawM [.rel _, .ex _, .ex _, .ex _, .rel _, .rel _, .rel _, .rel _, .ex _, .ex _, .ex _] [false, false, false, false, false, false, false, false, false, false, false] 11 [9, 10] [([], [[12]]), ([10], [[10, 12]]), ([9, 10], [[9, 10, 12]])] (by decide +kernel) rfl rfl ⟨fun Wd id ed _ => O.ldTD rfl hb4.to.h rfl rfl (fun h => nomatch h), fun Wd id ed _ => O.mv rfl <| D.ex, fun Wd id ed _ => O.eq rfl rfl <| D.ex, fun Wd id ed _ => O.mv rfl <| D.ex, fun Wd id ed _ => O.gt rfl rfl <| O.ldTD rfl hb4.to.h rfl rfl (fun h => nomatch h), fun Wd id ed _ => O.gt rfl rfl <| O.ldTD rfl hb4.to.h rfl rfl (fun h => nomatch h), fun Wd id ed _ => fun v15 h15 => fun v16 h16 => O.gt rfl rfl <| O.call rfl (integer_Mul_ok h15 h16 (by omega) (by omega)) fun Wd vd id ed hd => D.rel ed hd V.me, fun Wd id ed _ => O.gt rfl rfl <| O.ldTD rfl hb1.to.h rfl rfl (fun h => nomatch h), fun Wd id ed _ => fun _ _ => fun v18 h18 => fun v17 h17 => O.gt rfl rfl <| O.call rfl (integer_Cmp_ok h17 h18) fun Wd vd id ed hd => D.eq ed hd, fun Wd id ed _ => O.gt rfl rfl <| O.eq rfl rfl <| D.ex, fun Wd id ed _ => O.pickT rfl rfl <| D.ex, trivial⟩ ⟨⟨?_, trivial⟩, ⟨?_, trivial⟩, ⟨?_, trivial⟩, trivial⟩
  · skip
    intro Wr2 ir2 er2 v11 h11 v15 h15 v16 h16 v17 h17 v18 h18
    refine O.stT rfl rfl hl2.to h11.to rfl fun Ws2 is2 hb2 F2 => ?_
    refine O.as rfl <| JO.nil <| J.retTv rfl rfl hb2.to.h rfl rfl rfl fun W' v' iE iP hv' => ?_
    refine ⟨_, _, rfl, ?_, hv'.to⟩
    rw [decide_eq_true_eq]
    unfold sqN
    rcases cmpI_tri ((rt a : Int) * (rt a : Int)) (a : Int) with ⟨g1, g2⟩ | ⟨g1, g2⟩ | ⟨g1, g2⟩ <;> rw [g2]
    · rw [← Int.natCast_mul] at g1; omega
    · rw [← Int.natCast_mul] at g1; omega
    · rw [← Int.natCast_mul] at g1; omega
  · skip
    intro Wr2 ir2 er2 v11 h11 v15 h15 v16 h16 v17 h17 v18 h18
    refine O.stT rfl rfl hl2.to h11.to rfl fun Ws3 is3 hb2 F2 => ?_
    refine O.pickT rfl rfl <| O.as rfl <| JO.nil <| J.retTv rfl rfl hb2.to.h rfl rfl rfl fun W' v' iE iP hv' => ?_
    refine ⟨_, _, rfl, ?_, hv'.to⟩
    rw [decide_eq_true_eq]
    unfold sqN
    rcases cmpI_tri ((rt a : Int) * (rt a : Int)) (a : Int) with ⟨g1, g2⟩ | ⟨g1, g2⟩ | ⟨g1, g2⟩ <;> rw [g2]
    · rw [← Int.natCast_mul] at g1; omega
    · rw [← Int.natCast_mul] at g1; omega
    · rw [← Int.natCast_mul] at g1; omega
  · skip
    intro Wr2 ir2 er2 v11 h11 v15 h15 v16 h16 v17 h17 v18 h18
    refine O.stT rfl rfl hl2.to h11.to rfl fun Ws4 is4 hb2 F2 => ?_
    refine O.gt rfl rfl <| O.eq rfl rfl <| O.pickT rfl rfl <| O.as rfl <| JO.nil <| J.retTv rfl rfl hb2.to.h rfl rfl rfl fun W' v' iE iP hv' => ?_
    refine ⟨_, _, rfl, ?_, hv'.to⟩
    rw [decide_eq_true_eq]
    unfold sqN
    rcases cmpI_tri ((rt a : Int) * (rt a : Int)) (a : Int) with ⟨g1, g2⟩ | ⟨g1, g2⟩ | ⟨g1, g2⟩ <;> rw [g2]
    · rw [← Int.natCast_mul] at g1; omega
    · rw [← Int.natCast_mul] at g1; omega
    · rw [← Int.natCast_mul] at g1; omega
/-- what a rational square root returns -/
def SqR (q : Rat) (W : GW) (v : Value) (b : Bool) : Prop := ∃ i : Raw, V RQ W v i ∧ ((b = true ∧ ∃ x, x * x = q ∧ i = cq x) ∨ (b = false ∧ ¬ ∃ x, x * x = q))
theorem den_nn (q : Rat) : 0 ≤ (q.den : Int) := Int.natCast_nonneg _
theorem sq_yes {q : Rat} (h1 : 0 ≤ q.num ∧ sqN q.num.natAbs) (h2 : sqN (q.den : Int).natAbs) : ∃ x, x * x = q ∧ (ci (rtz q.num), ci (rtz (q.den : Int))) = cq x := by
  obtain ⟨x, e1, e2, e3⟩ := sqQ_some h1.1 h1.2 h2
  refine ⟨x, e3, ?_⟩
  rw [cq, e1, e2, rtz_nn (by omega), rtz_nn (by have := den_nn q; omega), Int.natAbs_natCast]
theorem Zs.len2 {p : Nat} {z : Int} (h : Zs p z) (hp : p ≤ 8796093022208) : (dig z.natAbs).length ≤ 549755813888 := by
  refine Nat.le_trans (dig_len_le (k := p / 32 + 1) (Nat.lt_of_lt_of_le h ?_)) (by omega)
  rw [show (4294967296 : Nat) = 2 ^ 32 from rfl, ← Nat.pow_mul]
  exact Nat.pow_le_pow_right (by decide) (by omega)
theorem rational_Sqrt_ok {W : GW} {v : Value} {q : Rat} {p : Nat} (h : V RQ W v (cq q)) (hq : Qs p q) (hp : p ≤ 8796093022208) :
    Ok Tryz.prog 80 [v] W fun W' r => ∃ v1 b, r = .tuple #[v1, .bool b] ∧ SqR q W' v1 b := by
  have hq1 := hq.n.len2 hp
  have hq2 := hq.d.len2 hp
  refine Ok.enter Tryz.func80 rfl rfl rfl rfl fun W0 iEn => ?_
  refine J.seq <| J.reg rfl <| O.boxT rfl h.to fun W1 b1 i1 hb1 => ?_
  refine O.allocE fun W2 b2 i2 e2 hl2 hc2 hz2 => ?_
  refine O.as rfl <| JO.nil <| J.seq <| J.reg rfl <| O.fa rfl <| O.ldT (r := RI) rfl hb1.to.h.f rfl rfl (fun h => nomatch h) fun v10 h10 => O.call rfl (rational_root_ok h10.to hq1) fun W11 v11 i11 e11 h11 => ?_
  obtain ⟨v12, b5, rfl, hb5, h12⟩ := h11
  refine O.mv rfl <| O.ext rfl rfl <| O.ext rfl rfl <| ?_
  refine O.allocE fun W4 b4 i4 e4 hl4 hc4 hz4 => ?_
  have n2_4 : b2 ≠ b4 := Nat.ne_of_lt (Nat.lt_of_lt_of_le (by exact hl2.to.lt) hz4)
  refine O.stT rfl rfl hl4.to h12.to rfl fun Ws1 is1 hb4 F4 => ?_
  have hl2 := F4.loc hl2.to n2_4
  refine O.as rfl <| JO.nil <| J.seq <| J.reg rfl <| O.fa rfl <| O.ldT (r := RI) rfl hb1.to.h.s rfl rfl (fun h => nomatch h) fun v16 h16 => O.call rfl (rational_root_ok h16.to hq2) fun W17 v17 i17 e17 h17 => ?_
  obtain ⟨v18, b7, rfl, hb7, h18⟩ := h17
  refine O.mv rfl <| O.ext rfl rfl <| O.ext rfl rfl <| ?_
  refine O.allocE fun W6 b6 i6 e6 hl6 hc6 hz6 => ?_
  have n2_6 : b2 ≠ b6 := Nat.ne_of_lt (Nat.lt_of_lt_of_le (by exact hl2.to.lt) hz6)
  refine O.stT rfl rfl hl6.to h18.to rfl fun Ws2 is2 hb6 F6 => ?_
  have hl2 := F6.loc hl2.to n2_6
  refine O.as rfl <| JO.nil <| J.seq <| J.seq <| ?_
  cases b5
  · skip
    refine J.reg rfl <| O.mv rfl <| O.not rfl <| O.mv rfl <| O.gs rfl rfl rfl <| O.gs rfl rfl rfl <| O.pickT rfl rfl <| JO.nil <| J.condT rfl <| J.seq <| J.reg rfl <| O.bld0 <| ?_
    refine O.stT rfl rfl hl2.to (mkQ (a := (false, [])) (b := (false, [])) (nil_sl _ _ _) (nil_sl _ _ _)) rfl fun Ws3 is3 hb2 F2 => ?_
    refine O.as rfl <| JO.nil <| J.retTv rfl rfl hb2.to.h rfl rfl rfl fun W' v' iE iP hv' => ?_
    refine ⟨_, _, rfl, _, hv'.to, .inr ⟨rfl, fun e => ?_⟩⟩
    have := hb5.2 ⟨(sqQ_iff.1 e).1, (sqQ_iff.1 e).2.1⟩
    cases this
  · skip
    refine J.reg rfl <| O.mv rfl <| O.not rfl <| O.mv rfl <| O.gt rfl rfl <| O.mv rfl <| O.gt rfl rfl <| O.not rfl <| O.pickF rfl rfl <| JO.nil <| J.cond rfl (fun h25 => ?_) (fun h25 => ?_)
    · skip
      refine J.seq <| J.reg rfl <| O.bld0 <| ?_
      refine O.stT rfl rfl hl2.to (mkQ (a := (false, [])) (b := (false, [])) (nil_sl _ _ _) (nil_sl _ _ _)) rfl fun Ws4 is4 hb2 F2 => ?_
      refine O.as rfl <| JO.nil <| J.retTv rfl rfl hb2.to.h rfl rfl rfl fun W' v' iE iP hv' => ?_
      refine ⟨_, _, rfl, _, hv'.to, .inr ⟨rfl, fun e => ?_⟩⟩
      have := hb7.2 ⟨den_nn q, by rw [Int.natAbs_natCast]; exact (sqQ_iff.1 e).2.2⟩
      rw [this] at h25; cases h25
    · skip
      refine J.skip <| J.seq <| J.reg rfl <| O.ldT rfl hb4.to.h rfl rfl (fun h => nomatch h) fun v27 h27 => O.ldT rfl hb6.to.h rfl rfl (fun h => nomatch h) fun v28 h28 => O.bldT rfl rfl h27.to h28.to rfl rfl fun v29 h29 => ?_
      refine O.stT rfl rfl hl2.to h29.to rfl fun Ws5 is5 hb2 F2 => ?_
      refine O.as rfl <| JO.nil <| J.retTv rfl rfl hb2.to.h rfl rfl rfl fun W' v' iE iP hv' => ?_
      have h7 : b7 = true := by cases b7 <;> first | rfl | cases h25
      obtain ⟨x, e1, e2⟩ := sq_yes (hb5.1 rfl) (hb7.1 h7).2
      exact ⟨_, _, rfl, _, hv'.to, .inl ⟨rfl, x, e1, e2⟩⟩
end
section
theorem slices_Grow_own {W : GW} {m : Nat} (hm : m ≤ 1073741824) :
    Ok Tryz.prog 117 [.slice none 0 0, .int .i64 (m : Int)] W fun W' v => OwnR RQ W W' v [] := by
  refine Ok.enter Tryz.func117 rfl rfl rfl rfl fun W0 iEn => ?_
  refine J.seq <| J.reg rfl <| O.as rfl <| JO.nil <| J.seq <| J.seq <| J.reg rfl <| O.mv rfl <| O.lt rfl rfl <| JO.nil <| J.condD rfl (fun h6 => ?_) (fun h6 => ?_)
  · skip
    omega -- done
  · skip
    refine J.skip <| J.seq <| J.seq <| J.reg rfl <| O.mv rfl <| O.mv rfl <| O.cap rfl <| O.mv rfl <| O.len rfl <| O.sb (r := (0 : Int)) rfl rfl (by decide) <| O.sb (r := (m : Int)) rfl rfl ((wI (by omega)).trans (by omega)) <| O.as rfl <| JO.nil <| J.seq <| J.reg rfl <| O.mv rfl <| O.gtr rfl rfl <| JO.nil <| J.condD rfl (fun h16 => ?_) (fun h16 => ?_)
    · skip
      refine J.reg rfl <| O.mv rfl <| O.mv rfl <| O.cap rfl <| O.slh (hi := 0) rfl rfl rfl (by omega) <| O.mv rfl <| O.appMk RQ (m := m) rfl rfl rfl (by omega) rfl rfl (by decide) (by omega) (by omega) fun W1 b1 c1 i1 e1 hz1 hmc1 o1 => O.mv rfl <| O.len rfl <| O.slh (hi := 0) rfl rfl rfl (by omega) <| O.as rfl <| JO.nil <| J.seq <| J.reg rfl <| O.mv rfl <| O.as rfl <| JO.nil <| J.ret1o rfl (.tmp rfl) fun W' iE iO => ?_
      exact o1.ret iE iO
    · skip
      refine J.skip <| J.seq <| J.reg rfl <| O.mv rfl <| O.as rfl <| JO.nil <| J.ret1o rfl (.tmp rfl) fun W' iE iO => ?_
      exact ⟨none, 0, 0, rfl, Ows.nil _ _ _, fun a h => nomatch h⟩
def sumL (ls : List (List Raw)) : Nat := (ls.map List.length).sum
theorem sumL_take {ls : List (List Raw)} {i : Nat} {u : List Raw} (h : ls[i]? = some u) : sumL (ls.take (i + 1)) = sumL (ls.take i) + u.length := by
  rw [List.take_add_one, h, sumL, List.map_append, List.sum_append]; rfl
theorem sumL_take_le {ls : List (List Raw)} (i : Nat) : sumL (ls.take i) ≤ sumL ls := by
  have := congrArg sumL (List.take_append_drop i ls)
  rw [sumL, List.map_append, List.sum_append] at this
  unfold sumL at *
  omega
theorem flat_take {ls : List (List Raw)} {i : Nat} {u : List Raw} (h : ls[i]? = some u) : (ls.take (i + 1)).flatten = (ls.take i).flatten ++ u := by
  rw [List.take_add_one, h, List.flatten_append]; simp
theorem sumL_flat (ls : List (List Raw)) : sumL ls = ls.flatten.length := by rw [List.length_flatten]; rfl
theorem slices_Concat_ok {W : GW} {p : Option Addr} {n c : Nat} {ls : List (List Raw)} (h : Sl RE W p n c ls) (hl : sumL ls ≤ 1048576) :
    Ok Tryz.prog 82 [.slice p n c] W fun W' v => V RE W' v ls.flatten := by
  have hn := h.hn
  have hcc := h.hc
  have hCC := h.hC
  refine Ok.own ?_
  refine Ok.enter Tryz.func82 rfl rfl rfl rfl fun W0 iEn => ?_
  refine J.seq <| J.reg rfl <| O.as rfl <| JO.nil <| J.seq <| J.reg rfl <| O.as rfl <| JO.nil <| J.seq <| J.seq <| J.reg rfl <| O.mv rfl <| O.len rfl <| O.mv rfl <| JO.nil <| J.block <| ?_
  refine J.loop (α := Nat) (fun i => [(0, .slice p n c), (3, .int .i64 ((sumL (ls.take i) : Nat) : Int)), (9, .slice p n c), (10, .int .i64 (n : Int)), (11, .int .i64 (i : Int))]) (fun i W' => Le W0 W' ∧ i ≤ n) (fun i => n - i) 0 ⟨rfl, rfl, rfl, rfl, rfl, trivial⟩ ⟨inferInstance, Nat.zero_le _⟩ ?_
  rintro i W3 ⟨_, hi⟩
  refine J.seq <| J.reg rfl <| O.lt rfl rfl <| JO.nil <| J.seq <| J.condD rfl (fun h12 => ?_) (fun h12 => ?_)
  · skip
    obtain ⟨u, hu⟩ : ∃ u, ls[i]? = some u := ⟨_, List.getElem?_eq_getElem (by omega)⟩
    have hu1 := sumL_take hu
    have hu2 := sumL_take_le (ls := ls) (i + 1)
    refine J.skip <| J.seq <| J.block <| J.seq <| J.reg rfl <| O.iaT (j := i) rfl rfl rfl h.to hu rfl fun b13 o13 hb13 => ?_
    refine O.ldTs rfl hb13.to.h fun p14 m14 c14 s14 => ?_
    have h14 := s14.v
    refine O.as rfl <| JO.nil <| J.seq <| J.reg rfl <| O.mv rfl <| O.mv rfl <| O.len rfl <| ?_
    have hm14 := s14.hn
    refine O.add (r := ((sumL (ls.take (i + 1)) : Nat) : Int)) rfl rfl ((wI (by omega)).trans (by omega)) <| O.as rfl <| JO.nil <| J.seq <| J.reg rfl <| O.mv rfl <| O.lt rfl rfl <| JO.nil <| J.condD rfl (fun h20 => ?_) (fun h20 => ?_)
    · skip
      omega -- done
    · skip
      refine J.skip <| J.bend <| J.reg rfl <| O.add rfl rfl (wI (by omega)) <| O.mv rfl <| JO.nil <| ?_
      exact J.at' (i + 1) ⟨rfl, rfl, rfl, rfl, rfl, trivial⟩ ⟨⟨inferInstance, by omega⟩, by omega⟩
  · skip
    refine J.exit rfl <| J.seq <| J.reg rfl <| O.mv rfl <| ?_
    refine O.call rfl (slices_Grow_own (by have := sumL_take_le (ls := ls) i; omega)) fun W24 v24 i24 e24 h24 => ?_
    obtain ⟨p24, m24, c24, rfl, o24, f24⟩ := h24
    obtain rfl : m24 = 0 := o24.hn
    refine O.as rfl <| JO.nil <| J.seq <| J.seq <| J.reg rfl <| O.mv rfl <| O.len rfl <| O.mv rfl <| JO.nil <| J.block <| ?_
    refine J.loop (α := Nat × Option Addr × Nat × Nat) (fun g => [(6, .slice g.2.1 g.2.2.1 g.2.2.2), (25, .slice p n c), (26, .int .i64 (n : Int)), (27, .int .i64 (g.1 : Int))]) (fun g W' => Le W0 W' ∧ Ows RQ W' g.2.1 g.2.2.1 g.2.2.2 (ls.take g.1).flatten ∧ g.1 ≤ n) (fun g => n - g.1) (0, p24, 0, c24) ⟨rfl, rfl, rfl, rfl, trivial⟩ ⟨inferInstance, o24, Nat.zero_le _⟩ ?_
    rintro ⟨k, p6, m6, c6⟩ W5 ⟨_, ho, hk⟩
    dsimp only at *
    refine J.seq <| J.reg rfl <| O.lt rfl rfl <| JO.nil <| J.seq <| J.condD rfl (fun h28 => ?_) (fun h28 => ?_)
    · skip
      obtain ⟨u, hu⟩ : ∃ u, ls[k]? = some u := ⟨_, List.getElem?_eq_getElem (by omega)⟩
      have hu1 := sumL_take hu
      have hu2 := sumL_take_le (ls := ls) (k + 1)
      have hu3 := ho.hn
      rw [← sumL_flat] at hu3
      refine J.skip <| J.seq <| J.block <| J.seq <| J.reg rfl <| O.iaT (j := k) rfl rfl rfl h.to hu rfl fun b29 o29 hb29 => ?_
      refine O.ldTs rfl hb29.to.h fun p30 m30 c30 s30 => ?_
      have h30 := s30.v
      refine O.as rfl <| JO.nil <| J.reg rfl <| O.mv rfl <| O.mv rfl <| ?_
      have hm30 := s30.hn
      refine O.app rfl rfl ho s30.to rfl rfl (by omega) (by omega) fun W33 p33 c33 i33 o33 => O.as rfl <| JO.nil <| J.bend <| J.reg rfl <| O.add rfl rfl (wI (by omega)) <| O.mv rfl <| JO.nil <| ?_
      exact J.at' (k + 1, p33, m6 + m30, c33) ⟨rfl, rfl, rfl, rfl, trivial⟩ ⟨⟨inferInstance, by rw [flat_take hu]; exact o33, by show k + 1 ≤ n; omega⟩, by show n - (k + 1) < n - k; omega⟩
    · skip
      refine J.exit rfl <| J.seq <| J.reg rfl <| O.mv rfl <| O.as rfl <| JO.nil <| ?_
      have hkn : k = n := by omega
      subst hkn
      rw [List.take_of_length_le (by omega)] at ho
      refine J.ret1o rfl (.tmp rfl) fun W' iE iO => ?_
      exact ho.ret iE iO
end
section
theorem zs1 : Zs 2 1 := show (1 : Int).natAbs < 2 ^ 2 by decide
theorem zs2 : Zs 2 2 := show (2 : Int).natAbs < 2 ^ 2 by decide
theorem half_div : Rat.divInt 1 2 = (1 / 2 : Rat) := by decide +kernel
theorem rational_Frac_ok {W : GW} : Ok Tryz.prog 119 [.int .i64 1, .int .i64 2] W fun W' r => V RQ W' r (cq (1 / 2 : Rat)) := by
  refine Ok.enter Tryz.func119 rfl rfl rfl rfl fun W0 iEn => ?_
  refine J.seq <| J.reg rfl <| ?_
  refine O.allocE fun W4 b4 i4 e4 hl4 hc4 hz4 => ?_
  refine JO.nil <| J.seq <| J.reg rfl <| O.mv rfl <| O.call rfl (integer_FromInt_ok (z := 1) (by decide)) fun W9 v9 i9 e9 h9 => O.mv rfl <| O.call rfl (integer_FromInt_ok (z := 2) (by decide)) fun W11 v11 i11 e11 h11 => O.call rfl (rational_Make_ok h9.to h11.to zs1 zs2 (by decide) (by decide)) fun W12 v12 i12 e12 h12 => ?_
  obtain ⟨v13, rfl, h13⟩ := h12
  refine O.mv rfl <| O.ext rfl rfl <| O.ext rfl rfl <| ?_
  refine O.allocE fun W5 b5 i5 e5 hl5 hc5 hz5 => ?_
  have n4_5 : b4 ≠ b5 := Nat.ne_of_lt (Nat.lt_of_lt_of_le (by exact hl4.to.lt) hz5)
  refine O.stT rfl rfl hl5.to h13.to rfl fun Ws1 is1 hb5 F5 => ?_
  have hl4 := F5.loc hl4.to n4_5
  refine O.as rfl <| JO.nil <| J.seq <| J.seq <| J.reg rfl <| O.mv rfl <| O.ne rfl rfl <| JO.nil <| J.condF rfl <| J.skip <| J.seq <| J.reg rfl <| O.ldT rfl hb5.to.h rfl rfl (fun h => nomatch h) fun v18 h18 => ?_
  refine O.stT rfl rfl hl4.to h18.to rfl fun Ws2 is2 hb4 F4 => ?_
  refine JO.nil <| J.retT rfl rfl hb4.to.h rfl rfl fun W' v' iE iP hv' => ?_
  rw [← half_div]; exact hv'.to
theorem ref02_Frac_ok {W : GW} : Ok Tryz.prog 91 [.int .i64 1, .int .i64 2] W fun W' r => V RQ W' r (cq (1 / 2 : Rat)) := by
  refine Ok.enter Tryz.func91 rfl rfl rfl rfl fun W0 iEn => ?_
  refine J.seq <| J.reg rfl <| ?_
  refine O.allocE fun W4 b4 i4 e4 hl4 hc4 hz4 => ?_
  refine JO.nil <| J.seq <| J.seq <| J.reg rfl <| O.mv rfl <| O.eq rfl rfl <| JO.nil <| J.condF rfl <| J.skip <| J.seq <| J.reg rfl <| O.mv rfl <| O.call rfl (ref01_FromInt_ok (z := 1) (by decide)) fun W9 v9 i9 e9 h9 => O.mv rfl <| O.call rfl (ref01_FromInt_ok (z := 2) (by decide)) fun W11 v11 i11 e11 h11 => O.call rfl (ref02_Make_ok h9.to h11.to zs1 zs2 (by decide) (by decide)) fun W12 v12 i12 e12 h12 => ?_
  refine O.stT rfl rfl hl4.to h12.to rfl fun Ws1 is1 hb4 F4 => ?_
  refine JO.nil <| J.retT rfl rfl hb4.to.h rfl rfl fun W' v' iE iP hv' => ?_
  rw [← half_div]; exact hv'.to
theorem inv_pos {q : Rat} (h : 0 < q.num) : (1 / q).num = (q.den : Int) ∧ ((1 / q).den : Int) = q.num := by
  rw [Rat.div_def, Rat.one_mul]
  show (Rat.inv q).num = _ ∧ ((Rat.inv q).den : Int) = _
  unfold Rat.inv
  rw [dif_neg (by omega), dif_pos h]
  exact ⟨rfl, by show (q.num.natAbs : Int) = q.num; omega⟩
theorem inv_neg {q : Rat} (h : q.num < 0) : (1 / q).num = -(q.den : Int) ∧ ((1 / q).den : Int) = -q.num := by
  rw [Rat.div_def, Rat.one_mul]
  show (Rat.inv q).num = _ ∧ ((Rat.inv q).den : Int) = _
  unfold Rat.inv
  rw [dif_pos h]
  exact ⟨rfl, by show (q.num.natAbs : Int) = -q.num; omega⟩
theorem ref02_Inv_ok {W : GW} {v : Value} {q : Rat} (h : V RQ W v (cq q)) (h0 : q ≠ 0) :
    Ok Tryz.prog 122 [v] W fun W' r => V RQ W' r (cq (1 / q)) := by
  have hn0 : q.num ≠ 0 := fun e => h0 (Rat.num_eq_zero.1 e)
  refine Ok.enter Tryz.func122 rfl rfl rfl rfl fun W0 iEn => ?_
  refine J.seq <| J.reg rfl <| O.boxT rfl h.to fun W1 b1 i1 hb1 => ?_
  refine O.allocE fun W2 b2 i2 e2 hl2 hc2 hz2 => ?_
  refine JO.nil <| J.seq <| J.seq <| J.reg rfl <| O.fa rfl <| O.fa rfl <| O.ldTb rfl hb1.to.h.f.f <| JO.nil <| J.cond rfl (fun h5 => ?_) (fun h5 => ?_)
  · skip
    have h5 : q.num < 0 := of_decide_eq_true h5
    refine J.seq <| ?_
    refine J.draw [.ex _, .rel _, .rel _, .ex _, .rel _] rfl rfl ⟨fun Wd id ed _ => O.fa rfl <| D.ex, fun Wd id ed _ => O.ldTD rfl hb1.to.h.s rfl rfl (fun h => nomatch h), fun Wd id ed _ => fun v7 h7 => O.call rfl (ref01_Neg_ok h7) fun Wd vd id ed hd => D.rel ed hd V.me, fun Wd id ed _ => O.fa rfl <| D.ex, fun Wd id ed _ => O.ldTD rfl hb1.to.h.f rfl rfl (fun h => nomatch h), trivial⟩ ?_
    intro Wr2 ir2 er2 v7 h7 v8 h8 v10 h10
    refine O.call rfl (ref01_Neg_ok h10.to) fun W11 v11 i11 e11 h11 => O.bldT rfl rfl h8.to h11.to rfl rfl fun v12 h12 => ?_
    refine O.stT rfl rfl hl2.to h12.to rfl fun Ws1 is1 hb2 F2 => ?_
    refine JO.nil <| J.retT rfl rfl hb2.to.h rfl rfl fun W' v' iE iP hv' => ?_
    rw [cq, (inv_neg h5).1, (inv_neg h5).2]
    exact hv'.to
  · skip
    have h5 : ¬ q.num < 0 := of_decide_eq_false h5
    refine J.skip <| J.seq <| J.reg rfl <| O.fa rfl <| O.ldT (r := RI) rfl hb1.to.h.s rfl rfl (fun h => nomatch h) fun v14 h14 => O.fa rfl <| O.ldT (r := RI) rfl hb1.to.h.f rfl rfl (fun h => nomatch h) fun v16 h16 => O.bldT rfl rfl h14.to h16.to rfl rfl fun v17 h17 => ?_
    refine O.stT rfl rfl hl2.to h17.to rfl fun Ws2 is2 hb2 F2 => ?_
    refine JO.nil <| J.retT rfl rfl hb2.to.h rfl rfl fun W' v' iE iP hv' => ?_
    rw [cq, (inv_pos (by omega)).1, (inv_pos (by omega)).2]
    exact hv'.to
theorem ref02_Sqrt_ok {W : GW} {v : Value} {q : Rat} {p : Nat} (h : V RQ W v (cq q)) (hq : Qs p q) (hp : p ≤ 8796093022208) :
    Ok Tryz.prog 87 [v] W fun W' r => ∃ v1 b, r = .tuple #[v1, .bool b] ∧ SqR q W' v1 b := by
  have hq1 := hq.n.len2 hp
  have hq2 := hq.d.len2 hp
  have hs0 : ∀ a : Nat, (dig (a : Int).natAbs).length ≤ 549755813888 → (dig (rt a : Int).natAbs).length ≤ 1099511627776 := fun a h => by
    rw [Int.natAbs_natCast] at h ⊢
    exact Nat.le_trans (len_mono (rt_le a)) (by omega)
  have hd2 : (q.den : Int).natAbs = q.den := Int.natAbs_natCast _
  obtain ⟨b5, hb5⟩ : ∃ b5, b5 = decide (ci ((rt q.num.natAbs : Int) * (rt q.num.natAbs : Int)) = ci q.num) := ⟨_, rfl⟩
  refine Ok.enter Tryz.func87 rfl rfl rfl rfl fun W0 iEn => ?_
  refine J.seq <| J.reg rfl <| O.boxT rfl h.to fun W1 b1 i1 hb1 => ?_
  refine O.allocE fun W2 b2 i2 e2 hl2 hc2 hz2 => ?_
  refine O.as rfl <| JO.nil <| J.seq <| J.seq <| J.reg rfl <| O.fa rfl <| O.fa rfl <| O.ldTb rfl hb1.to.h.f.f <| JO.nil <| J.cond rfl (fun h10 => ?_) (fun h10 => ?_)
  · skip
    have h10 : q.num < 0 := of_decide_eq_true h10
    refine J.seq <| J.reg rfl <| O.bld0 <| ?_
    refine O.stT rfl rfl hl2.to (mkQ (a := (false, [])) (b := (false, [])) (nil_sl _ _ _) (nil_sl _ _ _)) rfl fun Ws1 is1 hb2 F2 => ?_
    refine O.as rfl <| JO.nil <| J.retTv rfl rfl hb2.to.h rfl rfl rfl fun W' v' iE iP hv' => ?_
    refine ⟨_, _, rfl, _, hv'.to, .inr ⟨rfl, fun e => ?_⟩⟩
    have := (sqQ_iff.1 e).1
    omega
  · skip
    have h10 : ¬ q.num < 0 := of_decide_eq_false h10
    have hna : ((q.num.natAbs : Nat) : Int) = q.num := by omega
    refine J.skip <| J.seq <| J.reg rfl <| O.fa rfl <| O.ldT (r := RI) rfl hb1.to.h.f rfl rfl (fun h => nomatch h) fun v14 h14 => O.call rfl (ref01_Sqrt_ok (a := q.num.natAbs) (by rw [hna]; exact h14.to) hq1) fun W15 v15 i15 e15 h15 => ?_
    obtain ⟨v16, rfl, h16⟩ := h15
    refine O.mv rfl <| O.ext rfl rfl <| O.ext rfl rfl <| ?_
    refine O.allocE fun W4 b4 i4 e4 hl4 hc4 hz4 => ?_
    have n2_4 : b2 ≠ b4 := Nat.ne_of_lt (Nat.lt_of_lt_of_le (by exact hl2.to.lt) hz4)
    refine O.stT rfl rfl hl4.to h16.to rfl fun Ws2 is2 hb4 F4 => ?_
    have hl2 := F4.loc hl2.to n2_4
    refine O.as rfl <| JO.nil <| J.seq <| J.reg rfl <| O.fa rfl <| O.ldT (r := RI) rfl hb1.to.h.s rfl rfl (fun h => nomatch h) fun v20 h20 => O.call rfl (ref01_Sqrt_ok (a := q.den) h20.to (by rw [← hd2]; exact hq2)) fun W21 v21 i21 e21 h21 => ?_
    obtain ⟨v22, rfl, h22⟩ := h21
    refine O.mv rfl <| O.ext rfl rfl <| O.ext rfl rfl <| ?_
    refine O.allocE fun W6 b6 i6 e6 hl6 hc6 hz6 => ?_
    have n2_6 : b2 ≠ b6 := Nat.ne_of_lt (Nat.lt_of_lt_of_le (by exact hl2.to.lt) hz6)
    refine O.stT rfl rfl hl6.to h22.to rfl fun Ws3 is3 hb6 F6 => ?_
    have hl2 := F6.loc hl2.to n2_6
    refine O.as rfl <| JO.nil <| J.seq <| J.seq <| ?_
    cases b5
    · skip
      refine J.draw [.rel _, .rel _, .rel _, .ex _, .rel _, .ex _, .ex _, .ex _, .ex _, .ex _, .ex _, .ex _, .ex _, .ex _, .ex _, .ex _] rfl rfl ⟨fun Wd id ed _ => O.ldTD rfl hb4.to.h rfl rfl (fun h => nomatch h), fun Wd id ed _ => O.ldTD rfl hb4.to.h rfl rfl (fun h => nomatch h), fun Wd id ed _ => fun v24 h24 => fun v25 h25 => O.call rfl (ref01_Mul_ok h24 h25 (hs0 _ (by rw [hna]; exact hq1)) (hs0 _ (by rw [hna]; exact hq1))) fun Wd vd id ed hd => D.rel ed hd V.me, fun Wd id ed _ => O.fa rfl <| D.ex, fun Wd id ed _ => O.ldTD rfl hb1.to.h.f rfl rfl (fun h => nomatch h), fun Wd id ed _ => fun _ _ => fun v28 h28 => fun v26 h26 => O.call rfl (ref02_SameInt_ok h26 h28) fun Wd vd id ed hd => D.eq ed hd, fun Wd id ed _ => O.not rfl <| D.ex, fun Wd id ed _ => O.mv rfl <| D.exE (v' := .bool true) (by rw [← hb5]; rfl), fun Wd id ed _ => O.gs rfl rfl rfl <| D.ex, fun Wd id ed _ => O.gs rfl rfl rfl <| D.ex, fun Wd id ed _ => O.gs rfl rfl rfl <| D.ex, fun Wd id ed _ => O.gs rfl rfl rfl <| D.ex, fun Wd id ed _ => O.gs rfl rfl rfl <| D.ex, fun Wd id ed _ => O.gs rfl rfl rfl <| D.ex, fun Wd id ed _ => O.gs rfl rfl rfl <| D.ex, fun Wd id ed _ => O.pickT rfl rfl <| D.ex, trivial⟩ ?_
      intro Wr5 ir5 er5 v24 h24 v25 h25 v26 h26 v28 h28
      refine JO.nil <| J.condT rfl <| J.seq <| J.reg rfl <| O.bld0 <| ?_
      refine O.stT rfl rfl hl2.to (mkQ (a := (false, [])) (b := (false, [])) (nil_sl _ _ _) (nil_sl _ _ _)) rfl fun Ws4 is4 hb2 F2 => ?_
      refine O.as rfl <| JO.nil <| J.retTv rfl rfl hb2.to.h rfl rfl rfl fun W' v' iE iP hv' => ?_
      refine ⟨_, _, rfl, _, hv'.to, .inr ⟨rfl, fun e => ?_⟩⟩
      have e1 := (sqQ_iff.1 e).2.1
      refine of_decide_eq_false hb5.symm ?_
      rw [← Int.natCast_mul, e1, hna]
    · skip
      refine J.draw [.rel _, .rel _, .rel _, .ex _, .rel _, .ex _, .ex _, .ex _, .rel _, .rel _, .rel _, .ex _, .rel _, .ex _, .ex _, .ex _] rfl rfl ⟨fun Wd id ed _ => O.ldTD rfl hb4.to.h rfl rfl (fun h => nomatch h), fun Wd id ed _ => O.ldTD rfl hb4.to.h rfl rfl (fun h => nomatch h), fun Wd id ed _ => fun v24 h24 => fun v25 h25 => O.call rfl (ref01_Mul_ok h24 h25 (hs0 _ (by rw [hna]; exact hq1)) (hs0 _ (by rw [hna]; exact hq1))) fun Wd vd id ed hd => D.rel ed hd V.me, fun Wd id ed _ => O.fa rfl <| D.ex, fun Wd id ed _ => O.ldTD rfl hb1.to.h.f rfl rfl (fun h => nomatch h), fun Wd id ed _ => fun _ _ => fun v28 h28 => fun v26 h26 => O.call rfl (ref02_SameInt_ok h26 h28) fun Wd vd id ed hd => D.eq ed hd, fun Wd id ed _ => O.not rfl <| D.ex, fun Wd id ed _ => O.mv rfl <| D.exE (v' := .bool false) (by rw [← hb5]; rfl), fun Wd id ed _ => O.gt rfl rfl <| O.ldTD rfl hb6.to.h rfl rfl (fun h => nomatch h), fun Wd id ed _ => O.gt rfl rfl <| O.ldTD rfl hb6.to.h rfl rfl (fun h => nomatch h), fun Wd id ed _ => fun v32 h32 => fun v33 h33 => O.gt rfl rfl <| O.call rfl (ref01_Mul_ok h32 h33 (hs0 _ hq2) (hs0 _ hq2)) fun Wd vd id ed hd => D.rel ed hd V.me, fun Wd id ed _ => O.gt rfl rfl <| O.fa rfl <| D.ex, fun Wd id ed _ => O.gt rfl rfl <| O.ldTD rfl hb1.to.h.s rfl rfl (fun h => nomatch h), fun Wd id ed _ => fun _ _ => fun v36 h36 => fun v34 h34 => O.gt rfl rfl <| O.call rfl (ref02_SameInt_ok h34 h36) fun Wd vd id ed hd => D.eq ed hd, fun Wd id ed _ => O.gt rfl rfl <| O.not rfl <| D.ex, fun Wd id ed _ => O.pickF rfl rfl <| D.ex, trivial⟩ ?_
      intro Wr5 ir5 er5 v24 h24 v25 h25 v26 h26 v28 h28 v32 h32 v33 h33 v34 h34 v36 h36
      refine JO.nil <| J.cond rfl (fun h39 => ?_) (fun h39 => ?_)
      · skip
        refine J.seq <| J.reg rfl <| O.bld0 <| ?_
        refine O.stT rfl rfl hl2.to (mkQ (a := (false, [])) (b := (false, [])) (nil_sl _ _ _) (nil_sl _ _ _)) rfl fun Ws5 is5 hb2 F2 => ?_
        refine O.as rfl <| JO.nil <| J.retTv rfl rfl hb2.to.h rfl rfl rfl fun W' v' iE iP hv' => ?_
        refine ⟨_, _, rfl, _, hv'.to, .inr ⟨rfl, fun e => ?_⟩⟩
        have e1 : rt q.den * rt q.den = q.den := (sqQ_iff.1 e).2.2
        have e2 : ci ((rt q.den : Int) * (rt q.den : Int)) = ci (q.den : Int) := by rw [← Int.natCast_mul, e1]
        rw [decide_eq_true e2] at h39; cases h39
      · skip
        refine J.skip <| J.seq <| J.reg rfl <| O.ldT rfl hb4.to.h rfl rfl (fun h => nomatch h) fun v41 h41 => O.ldT rfl hb6.to.h rfl rfl (fun h => nomatch h) fun v42 h42 => O.bldT rfl rfl h41.to h42.to rfl rfl fun v43 h43 => ?_
        refine O.stT rfl rfl hl2.to h43.to rfl fun Ws6 is6 hb2 F2 => ?_
        refine O.as rfl <| JO.nil <| J.retTv rfl rfl hb2.to.h rfl rfl rfl fun W' v' iE iP hv' => ?_
        have e2 : ci ((rt q.den : Int) * (rt q.den : Int)) = ci (q.den : Int) := Classical.byContradiction fun e => by rw [decide_eq_false e] at h39; cases h39
        have e2 := ci_inj e2
        have e1 := ci_inj (of_decide_eq_true hb5.symm)
        rw [← Int.natCast_mul] at e1 e2
        obtain ⟨x, g1, g2, g3⟩ := sqQ_some (q := q) (by omega) (show rt q.num.natAbs * rt q.num.natAbs = q.num.natAbs by omega) (show rt q.den * rt q.den = q.den by omega)
        exact ⟨_, _, rfl, _, hv'.to, .inl ⟨rfl, x, g3, by rw [cq, g1, g2]⟩⟩
end
end Go.Proofs.YtcaikjefkkejbaaGreat
