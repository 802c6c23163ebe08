/- The program's integers: contracts: DivMod, Valid. -/
import Derived.Test.YtcobdnnfmhfenaaGreatIh
set_option linter.unusedVariables false
set_option linter.unusedSimpArgs false
set_option maxRecDepth 10000
set_option maxHeartbeats 1000000
namespace Go.Proofs.YtcobdnnfmhfenaaGreat
open Go Go.Rx Go.Num

/-- quotient and remainder, rounded down, from those of the absolute values -/
theorem fdm_same {a b : Int} (hb : b ≠ 0) (h : decide (a < 0) = decide (b < 0)) : sg (decide (a < 0) != decide (b < 0)) (a.natAbs / b.natAbs) = a.fdiv b ∧ sg (decide (b < 0)) (a.natAbs % b.natAbs) = a.fmod b := by
  rcases natAbs_cases a with ⟨h1, e⟩ | ⟨h1, e⟩ <;> rcases natAbs_cases b with ⟨h2, e'⟩ | ⟨h2, e'⟩ <;> simp [h1, h2] at h <;> simp only [sg, h1, h2, decide_true, decide_false]
  all_goals
    generalize a.natAbs = x at *
    generalize b.natAbs = y at *
    subst e
    subst e'
    simp [Int.fdiv_eq_ediv_of_nonneg, Int.fmod_eq_emod_of_nonneg]
theorem fdm_neg (x y : Nat) (hy : 0 < y) : (-(x : Int)).fdiv y = -((x / y + if 0 < x % y then 1 else 0 : Nat) : Int) ∧ (-(x : Int)).fmod y = ((if 0 < x % y then y - x % y else 0 : Nat) : Int) := by
  rw [Int.fdiv_eq_ediv_of_nonneg _ (by omega), Int.fmod_eq_emod_of_nonneg _ (by omega)]
  have h1 := Nat.div_add_mod x y
  have h2 := Nat.mod_lt x hy
  refine (Int.ediv_emod_unique (by omega)).2 ?_
  generalize x / y = q at *
  generalize x % y = r at *
  split
  · refine ⟨?_, by omega, by omega⟩
    rw [← h1, Int.natCast_sub (by omega)]
    push_cast
    grind
  · have : r = 0 := by omega
    subst this
    refine ⟨?_, by omega, by omega⟩
    rw [← h1]
    push_cast
    grind
theorem fdm_diff {a b : Int} (hb : b ≠ 0) (h : decide (a < 0) ≠ decide (b < 0)) : sg (decide (a < 0) != decide (b < 0)) (a.natAbs / b.natAbs + if 0 < a.natAbs % b.natAbs then 1 else 0) = a.fdiv b ∧ sg (decide (b < 0)) (if 0 < a.natAbs % b.natAbs then b.natAbs - a.natAbs % b.natAbs else 0) = a.fmod b := by
  rcases natAbs_cases a with ⟨h1, e⟩ | ⟨h1, e⟩ <;> rcases natAbs_cases b with ⟨h2, e'⟩ | ⟨h2, e'⟩ <;> simp [h1, h2] at h <;> simp only [sg, h1, h2, decide_true, decide_false]
  all_goals
    generalize a.natAbs = x at *
    generalize b.natAbs = y at *
    subst e
    subst e'
    have hf := fdm_neg x y (by omega)
  · rw [hf.1, hf.2]
    exact ⟨rfl, rfl⟩
  · have e1 : (x : Int).fdiv (-(y : Int)) = (-(x : Int)).fdiv y := by rw [← Int.neg_fdiv_neg, Int.neg_neg]
    have e2 : (x : Int).fmod (-(y : Int)) = -((-(x : Int)).fmod y) := by rw [← Int.neg_fmod_neg, Int.neg_neg]
    rw [e1, e2, hf.1, hf.2]
    exact ⟨rfl, rfl⟩

section
variable {P : Program} {n : Nat} {ops : Array Oper} {l : List Oper} {K : List Kt} {fin : Exit → Act → World → Prop} {env : Env} {W : GW}
variable {d : Nat} {ty : TypeId} {pos : String} {aft : Array Edge}
/-- a store into a variable; another variable keeps what it holds -/
theorem O.stC {T sz b b' : Nat} {ag : Bool} {z cs' : List Value} {x y : Operand} {v : Value} [i : TVar P T sz ag z] (hx : get env x = some (.pointer (some ⟨b, 0, none⟩))) (hy : get env y = some v)
    (hl : Rx.Loc W b sz) (hs : v.cells.toList.length = sz) (h1 : ∀ u ∈ v.cells.toList, oneC u = true) (hc : Cnt W b' cs') (hne : b' ≠ b)
    (k : ∀ W', Lk1 W W' → Cnt W' b v.cells.toList → Cnt W' b' cs' → JO P n ops l K fin env W') : JO P n ops (⟨none, .store T x y, ty, pos, aft, none⟩ :: l) K fin env W := by
  obtain ⟨cs, ⟨U, hb⟩, hsz⟩ := hl.h
  have hr := run_storeVar (P := P) (T := T) (off := 0) (v := v) hb hs (by omega) h1
  rw [spl_full _ _ (by omega)] at hr
  obtain ⟨T', hc⟩ := hc
  refine JO.unit (W' := W.put b (.cells v.cells.toList.toArray U (0, 0))) (fun a ha => ?_)
    (k _ ⟨put_lek W b _ _ U (0, 0) hb hl.A hl.m (by simp; simpa using hs.trans hsz.symm)⟩ ⟨U, heap_put_self _ _ _ (lt_of_heap hb)⟩ ⟨T', (heap_put _ _ _ _ hne).trans hc⟩)
  simp only [execOp, ha.get hx, ha.get hy, Instr.storeAt, Instr.sureAddr]
  rw [Sem.run_bind, Sem.run_bind]
  show Result.andThen (Result.andThen (Result.ok _ _) _) _ = _
  simp only [Result.andThen_ok]
  rw [hr]
  rfl
end
/-- DivMod -/
theorem integer_DivMod_ok {W : GW} {v v' : Value} {z z' : Int} (h : V RI W v (ci z)) (h' : V RI W v' (ci z')) (hl : (dig z.natAbs).length ≤ 1099511627776) (hl' : (dig z'.natAbs).length ≤ 1099511627776) (hz0 : z' ≠ 0) :
    Ok Tryz.prog 131 [v, v'] W fun W' r => ∃ v1 v2, r = .tuple #[v1, v2, .int .i64 0] ∧ V RI W' v1 (ci (z.fdiv z')) ∧ V RI W' v2 (ci (z.fmod z')) := by
  obtain ⟨p, m, c, rfl, hs⟩ := unI h
  obtain ⟨p', m', c', rfl, hs'⟩ := unI h'
  have hy0 : z'.natAbs ≠ 0 := by omega
  refine Ok.enter Tryz.func131 rfl rfl rfl rfl fun W0 iEn => ?_
  refine J.seq <| J.reg rfl <| O.box rfl fun W1 b1 i1 hb1 => O.box rfl fun W2 b2 i2 hb2 => O.alloc fun W3 b3 i3 hl3 hc3 hb3 => O.alloc fun W4 b4 i4 hl4 hc4 hb4 => O.as rfl <| JO.nil <| J.seq <| J.reg rfl <| O.fa rfl <| O.ldB rfl hb2.to rfl <| O.call rfl (integer_trimd_ok hs'.to) fun W5 v5 i5 e5 h5 => ?_
  obtain ⟨py, my, cy, rfl, hsy⟩ := h5.sl
  have hny := hsy.hn
  have hd0 := @dig_len0 z'.natAbs
  refine O.as rfl <| JO.nil <| J.seq <| J.seq <| J.reg rfl <| O.mv rfl <| O.len rfl <| O.eq rfl rfl <| JO.nil <| J.condD rfl (fun h15 => ?_) (fun h15 => ?_)
  · skip
    exact absurd (hd0.1 (by omega)) hy0 -- done
  · skip
    refine J.skip <| J.seq <| J.reg rfl <| O.fa rfl <| O.ldB rfl hb1.to rfl <| O.call rfl (integer_trimd_ok hs.to) fun W6 v6 i6 e6 h6 => ?_
    obtain ⟨px, mx, cx, rfl, hsx⟩ := h6.sl
    refine O.mv rfl <| O.call rfl (integer_divide_ok hsx.to hsy.to hl hl' hy0) fun W7 v7 i7 e7 h7 => ?_
    obtain ⟨v8, v9, rfl, h8, h9⟩ := h7
    obtain ⟨pq, mq, cq, rfl, hsq⟩ := h8.sl
    obtain ⟨pr, mr, cr, rfl, hsr⟩ := h9.sl
    have hnr := hsr.hn
    have hr0 := @dig_len0 (z.natAbs % z'.natAbs)
    have hrlt := Nat.mod_lt z.natAbs (Nat.pos_of_ne_zero hy0)
    refine O.mv rfl <| O.ext rfl rfl <| O.ext rfl rfl <| O.as rfl <| O.as rfl <| JO.nil <| J.seq <| J.seq <| J.reg rfl <| O.fa rfl <| O.ldB rfl hb1.to rfl <| O.fa rfl <| O.ldB rfl hb2.to rfl <| O.bne rfl rfl <| O.mv rfl <| ?_
    by_cases hg31 : decide (z < 0) ≠ decide (z' < 0)
    · skip
      refine O.set (t := 31) (.bool true) rfl (congrArg Value.bool (bne_iff_ne.2 hg31)) <| O.gt rfl rfl <| O.mv rfl <| O.gt rfl rfl <| O.len rfl <| O.gt rfl rfl <| O.gtr rfl rfl <| O.pickT rfl rfl <| JO.nil <| ?_
      refine J.cut (α := (Option Addr × Nat × Nat × Nat) × Option Addr × Nat × Nat × Nat) (fun q => [(2, .pointer (some ⟨b1, 0, none⟩)), (3, .pointer (some ⟨b2, 0, none⟩)), (4, .pointer (some ⟨b3, 0, none⟩)), (5, .pointer (some ⟨b4, 0, none⟩)), (8, .slice q.1.1 q.1.2.1 q.1.2.2.1), (9, .slice q.2.1 q.2.2.1 q.2.2.2.1)]) (fun q W => Lk W4 W ∧ Lk W3 W ∧ Le W0 W ∧ Le W1 W ∧ Le W2 W ∧ Sl RW W q.1.1 q.1.2.1 q.1.2.2.1 (dig q.1.2.2.2) ∧ Sl RW W q.2.1 q.2.2.1 q.2.2.2.1 (dig q.2.2.2.2) ∧ sg (decide (z < 0) != decide (z' < 0)) q.1.2.2.2 = z.fdiv z' ∧ sg (decide (z' < 0)) q.2.2.2.2 = z.fmod z') ?_ ?_
      · skip
        refine J.condD rfl (fun h35 => ?_) (fun h35 => ?_)
        · skip
          refine J.seq <| J.reg rfl <| O.mv rfl <| O.bs (r := RW) [1] rfl ⟨rwv _ (by decide), trivial⟩ rfl rfl rfl (by decide) (.inr rfl) (by decide) fun W8 p8 i8 e8 s8 => ?_
          have hd1 : dig 1 = [1] := (dig_val (l := [1]) (fun x hx => by simp at hx; subst hx; decide) (.inr ⟨1, rfl, by decide⟩)).symm ▸ rfl
          refine O.call rfl (integer_plus_ok hsq.to (x := z.natAbs / z'.natAbs) (y := 1) (hd1 ▸ s8) (Nat.le_trans (len_mono (Nat.div_le_self ..)) hl) (by rw [hd1]; decide)) fun W9 v9 i9 e9 h9 => ?_
          obtain ⟨p9, m9, c9, rfl, s9⟩ := h9.sl
          refine O.as rfl <| JO.nil <| J.reg rfl <| O.mv rfl <| O.mv rfl <| O.call rfl (integer_minus_ok hsy.to hsr.to hl' (Nat.le_of_lt hrlt)) fun W10 v10 i10 e10 h10 => ?_
          obtain ⟨p10, m10, c10, rfl, s10⟩ := h10.sl
          have hf := fdm_diff hz0 hg31
          have hpos : 0 < z.natAbs % z'.natAbs := Nat.pos_of_ne_zero fun e => by have := hr0.2 e; omega
          rw [if_pos hpos, if_pos hpos] at hf
          refine O.as rfl <| JO.nil <| ?_
          exact J.at' ((p9, m9, c9, z.natAbs / z'.natAbs + 1), p10, m10, c10, z'.natAbs - z.natAbs % z'.natAbs) ⟨rfl, rfl, rfl, rfl, rfl, rfl, trivial⟩ ⟨inferInstance, inferInstance, inferInstance, inferInstance, inferInstance, s9.to, s10, hf.1, hf.2⟩
        · skip
          refine J.skip <| ?_
          have hf := fdm_diff hz0 hg31
          have hpos : ¬ 0 < z.natAbs % z'.natAbs := fun e => by
            have : (dig (z.natAbs % z'.natAbs)).length ≠ 0 := fun e2 => by have := hr0.1 e2; omega
            omega
          rw [if_neg hpos, if_neg hpos, Nat.add_zero] at hf
          have hr1 : z.natAbs % z'.natAbs = 0 := by omega
          exact J.at' ((pq, mq, cq, z.natAbs / z'.natAbs), pr, mr, cr, z.natAbs % z'.natAbs) ⟨rfl, rfl, rfl, rfl, rfl, rfl, trivial⟩ ⟨inferInstance, inferInstance, inferInstance, inferInstance, inferInstance, hsq.to, hsr.to, hf.1, by show sg _ (z.natAbs % z'.natAbs) = _; rw [hr1]; exact hf.2⟩
      · skip
        have hb34 : b3 ≠ b4 := by
          obtain ⟨_, hb3'⟩ := hc3
          have : b3 < W3.size := lt_of_heap hb3'
          omega
        rintro ⟨⟨p1, n1, c1, x1⟩, p2, n2, c2, x2⟩ W11 ⟨iL, _, _, _, _, h1, h2, hf1, hf2⟩
        dsimp only at *
        refine J.seq <| ?_
        refine J.draw [.ex _, .ex _, .ex _, .ex _, .ex _, .ex _, .rel _, .ex _, .ex _, .ex _, .rel _] rfl rfl ⟨fun W1 i1 e1 _ => O.fa rfl <| D.ex, fun W1 i1 e1 _ => O.ldB rfl hb1.to rfl <| D.ex, fun W1 i1 e1 _ => O.fa rfl <| D.ex, fun W1 i1 e1 _ => O.ldB rfl hb2.to rfl <| D.ex, fun W1 i1 e1 _ => O.bne rfl rfl <| D.ex, fun W1 i1 e1 _ => O.mv rfl <| D.ex, fun W1 i1 e1 _ => O.call rfl (integer_signedd_ok (decide (z < 0) != decide (z' < 0)) h1.to) fun W5 v5 i5 e5 h5 => D.rel e5 h5 V.me, fun W1 i1 e1 _ => O.fa rfl <| D.ex, fun W1 i1 e1 _ => O.ldB rfl hb2.to rfl <| D.ex, fun W1 i1 e1 _ => O.mv rfl <| D.ex, fun W1 i1 e1 _ => fun v48 h48 => O.call rfl (integer_signedd_ok (decide (z' < 0)) h2.to) fun W5 v5 i5 e5 h5 => D.rel e5 h5 V.me, trivial⟩ ?_
        intro W1 i1 e1 v48 h48 v52 h52
        rw [hf1] at h48
        rw [hf2] at h52
        obtain ⟨p4, m4, c4, rfl, hs4⟩ := unI h48
        obtain ⟨p5, m5, c5, rfl, hs5⟩ := unI h52
        refine O.st rfl rfl hl3.to rfl (by simp [oneC, Value.cells]) fun W12 i12 hc12 => O.stC rfl rfl hl4.to rfl (by simp [oneC, Value.cells]) hc12 hb34 fun W13 i13 hc13 hc14 => O.as rfl <| JO.nil <| J.ret3 rfl (.cell rfl hc14 rfl) (.cell rfl hc13 rfl) (.tmp rfl) fun W' iE iP => ?_
        exact ⟨_, _, rfl, mkI hs4.to, mkI hs5.to⟩
    · skip
      refine O.set (t := 31) (.bool false) rfl (congrArg Value.bool (by have h := Classical.not_not.1 hg31; show (decide (z < 0) != decide (z' < 0)) = false; rw [h]; simp)) <| O.gs rfl rfl rfl <| O.gs rfl rfl rfl <| O.gs rfl rfl rfl <| O.pickF rfl rfl <| JO.nil <| ?_
      refine J.cut (α := (Option Addr × Nat × Nat × Nat) × Option Addr × Nat × Nat × Nat) (fun q => [(2, .pointer (some ⟨b1, 0, none⟩)), (3, .pointer (some ⟨b2, 0, none⟩)), (4, .pointer (some ⟨b3, 0, none⟩)), (5, .pointer (some ⟨b4, 0, none⟩)), (8, .slice q.1.1 q.1.2.1 q.1.2.2.1), (9, .slice q.2.1 q.2.2.1 q.2.2.2.1)]) (fun q W => Lk W4 W ∧ Lk W3 W ∧ Le W0 W ∧ Le W1 W ∧ Le W2 W ∧ Sl RW W q.1.1 q.1.2.1 q.1.2.2.1 (dig q.1.2.2.2) ∧ Sl RW W q.2.1 q.2.2.1 q.2.2.2.1 (dig q.2.2.2.2) ∧ sg (decide (z < 0) != decide (z' < 0)) q.1.2.2.2 = z.fdiv z' ∧ sg (decide (z' < 0)) q.2.2.2.2 = z.fmod z') ?_ ?_
      · skip
        refine J.condF rfl <| J.skip <| ?_
        have hf := fdm_same hz0 (Classical.not_not.1 hg31)
        exact J.at' ((pq, mq, cq, z.natAbs / z'.natAbs), pr, mr, cr, z.natAbs % z'.natAbs) ⟨rfl, rfl, rfl, rfl, rfl, rfl, trivial⟩ ⟨inferInstance, inferInstance, inferInstance, inferInstance, inferInstance, hsq.to, hsr.to, hf.1, hf.2⟩
      · skip
        have hb34 : b3 ≠ b4 := by
          obtain ⟨_, hb3'⟩ := hc3
          have : b3 < W3.size := lt_of_heap hb3'
          omega
        rintro ⟨⟨p1, n1, c1, x1⟩, p2, n2, c2, x2⟩ W11 ⟨iL, _, _, _, _, h1, h2, hf1, hf2⟩
        dsimp only at *
        refine J.seq <| ?_
        refine J.draw [.ex _, .ex _, .ex _, .ex _, .ex _, .ex _, .rel _, .ex _, .ex _, .ex _, .rel _] rfl rfl ⟨fun W1 i1 e1 _ => O.fa rfl <| D.ex, fun W1 i1 e1 _ => O.ldB rfl hb1.to rfl <| D.ex, fun W1 i1 e1 _ => O.fa rfl <| D.ex, fun W1 i1 e1 _ => O.ldB rfl hb2.to rfl <| D.ex, fun W1 i1 e1 _ => O.bne rfl rfl <| D.ex, fun W1 i1 e1 _ => O.mv rfl <| D.ex, fun W1 i1 e1 _ => O.call rfl (integer_signedd_ok (decide (z < 0) != decide (z' < 0)) h1.to) fun W5 v5 i5 e5 h5 => D.rel e5 h5 V.me, fun W1 i1 e1 _ => O.fa rfl <| D.ex, fun W1 i1 e1 _ => O.ldB rfl hb2.to rfl <| D.ex, fun W1 i1 e1 _ => O.mv rfl <| D.ex, fun W1 i1 e1 _ => fun v48 h48 => O.call rfl (integer_signedd_ok (decide (z' < 0)) h2.to) fun W5 v5 i5 e5 h5 => D.rel e5 h5 V.me, trivial⟩ ?_
        intro W1 i1 e1 v48 h48 v52 h52
        rw [hf1] at h48
        rw [hf2] at h52
        obtain ⟨p4, m4, c4, rfl, hs4⟩ := unI h48
        obtain ⟨p5, m5, c5, rfl, hs5⟩ := unI h52
        refine O.st rfl rfl hl3.to rfl (by simp [oneC, Value.cells]) fun W12 i12 hc12 => O.stC rfl rfl hl4.to rfl (by simp [oneC, Value.cells]) hc12 hb34 fun W13 i13 hc13 hc14 => O.as rfl <| JO.nil <| J.ret3 rfl (.cell rfl hc14 rfl) (.cell rfl hc13 rfl) (.tmp rfl) fun W' iE iP => ?_
        exact ⟨_, _, rfl, mkI hs4.to, mkI hs5.to⟩
end Go.Proofs.YtcobdnnfmhfenaaGreat
