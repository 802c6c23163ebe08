/- The reference's rational numbers, second part: sums and products. -/
import Derived.Test.YtcaikjefkkejbaaGreatKz
import Derived.Test.YtcaikjefkkejbaaGreatLa
set_option linter.unusedVariables false
set_option linter.unusedSimpArgs false
set_option maxRecDepth 10000
set_option maxHeartbeats 2000000
namespace Go.Proofs.YtcaikjefkkejbaaGreat
open Go Go.Rx Go.Num
theorem Zs.fdv {p : Nat} {z g : Int} (h : Zs p z) (hg : 0 < g) : Zs p (z.fdiv g) := by
  unfold Zs at *
  rw [Int.fdiv_eq_ediv_of_nonneg _ (by omega)]
  have : (z / g).natAbs ≤ z.natAbs := Int.natAbs_ediv_le_natAbs ..
  omega
theorem ref02_quo_ok {W : GW} {v v' : Value} {z z' : Int} (h : V RI W v (ci z)) (h' : V RI W v' (ci z')) (hl : (dig z.natAbs).length ≤ 1099511627776) (hl' : (dig z'.natAbs).length ≤ 1099511627776) (hz : z' ≠ 0) :
    Ok Tryz.prog 77 [v, v'] W fun W' r => V RI W' r (ci (z.fdiv z')) := by
  refine Ok.enter Tryz.func77 rfl rfl rfl rfl fun W0 iEn => ?_
  refine J.seq <| J.reg rfl <| O.boxT rfl h.to fun W2 b2 i2 hb2 => O.boxT rfl h'.to fun W3 b3 i3 hb3 => ?_
  refine O.allocE fun W4 b4 i4 e4 hl4 hc4 hz4 => ?_
  refine JO.nil <| J.seq <| J.reg rfl <| O.ldT rfl hb2.to.h rfl rfl (fun h => nomatch h) fun v9 h9 => O.ldT rfl hb3.to.h rfl rfl (fun h => nomatch h) fun v10 h10 => O.call rfl (ref01_DivMod_ok h9.to h10.to hl hl' hz) fun W11 v11 i11 e11 h11 => ?_
  obtain ⟨v12, v13, rfl, h12, h13⟩ := h11
  refine O.mv rfl <| O.ext rfl rfl <| O.ext rfl rfl <| O.ext rfl rfl <| ?_
  refine O.allocE fun W5 b5 i5 e5 hl5 hc5 hz5 => ?_
  have n4_5 : b4 ≠ b5 := Nat.ne_of_lt (Nat.lt_of_lt_of_le (by exact hl4.to.lt) hz5)
  refine O.allocE fun W6 b6 i6 e6 hl6 hc6 hz6 => ?_
  have n4_6 : b4 ≠ b6 := Nat.ne_of_lt (Nat.lt_of_lt_of_le (by exact hl4.to.lt) hz6)
  have n5_6 : b5 ≠ b6 := Nat.ne_of_lt (Nat.lt_of_lt_of_le (by exact hl5.to.lt) hz6)
  refine O.stT rfl rfl hl5.to h12.to rfl fun Ws1 is1 hb5 F5 => ?_
  have hl4 := F5.loc hl4.to n4_5
  have hl6 := F5.loc hl6.to n5_6.symm
  refine O.stT rfl rfl hl6.to h13.to rfl fun Ws2 is2 hb6 F6 => ?_
  have hl4 := F6.loc hl4.to n4_6
  refine O.as rfl <| JO.nil <| J.seq <| J.reg rfl <| O.ldT rfl hb5.to.h rfl rfl (fun h => nomatch h) fun v15 h15 => ?_
  refine O.stT rfl rfl hl4.to h15.to rfl fun Ws3 is3 hb4 F4 => ?_
  refine JO.nil <| J.retT rfl rfl hb4.to.h rfl rfl fun W' v' iE iP hv' => ?_
  exact hv'.to
theorem ref02_Neg_ok {W : GW} {v : Value} {x : Rat} (h : V RQ W v (cq x)) :
    Ok Tryz.prog 45 [v] W fun W' r => V RQ W' r (cq (-x)) := by
  refine Ok.enter Tryz.func45 rfl rfl rfl rfl fun W0 iEn => ?_
  refine J.seq <| J.reg rfl <| O.boxT rfl h.to fun W1 b1 i1 hb1 => ?_
  refine O.allocE fun W2 b2 i2 e2 hl2 hc2 hz2 => ?_
  refine JO.nil <| J.seq <| ?_
  refine J.draw [.ex _, .rel _, .rel _, .ex _, .rel _] rfl rfl ⟨fun Wd id ed _ => O.fa rfl <| D.ex, fun Wd id ed _ => O.ldTD rfl hb1.to.h.f rfl rfl (fun h => nomatch h), fun Wd id ed _ => fun v4 h4 => O.call rfl (ref01_Neg_ok h4) fun Wd vd id ed hd => D.rel ed hd V.me, fun Wd id ed _ => O.fa rfl <| D.ex, fun Wd id ed _ => O.ldTD rfl hb1.to.h.s rfl rfl (fun h => nomatch h), trivial⟩ ?_
  intro Wr1 ir1 er1 v4 h4 v5 h5 v7 h7
  refine O.bldT rfl rfl h5.to h7.to rfl rfl fun v8 h8 => ?_
  refine O.stT rfl rfl hl2.to h8.to rfl fun Ws1 is1 hb2 F2 => ?_
  refine JO.nil <| J.retT rfl rfl hb2.to.h rfl rfl fun W' v' iE iP hv' => ?_
  have e : cq (-x) = (ci (-x.num), ci x.den) := by rw [cq, Rat.neg_num, Rat.neg_den]
  rw [e]
  exact hv'.to
theorem fd_td {a g : Int} (h : g ∣ a) (hg : 0 ≤ g) : a.fdiv g = a.tdiv g := by
  rw [Int.fdiv_eq_ediv_of_nonneg _ hg, Int.tdiv_eq_ediv_of_dvd h]
theorem fd_nat (a g : Nat) : (a : Int).fdiv g = ((a / g : Nat) : Int) := by
  rw [Int.fdiv_eq_ediv_of_nonneg _ (by omega), Int.natCast_ediv]
theorem num_mulq (x y : Rat) : (x * y).num = x.num.fdiv (Int.gcd x.num y.den : Int) * y.num.fdiv (Int.gcd y.num x.den : Int) := by
  show (Rat.mul x y).num = _
  delta Rat.mul
  simp only [Int.divExact_eq_tdiv]
  rw [fd_td (Int.gcd_dvd_left ..) (by omega), fd_td (Int.gcd_dvd_left ..) (by omega)]
  rfl
theorem den_mulq (x y : Rat) : ((x * y).den : Int) = (x.den : Int).fdiv (Int.gcd y.num x.den : Int) * (y.den : Int).fdiv (Int.gcd x.num y.den : Int) := by
  show ((Rat.mul x y).den : Int) = _
  delta Rat.mul
  simp only [Nat.divExact_eq_div]
  rw [fd_nat, fd_nat]
  rfl
theorem num_addc {x y : Rat} (h : (Int.gcd x.den y.den : Int) = 1) : (x + y).num = x.num * y.den + y.num * x.den ∧ (x + y).den = x.den * y.den := by
  have hg : x.den.gcd y.den = 1 := by have : (x.den.gcd y.den : Int) = 1 := h; omega
  show (Rat.add x y).num = _ ∧ (Rat.add x y).den = _
  delta Rat.add
  simp only [hg]
  exact ⟨rfl, rfl⟩
theorem num_addg {x y : Rat} (h : ¬ (Int.gcd x.den y.den : Int) = 1) : (x + y).num = (x.num * (y.den : Int).fdiv (Int.gcd x.den y.den : Int) + y.num * (x.den : Int).fdiv (Int.gcd x.den y.den : Int)).fdiv (Int.gcd (x.num * (y.den : Int).fdiv (Int.gcd x.den y.den : Int) + y.num * (x.den : Int).fdiv (Int.gcd x.den y.den : Int)) (Int.gcd x.den y.den : Int) : Int) ∧
    ((x + y).den : Int) = (x.den : Int).fdiv (Int.gcd x.den y.den : Int) * (y.den : Int).fdiv (Int.gcd (x.num * (y.den : Int).fdiv (Int.gcd x.den y.den : Int) + y.num * (x.den : Int).fdiv (Int.gcd x.den y.den : Int)) (Int.gcd x.den y.den : Int) : Int) := by
  have hg : ¬ x.den.gcd y.den = 1 := fun e => h (by show ((x.den.gcd y.den : Nat) : Int) = 1; rw [e]; rfl)
  have eg : Int.gcd (x.den : Int) (y.den : Int) = x.den.gcd y.den := rfl
  rw [eg, fd_nat, fd_nat]
  generalize hn : x.num * ((y.den / x.den.gcd y.den : Nat) : Int) + y.num * ((x.den / x.den.gcd y.den : Nat) : Int) = n
  have et : Int.gcd n ((x.den.gcd y.den : Nat) : Int) = n.natAbs.gcd (x.den.gcd y.den) := rfl
  have htd : n.natAbs.gcd (x.den.gcd y.den) ∣ y.den := Nat.dvd_trans (Nat.gcd_dvd_right ..) (Nat.gcd_dvd_right ..)
  rw [fd_td (Int.gcd_dvd_left ..) (by omega), et, fd_nat]
  have e : Rat.add x y = x + y := rfl
  delta Rat.add at e
  simp only [hg, hn, dif_neg, not_false_eq_true, Rat.maybeNormalize_eq] at e
  rw [← e]
  refine ⟨by simp only [Int.divExact_eq_tdiv], ?_⟩
  simp only [Nat.divExact_eq_div]
  rw [← Int.natCast_mul, Nat.mul_div_assoc _ htd]
theorem gcd_neZ {a b : Int} (h : b ≠ 0) : (Int.gcd a b : Int) ≠ 0 := by have := @gcd_ne a b h; omega
theorem zero_of {x : Rat} {W : GW} {p : Option Addr} {m c : Nat} (h : Sl RW W p m c (dig x.num.natAbs)) (h0 : (m : Int) = 0) : x = 0 := by
  have := h.hn
  have := (@dig_len0 x.num.natAbs).1 (by omega)
  exact Rat.num_eq_zero.1 (by omega)
theorem ref02_Mul_ok {W : GW} {v v' : Value} {x y : Rat} {p q : Nat} (h : V RQ W v (cq x)) (h' : V RQ W v' (cq y)) (hx : Qs p x) (hy : Qs q y) (hp : p + q + 1 ≤ 17592186044416) :
    Ok Tryz.prog 46 [v, v'] W fun W' r => V RQ W' r (cq (x * y)) := by
  have hg1 := hy.d.gcd (x := x.num) (den_ne y)
  have hg2 := hx.d.gcd (x := y.num) (den_ne x)
  have k1 := @gcd_neZ x.num y.den (den_ne y)
  have k2 := @gcd_neZ y.num x.den (den_ne x)
  refine Ok.enter Tryz.func46 rfl rfl rfl rfl fun W0 iEn => ?_
  refine J.seq <| J.reg rfl <| O.boxT rfl h.to fun W2 b2 i2 hb2 => O.boxT rfl h'.to fun W3 b3 i3 hb3 => ?_
  refine O.allocE fun W4 b4 i4 e4 hl4 hc4 hz4 => ?_
  refine JO.nil <| J.seq <| J.seq <| J.reg rfl <| O.fa rfl <| O.fa rfl <| ?_
  refine O.ldTs rfl hb2.to.h.f.s fun p9 m9 c9 s9 => ?_
  have h9 := s9.v
  refine O.len rfl <| O.eq rfl rfl <| O.mv rfl <| ?_
  by_cases hg12 : (m9 : Int) = 0
  · skip
    have hz : x * y = 0 := by rw [zero_of s9 hg12, Rat.zero_mul]
    refine O.set (t := 12) (.bool true) rfl (by simp only [Value.bool.injEq, decide_eq_true_eq, decide_eq_false_iff_not]; omega) <| O.gs rfl rfl rfl <| O.gs rfl rfl rfl <| O.gs rfl rfl rfl <| O.gs rfl rfl rfl <| O.gs rfl rfl rfl <| O.pickT rfl rfl <| JO.nil <| J.condT rfl <| J.seq <| J.reg rfl <| O.call rfl (ref02_FromInt_ok (z := 0) (by decide)) fun W19 v19 i19 e19 h19 => ?_
    refine O.stT rfl rfl hl4.to h19.to rfl fun Ws1 is1 hb4 F4 => ?_
    refine JO.nil <| J.retT rfl rfl hb4.to.h rfl rfl fun W' v' iE iP hv' => ?_
    rw [hz]
    exact hv'.to
  · skip
    refine O.set (t := 12) (.bool false) rfl (by simp only [Value.bool.injEq, decide_eq_true_eq, decide_eq_false_iff_not]; omega) <| O.gt rfl rfl <| O.fa rfl <| O.gt rfl rfl <| O.fa rfl <| O.gt rfl rfl <| ?_
    refine O.ldTs rfl hb3.to.h.f.s fun p15 m15 c15 s15 => ?_
    have h15 := s15.v
    refine O.gt rfl rfl <| O.len rfl <| O.gt rfl rfl <| O.eq rfl rfl <| O.pickF rfl rfl <| JO.nil <| J.condD rfl (fun h18 => ?_) (fun h18 => ?_)
    · skip
      have hz : x * y = 0 := by rw [zero_of s15 h18, Rat.mul_zero]
      refine J.seq <| J.reg rfl <| O.call rfl (ref02_FromInt_ok (z := 0) (by decide)) fun W19 v19 i19 e19 h19 => ?_
      refine O.stT rfl rfl hl4.to h19.to rfl fun Ws2 is2 hb4 F4 => ?_
      refine JO.nil <| J.retT rfl rfl hb4.to.h rfl rfl fun W' v' iE iP hv' => ?_
      rw [hz]
      exact hv'.to
    · skip
      refine J.skip <| J.seq <| J.seq <| J.reg rfl <| O.fa rfl <| O.ldT (r := RI) rfl hb2.to.h.s rfl rfl (fun h => nomatch h) fun v21 h21 => ?_
      refine O.call rfl (ref02_one_ok h21.to) fun W22 v22 i22 e22 h22 => ?_
      subst h22
      refine O.mv rfl <| ?_
      by_cases hg23 : (x.den : Int) = 1
      · skip
        refine O.set (t := 23) (.bool true) rfl (by simp only [Value.bool.injEq, decide_eq_true_eq, decide_eq_false_iff_not]; omega) <| O.gt rfl rfl <| O.fa rfl <| O.gt rfl rfl <| O.ldT (r := RI) rfl hb3.to.h.s rfl rfl (fun h => nomatch h) fun v25 h25 => O.gt rfl rfl <| ?_
        refine O.call rfl (ref02_one_ok h25.to) fun W26 v26 i26 e26 h26 => ?_
        subst h26
        refine O.pickT rfl rfl <| JO.nil <| J.condD rfl (fun h27 => ?_) (fun h27 => ?_)
        · skip
          refine J.seq <| ?_
          refine J.draw [.ex _, .rel _, .ex _, .rel _, .rel _, .ex _, .rel _] rfl rfl ⟨fun Wd id ed _ => O.fa rfl <| D.ex, fun Wd id ed _ => O.ldTD rfl hb2.to.h.f rfl rfl (fun h => nomatch h), fun Wd id ed _ => O.fa rfl <| D.ex, fun Wd id ed _ => O.ldTD rfl hb3.to.h.f rfl rfl (fun h => nomatch h), fun Wd id ed _ => fun v29 h29 => fun v31 h31 => O.call rfl (ref01_Mul_ok h29 h31 (hx.n.len (by omega)) (hy.n.len (by omega))) fun Wd vd id ed hd => D.rel ed hd V.me, fun Wd id ed _ => O.fa rfl <| D.ex, fun Wd id ed _ => O.ldTD rfl hb2.to.h.s rfl rfl (fun h => nomatch h), trivial⟩ ?_
          intro Wr4 ir4 er4 v29 h29 v31 h31 v32 h32 v34 h34
          refine O.bldT rfl rfl h32.to h34.to rfl rfl fun v35 h35 => ?_
          refine O.stT rfl rfl hl4.to h35.to rfl fun Ws3 is3 hb4 F4 => ?_
          refine JO.nil <| J.retT rfl rfl hb4.to.h rfl rfl fun W' v' iE iP hv' => ?_
          rw [den1_mul hg23 h27]
          rw [hg23] at hv'
          exact hv'.to
        · skip
          refine J.skip <| J.seq <| ?_
          refine J.drawN [.ex _, .rel _, .ex _, .rel _, .rel _, .ex _, .rel _, .ex _, .rel _, .rel _, .rel _, .rel _] [false, false, false, false, false, false, false, false, false, false, true, true] [0, 1, 0, 1, 2, 0, 1, 0, 1, 3, 0, 0] rfl rfl ⟨fun Wd id ed _ => O.fa rfl <| D.ex, fun Wd id ed _ => O.ldTD rfl hb2.to.h.f rfl rfl (fun h => nomatch h), fun Wd id ed _ => O.fa rfl <| D.ex, fun Wd id ed _ => O.ldTD rfl hb3.to.h.s rfl rfl (fun h => nomatch h), fun Wd id ed _ => fun v37 h37 => fun v39 h39 => O.call rfl (ref01_GCD_ok h37 h39 (hx.n.len (by omega)) (hy.d.len (by omega))) fun Wd vd id ed hd => D.rel ed hd V.me, fun Wd id ed _ => O.fa rfl <| D.ex, fun Wd id ed _ => O.ldTD rfl hb3.to.h.f rfl rfl (fun h => nomatch h), fun Wd id ed _ => O.fa rfl <| D.ex, fun Wd id ed _ => O.ldTD rfl hb2.to.h.s rfl rfl (fun h => nomatch h), fun Wd id ed _ => fun v42 h42 => fun v44 h44 => fun v40 h40 => O.call rfl (ref01_GCD_ok h42 h44 (hy.n.len (by omega)) (hx.d.len (by omega))) fun Wd vd id ed hd => D.rel ed hd V.me, fun Wd id ed _ => O.allocN (by rfl) ed.size, fun Wd id ed _ => O.allocN (by rfl) ed.size, trivial⟩ ?_
          intro Wr5 ir5 er5 v37 h37 v39 h39 v40 h40 v42 h42 v44 h44 v45 h45 v5 h5 ne5 v6 h6 ne6
          obtain ⟨b5, rfl, hl5, hz5⟩ := h5
          have n4_5 : b4 ≠ b5 := Nat.ne_of_lt (Nat.lt_of_lt_of_le (by exact hl4.to.lt) hz5)
          obtain ⟨b6, rfl, hl6, hz6⟩ := h6
          have n4_6 : b4 ≠ b6 := Nat.ne_of_lt (Nat.lt_of_lt_of_le (by exact hl4.to.lt) hz6)
          have n5_6 : b5 ≠ b6 := fun e => ne6.1 (by rw [e])
          refine O.stT rfl rfl hl5.to h40.to rfl fun Ws4 is4 hb5 F5 => ?_
          have hl4 := F5.loc hl4.to n4_5
          have hl6 := F5.loc hl6.to n5_6.symm
          refine O.stT rfl rfl hl6.to h45.to rfl fun Ws5 is5 hb6 F6 => ?_
          have hl4 := F6.loc hl4.to n4_6
          refine JO.nil <| J.seq <| ?_
          refine J.draw [.ex _, .rel _, .rel _, .rel _, .ex _, .rel _, .rel _, .rel _, .rel _, .ex _, .rel _, .rel _, .rel _, .ex _, .rel _, .rel _] rfl rfl ⟨fun Wd id ed _ => O.fa rfl <| D.ex, fun Wd id ed _ => O.ldTD rfl hb2.to.h.f rfl rfl (fun h => nomatch h), fun Wd id ed _ => O.ldTD rfl hb5.to.h rfl rfl (fun h => nomatch h), fun Wd id ed _ => fun v47 h47 => fun v48 h48 => O.call rfl (ref02_quo_ok h47 h48 (hx.n.len (by omega)) (hg1.len (by omega)) k1) fun Wd vd id ed hd => D.rel ed hd V.me, fun Wd id ed _ => O.fa rfl <| D.ex, fun Wd id ed _ => O.ldTD rfl hb3.to.h.f rfl rfl (fun h => nomatch h), fun Wd id ed _ => O.ldTD rfl hb6.to.h rfl rfl (fun h => nomatch h), fun Wd id ed _ => fun v51 h51 => fun v52 h52 => fun v49 h49 => O.call rfl (ref02_quo_ok h51 h52 (hy.n.len (by omega)) (hg2.len (by omega)) k2) fun Wd vd id ed hd => D.rel ed hd V.me, fun Wd id ed _ => fun v49 h49 => fun _ _ => fun v53 h53 => O.call rfl (ref01_Mul_ok h49 h53 ((hx.n.fdv (by omega)).len (by omega)) ((hy.n.fdv (by omega)).len (by omega))) fun Wd vd id ed hd => D.rel ed hd V.me, fun Wd id ed _ => O.fa rfl <| D.ex, fun Wd id ed _ => O.ldTD rfl hb2.to.h.s rfl rfl (fun h => nomatch h), fun Wd id ed _ => O.ldTD rfl hb6.to.h rfl rfl (fun h => nomatch h), fun Wd id ed _ => fun v56 h56 => fun v57 h57 => fun v54 h54 => O.call rfl (ref02_quo_ok h56 h57 (hx.d.len (by omega)) (hg2.len (by omega)) k2) fun Wd vd id ed hd => D.rel ed hd V.me, fun Wd id ed _ => O.fa rfl <| D.ex, fun Wd id ed _ => O.ldTD rfl hb3.to.h.s rfl rfl (fun h => nomatch h), fun Wd id ed _ => O.ldTD rfl hb5.to.h rfl rfl (fun h => nomatch h), trivial⟩ ?_
          intro Wr6 ir6 er6 v47 h47 v48 h48 v49 h49 v51 h51 v52 h52 v53 h53 v54 h54 v56 h56 v57 h57 v58 h58 v60 h60 v61 h61
          refine O.call rfl (ref02_quo_ok h60.to h61.to (hy.d.len (by omega)) (hg1.len (by omega)) k1) fun W62 v62 i62 e62 h62 => O.call rfl (ref01_Mul_ok h58.to h62.to ((hx.d.fdv (by omega)).len (by omega)) ((hy.d.fdv (by omega)).len (by omega))) fun W63 v63 i63 e63 h63 => O.bldT rfl rfl h54.to h63.to rfl rfl fun v64 h64 => ?_
          refine O.stT rfl rfl hl4.to h64.to rfl fun Ws6 is6 hb4 F4 => ?_
          refine JO.nil <| J.retT rfl rfl hb4.to.h rfl rfl fun W' v' iE iP hv' => ?_
          rw [cq, num_mulq, den_mulq]
          exact hv'.to
      · skip
        refine O.set (t := 23) (.bool false) rfl (by simp only [Value.bool.injEq, decide_eq_true_eq, decide_eq_false_iff_not]; omega) <| O.gs rfl rfl rfl <| O.gs rfl rfl rfl <| O.gs rfl rfl rfl <| O.pickF rfl rfl <| JO.nil <| J.condF rfl <| J.skip <| J.seq <| ?_
        refine J.drawN [.ex _, .rel _, .ex _, .rel _, .rel _, .ex _, .rel _, .ex _, .rel _, .rel _, .rel _, .rel _] [false, false, false, false, false, false, false, false, false, false, true, true] [0, 1, 0, 1, 2, 0, 1, 0, 1, 3, 0, 0] rfl rfl ⟨fun Wd id ed _ => O.fa rfl <| D.ex, fun Wd id ed _ => O.ldTD rfl hb2.to.h.f rfl rfl (fun h => nomatch h), fun Wd id ed _ => O.fa rfl <| D.ex, fun Wd id ed _ => O.ldTD rfl hb3.to.h.s rfl rfl (fun h => nomatch h), fun Wd id ed _ => fun v37 h37 => fun v39 h39 => O.call rfl (ref01_GCD_ok h37 h39 (hx.n.len (by omega)) (hy.d.len (by omega))) fun Wd vd id ed hd => D.rel ed hd V.me, fun Wd id ed _ => O.fa rfl <| D.ex, fun Wd id ed _ => O.ldTD rfl hb3.to.h.f rfl rfl (fun h => nomatch h), fun Wd id ed _ => O.fa rfl <| D.ex, fun Wd id ed _ => O.ldTD rfl hb2.to.h.s rfl rfl (fun h => nomatch h), fun Wd id ed _ => fun v42 h42 => fun v44 h44 => fun v40 h40 => O.call rfl (ref01_GCD_ok h42 h44 (hy.n.len (by omega)) (hx.d.len (by omega))) fun Wd vd id ed hd => D.rel ed hd V.me, fun Wd id ed _ => O.allocN (by rfl) ed.size, fun Wd id ed _ => O.allocN (by rfl) ed.size, trivial⟩ ?_
        intro Wr5 ir5 er5 v37 h37 v39 h39 v40 h40 v42 h42 v44 h44 v45 h45 v5 h5 ne5 v6 h6 ne6
        obtain ⟨b5, rfl, hl5, hz5⟩ := h5
        have n4_5 : b4 ≠ b5 := Nat.ne_of_lt (Nat.lt_of_lt_of_le (by exact hl4.to.lt) hz5)
        obtain ⟨b6, rfl, hl6, hz6⟩ := h6
        have n4_6 : b4 ≠ b6 := Nat.ne_of_lt (Nat.lt_of_lt_of_le (by exact hl4.to.lt) hz6)
        have n5_6 : b5 ≠ b6 := fun e => ne6.1 (by rw [e])
        refine O.stT rfl rfl hl5.to h40.to rfl fun Ws7 is7 hb5 F5 => ?_
        have hl4 := F5.loc hl4.to n4_5
        have hl6 := F5.loc hl6.to n5_6.symm
        refine O.stT rfl rfl hl6.to h45.to rfl fun Ws8 is8 hb6 F6 => ?_
        have hl4 := F6.loc hl4.to n4_6
        refine JO.nil <| J.seq <| ?_
        refine J.draw [.ex _, .rel _, .rel _, .rel _, .ex _, .rel _, .rel _, .rel _, .rel _, .ex _, .rel _, .rel _, .rel _, .ex _, .rel _, .rel _] rfl rfl ⟨fun Wd id ed _ => O.fa rfl <| D.ex, fun Wd id ed _ => O.ldTD rfl hb2.to.h.f rfl rfl (fun h => nomatch h), fun Wd id ed _ => O.ldTD rfl hb5.to.h rfl rfl (fun h => nomatch h), fun Wd id ed _ => fun v47 h47 => fun v48 h48 => O.call rfl (ref02_quo_ok h47 h48 (hx.n.len (by omega)) (hg1.len (by omega)) k1) fun Wd vd id ed hd => D.rel ed hd V.me, fun Wd id ed _ => O.fa rfl <| D.ex, fun Wd id ed _ => O.ldTD rfl hb3.to.h.f rfl rfl (fun h => nomatch h), fun Wd id ed _ => O.ldTD rfl hb6.to.h rfl rfl (fun h => nomatch h), fun Wd id ed _ => fun v51 h51 => fun v52 h52 => fun v49 h49 => O.call rfl (ref02_quo_ok h51 h52 (hy.n.len (by omega)) (hg2.len (by omega)) k2) fun Wd vd id ed hd => D.rel ed hd V.me, fun Wd id ed _ => fun v49 h49 => fun _ _ => fun v53 h53 => O.call rfl (ref01_Mul_ok h49 h53 ((hx.n.fdv (by omega)).len (by omega)) ((hy.n.fdv (by omega)).len (by omega))) fun Wd vd id ed hd => D.rel ed hd V.me, fun Wd id ed _ => O.fa rfl <| D.ex, fun Wd id ed _ => O.ldTD rfl hb2.to.h.s rfl rfl (fun h => nomatch h), fun Wd id ed _ => O.ldTD rfl hb6.to.h rfl rfl (fun h => nomatch h), fun Wd id ed _ => fun v56 h56 => fun v57 h57 => fun v54 h54 => O.call rfl (ref02_quo_ok h56 h57 (hx.d.len (by omega)) (hg2.len (by omega)) k2) fun Wd vd id ed hd => D.rel ed hd V.me, fun Wd id ed _ => O.fa rfl <| D.ex, fun Wd id ed _ => O.ldTD rfl hb3.to.h.s rfl rfl (fun h => nomatch h), fun Wd id ed _ => O.ldTD rfl hb5.to.h rfl rfl (fun h => nomatch h), trivial⟩ ?_
        intro Wr6 ir6 er6 v47 h47 v48 h48 v49 h49 v51 h51 v52 h52 v53 h53 v54 h54 v56 h56 v57 h57 v58 h58 v60 h60 v61 h61
        refine O.call rfl (ref02_quo_ok h60.to h61.to (hy.d.len (by omega)) (hg1.len (by omega)) k1) fun W62 v62 i62 e62 h62 => O.call rfl (ref01_Mul_ok h58.to h62.to ((hx.d.fdv (by omega)).len (by omega)) ((hy.d.fdv (by omega)).len (by omega))) fun W63 v63 i63 e63 h63 => O.bldT rfl rfl h54.to h63.to rfl rfl fun v64 h64 => ?_
        refine O.stT rfl rfl hl4.to h64.to rfl fun Ws9 is9 hb4 F4 => ?_
        refine JO.nil <| J.retT rfl rfl hb4.to.h rfl rfl fun W' v' iE iP hv' => ?_
        rw [cq, num_mulq, den_mulq]
        exact hv'.to
theorem ref02_Add_ok {W : GW} {v v' : Value} {x y : Rat} {p q : Nat} (h : V RQ W v (cq x)) (h' : V RQ W v' (cq y)) (hx : Qs p x) (hy : Qs q y) (hp : p + q + 1 ≤ 17592186044416) :
    Ok Tryz.prog 79 [v, v'] W fun W' r => V RQ W' r (cq (x + y)) := by
  have hg := hy.d.gcd (x := (x.den : Int)) (den_ne y)
  have k := @gcd_neZ (x.den : Int) y.den (den_ne y)
  have hdx := hx.d.fdv (g := (Int.gcd x.den y.den : Int)) (by omega)
  have hdy := hy.d.fdv (g := (Int.gcd x.den y.den : Int)) (by omega)
  have hn : Zs (p + q + 1) (x.num * (y.den : Int).fdiv (Int.gcd x.den y.den : Int) + y.num * (x.den : Int).fdiv (Int.gcd x.den y.den : Int)) := ((hx.n.mul hdy).add (hy.n.mul hdx)).mono (by omega)
  have ht := hg.gcd (x := x.num * (y.den : Int).fdiv (Int.gcd x.den y.den : Int) + y.num * (x.den : Int).fdiv (Int.gcd x.den y.den : Int)) k
  have kt := @gcd_neZ (x.num * (y.den : Int).fdiv (Int.gcd x.den y.den : Int) + y.num * (x.den : Int).fdiv (Int.gcd x.den y.den : Int)) _ k
  refine Ok.enter Tryz.func79 rfl rfl rfl rfl fun W0 iEn => ?_
  refine J.seq <| J.reg rfl <| O.boxT rfl h.to fun W2 b2 i2 hb2 => O.boxT rfl h'.to fun W3 b3 i3 hb3 => ?_
  refine O.allocE fun W4 b4 i4 e4 hl4 hc4 hz4 => ?_
  refine JO.nil <| J.seq <| J.seq <| J.reg rfl <| O.fa rfl <| O.fa rfl <| ?_
  refine O.ldTs rfl hb2.to.h.f.s fun p13 m13 c13 s13 => ?_
  have h13 := s13.v
  refine O.len rfl <| O.eq rfl rfl <| JO.nil <| J.condD rfl (fun h15 => ?_) (fun h15 => ?_)
  · skip
    refine J.seq <| J.reg rfl <| O.ldT rfl hb3.to.h rfl rfl (fun h => nomatch h) fun v16 h16 => ?_
    refine O.stT rfl rfl hl4.to h16.to rfl fun Ws1 is1 hb4 F4 => ?_
    refine JO.nil <| J.retT rfl rfl hb4.to.h rfl rfl fun W' v' iE iP hv' => ?_
    rw [zero_of s13 h15, Rat.zero_add]
    exact hv'.to
  · skip
    refine J.skip <| J.seq <| J.seq <| J.reg rfl <| O.fa rfl <| O.fa rfl <| ?_
    refine O.ldTs rfl hb3.to.h.f.s fun p19 m19 c19 s19 => ?_
    have h19 := s19.v
    refine O.len rfl <| O.eq rfl rfl <| JO.nil <| J.condD rfl (fun h21 => ?_) (fun h21 => ?_)
    · skip
      refine J.seq <| J.reg rfl <| O.ldT rfl hb2.to.h rfl rfl (fun h => nomatch h) fun v22 h22 => ?_
      refine O.stT rfl rfl hl4.to h22.to rfl fun Ws2 is2 hb4 F4 => ?_
      refine JO.nil <| J.retT rfl rfl hb4.to.h rfl rfl fun W' v' iE iP hv' => ?_
      rw [zero_of s19 h21, Rat.add_zero]
      exact hv'.to
    · skip
      refine J.skip <| J.seq <| J.seq <| J.reg rfl <| O.fa rfl <| O.ldT (r := RI) rfl hb2.to.h.s rfl rfl (fun h => nomatch h) fun v24 h24 => ?_
      refine O.call rfl (ref02_one_ok h24.to) fun W25 v25 i25 e25 h25 => ?_
      subst h25
      refine O.mv rfl <| ?_
      by_cases hg26 : (x.den : Int) = 1
      · skip
        refine O.set (t := 26) (.bool true) rfl (by simp only [Value.bool.injEq, decide_eq_true_eq, decide_eq_false_iff_not]; omega) <| O.gt rfl rfl <| O.fa rfl <| O.gt rfl rfl <| O.ldT (r := RI) rfl hb3.to.h.s rfl rfl (fun h => nomatch h) fun v28 h28 => O.gt rfl rfl <| ?_
        refine O.call rfl (ref02_one_ok h28.to) fun W29 v29 i29 e29 h29 => ?_
        subst h29
        refine O.pickT rfl rfl <| JO.nil <| J.condD rfl (fun h30 => ?_) (fun h30 => ?_)
        · skip
          refine J.seq <| ?_
          refine J.draw [.ex _, .rel _, .ex _, .rel _, .rel _, .ex _, .rel _] rfl rfl ⟨fun Wd id ed _ => O.fa rfl <| D.ex, fun Wd id ed _ => O.ldTD rfl hb2.to.h.f rfl rfl (fun h => nomatch h), fun Wd id ed _ => O.fa rfl <| D.ex, fun Wd id ed _ => O.ldTD rfl hb3.to.h.f rfl rfl (fun h => nomatch h), fun Wd id ed _ => fun v32 h32 => fun v34 h34 => O.call rfl (ref01_Add_ok h32 h34 (hx.n.len (by omega)) (hy.n.len (by omega))) fun Wd vd id ed hd => D.rel ed hd V.me, fun Wd id ed _ => O.fa rfl <| D.ex, fun Wd id ed _ => O.ldTD rfl hb2.to.h.s rfl rfl (fun h => nomatch h), trivial⟩ ?_
          intro Wr6 ir6 er6 v32 h32 v34 h34 v35 h35 v37 h37
          refine O.bldT rfl rfl h35.to h37.to rfl rfl fun v38 h38 => ?_
          refine O.stT rfl rfl hl4.to h38.to rfl fun Ws3 is3 hb4 F4 => ?_
          refine JO.nil <| J.retT rfl rfl hb4.to.h rfl rfl fun W' v' iE iP hv' => ?_
          rw [den1_add hg26 h30]
          rw [hg26] at hv'
          exact hv'.to
        · skip
          refine J.skip <| J.seq <| J.reg rfl <| O.fa rfl <| O.ldT (r := RI) rfl hb2.to.h.s rfl rfl (fun h => nomatch h) fun v40 h40 => O.fa rfl <| O.ldT (r := RI) rfl hb3.to.h.s rfl rfl (fun h => nomatch h) fun v42 h42 => O.call rfl (ref01_GCD_ok h40.to h42.to (hx.d.len (by omega)) (hy.d.len (by omega))) fun W43 v43 i43 e43 h43 => ?_
          refine O.allocE fun W5 b5 i5 e5 hl5 hc5 hz5 => ?_
          have n4_5 : b4 ≠ b5 := Nat.ne_of_lt (Nat.lt_of_lt_of_le (by exact hl4.to.lt) hz5)
          refine O.stT rfl rfl hl5.to h43.to rfl fun Ws4 is4 hb5 F5 => ?_
          have hl4 := F5.loc hl4.to n4_5
          refine JO.nil <| J.seq <| J.seq <| J.reg rfl <| O.ldT rfl hb5.to.h rfl rfl (fun h => nomatch h) fun v44 h44 => ?_
          refine O.call rfl (ref02_one_ok h44.to) fun W45 v45 i45 e45 h45 => ?_
          subst h45
          refine JO.nil <| J.condD rfl (fun h45 => ?_) (fun h45 => ?_)
          · skip
            refine J.seq <| ?_
            refine J.drawN [.ex _, .rel _, .ex _, .rel _, .rel _, .ex _, .rel _, .ex _, .rel _, .rel _, .rel _, .rel _] [false, false, false, false, false, false, false, false, false, false, false, true] [0, 1, 0, 1, 2, 0, 1, 0, 1, 3, 4, 0] rfl rfl ⟨fun Wd id ed _ => O.fa rfl <| D.ex, fun Wd id ed _ => O.ldTD rfl hb2.to.h.f rfl rfl (fun h => nomatch h), fun Wd id ed _ => O.fa rfl <| D.ex, fun Wd id ed _ => O.ldTD rfl hb3.to.h.s rfl rfl (fun h => nomatch h), fun Wd id ed _ => fun v47 h47 => fun v49 h49 => O.call rfl (ref01_Mul_ok h47 h49 (hx.n.len (by omega)) (hy.d.len (by omega))) fun Wd vd id ed hd => D.rel ed hd V.me, fun Wd id ed _ => O.fa rfl <| D.ex, fun Wd id ed _ => O.ldTD rfl hb3.to.h.f rfl rfl (fun h => nomatch h), fun Wd id ed _ => O.fa rfl <| D.ex, fun Wd id ed _ => O.ldTD rfl hb2.to.h.s rfl rfl (fun h => nomatch h), fun Wd id ed _ => fun v52 h52 => fun v54 h54 => fun v50 h50 => O.call rfl (ref01_Mul_ok h52 h54 (hy.n.len (by omega)) (hx.d.len (by omega))) fun Wd vd id ed hd => D.rel ed hd V.me, fun Wd id ed _ => fun v50 h50 => fun _ _ => fun v55 h55 => O.call rfl (ref01_Add_ok h50 h55 ((hx.n.mul hy.d).len (by omega)) ((hy.n.mul hx.d).len (by omega))) fun Wd vd id ed hd => D.rel ed hd V.me, fun Wd id ed _ => O.allocN (by rfl) ed.size, trivial⟩ ?_
            intro Wr9 ir9 er9 v47 h47 v49 h49 v50 h50 v52 h52 v54 h54 v55 h55 v56 h56 v6 h6 ne6
            obtain ⟨b6, rfl, hl6, hz6⟩ := h6
            have n4_6 : b4 ≠ b6 := Nat.ne_of_lt (Nat.lt_of_lt_of_le (by exact hl4.to.lt) hz6)
            refine O.stT rfl rfl hl6.to h56.to rfl fun Ws5 is5 hb6 F6 => ?_
            have hl4 := F6.loc hl4.to n4_6
            refine JO.nil <| J.seq <| ?_
            refine J.draw [.rel _, .ex _, .rel _, .ex _, .rel _, .rel _] rfl rfl ⟨fun Wd id ed _ => O.ldTD rfl hb6.to.h rfl rfl (fun h => nomatch h), fun Wd id ed _ => O.fa rfl <| D.ex, fun Wd id ed _ => O.ldTD rfl hb2.to.h.s rfl rfl (fun h => nomatch h), fun Wd id ed _ => O.fa rfl <| D.ex, fun Wd id ed _ => O.ldTD rfl hb3.to.h.s rfl rfl (fun h => nomatch h), fun Wd id ed _ => fun v59 h59 => fun v61 h61 => O.call rfl (ref01_Mul_ok h59 h61 (hx.d.len (by omega)) (hy.d.len (by omega))) fun Wd vd id ed hd => D.rel ed hd V.me, trivial⟩ ?_
            intro Wr10 ir10 er10 v57 h57 v59 h59 v61 h61 v62 h62
            refine O.bldT rfl rfl h57.to h62.to rfl rfl fun v63 h63 => ?_
            refine O.stT rfl rfl hl4.to h63.to rfl fun Ws6 is6 hb4 F4 => ?_
            refine JO.nil <| J.retT rfl rfl hb4.to.h rfl rfl fun W' v' iE iP hv' => ?_
            have e : cq (x + y) = (ci (x.num * y.den + y.num * x.den), ci ((x.den : Int) * y.den)) := by rw [cq, (num_addc h45).1, (num_addc h45).2, Int.natCast_mul]
            rw [e]
            exact hv'.to
          · skip
            refine J.skip <| J.seq <| ?_
            refine J.drawN [.ex _, .rel _, .rel _, .rel _, .ex _, .rel _, .rel _, .rel _, .rel _, .rel _] [false, false, false, false, false, false, false, false, true, true] [0, 1, 0, 2, 0, 1, 0, 3, 0, 0] rfl rfl ⟨fun Wd id ed _ => O.fa rfl <| D.ex, fun Wd id ed _ => O.ldTD rfl hb2.to.h.s rfl rfl (fun h => nomatch h), fun Wd id ed _ => O.ldTD rfl hb5.to.h rfl rfl (fun h => nomatch h), fun Wd id ed _ => fun v65 h65 => fun v66 h66 => O.call rfl (ref02_quo_ok h65 h66 (hx.d.len (by omega)) (hg.len (by omega)) k) fun Wd vd id ed hd => D.rel ed hd V.me, fun Wd id ed _ => O.fa rfl <| D.ex, fun Wd id ed _ => O.ldTD rfl hb3.to.h.s rfl rfl (fun h => nomatch h), fun Wd id ed _ => O.ldTD rfl hb5.to.h rfl rfl (fun h => nomatch h), fun Wd id ed _ => fun v69 h69 => fun v70 h70 => fun v67 h67 => O.call rfl (ref02_quo_ok h69 h70 (hy.d.len (by omega)) (hg.len (by omega)) k) fun Wd vd id ed hd => D.rel ed hd V.me, fun Wd id ed _ => O.allocN (by rfl) ed.size, fun Wd id ed _ => O.allocN (by rfl) ed.size, trivial⟩ ?_
            intro Wr11 ir11 er11 v65 h65 v66 h66 v67 h67 v69 h69 v70 h70 v71 h71 v7 h7 ne7 v8 h8 ne8
            obtain ⟨b7, rfl, hl7, hz7⟩ := h7
            have n4_7 : b4 ≠ b7 := Nat.ne_of_lt (Nat.lt_of_lt_of_le (by exact hl4.to.lt) hz7)
            obtain ⟨b8, rfl, hl8, hz8⟩ := h8
            have n4_8 : b4 ≠ b8 := Nat.ne_of_lt (Nat.lt_of_lt_of_le (by exact hl4.to.lt) hz8)
            have n7_8 : b7 ≠ b8 := fun e => ne8.1 (by rw [e])
            refine O.stT rfl rfl hl7.to h67.to rfl fun Ws7 is7 hb7 F7 => ?_
            have hl4 := F7.loc hl4.to n4_7
            have hl8 := F7.loc hl8.to n7_8.symm
            refine O.stT rfl rfl hl8.to h71.to rfl fun Ws8 is8 hb8 F8 => ?_
            have hl4 := F8.loc hl4.to n4_8
            refine JO.nil <| J.seq <| ?_
            refine J.drawN [.ex _, .rel _, .rel _, .rel _, .ex _, .rel _, .rel _, .rel _, .rel _, .rel _] [false, false, false, false, false, false, false, false, false, true] [0, 1, 0, 2, 0, 1, 0, 3, 4, 0] rfl rfl ⟨fun Wd id ed _ => O.fa rfl <| D.ex, fun Wd id ed _ => O.ldTD rfl hb2.to.h.f rfl rfl (fun h => nomatch h), fun Wd id ed _ => O.ldTD rfl hb8.to.h rfl rfl (fun h => nomatch h), fun Wd id ed _ => fun v73 h73 => fun v74 h74 => O.call rfl (ref01_Mul_ok h73 h74 (hx.n.len (by omega)) (hdy.len (by omega))) fun Wd vd id ed hd => D.rel ed hd V.me, fun Wd id ed _ => O.fa rfl <| D.ex, fun Wd id ed _ => O.ldTD rfl hb3.to.h.f rfl rfl (fun h => nomatch h), fun Wd id ed _ => O.ldTD rfl hb7.to.h rfl rfl (fun h => nomatch h), fun Wd id ed _ => fun v77 h77 => fun v78 h78 => fun v75 h75 => O.call rfl (ref01_Mul_ok h77 h78 (hy.n.len (by omega)) (hdx.len (by omega))) fun Wd vd id ed hd => D.rel ed hd V.me, fun Wd id ed _ => fun v75 h75 => fun _ _ => fun v79 h79 => O.call rfl (ref01_Add_ok h75 h79 ((hx.n.mul hdy).len (by omega)) ((hy.n.mul hdx).len (by omega))) fun Wd vd id ed hd => D.rel ed hd V.me, fun Wd id ed _ => O.allocN (by rfl) ed.size, trivial⟩ ?_
            intro Wr12 ir12 er12 v73 h73 v74 h74 v75 h75 v77 h77 v78 h78 v79 h79 v80 h80 v9 h9 ne9
            obtain ⟨b9, rfl, hl9, hz9⟩ := h9
            have n4_9 : b4 ≠ b9 := Nat.ne_of_lt (Nat.lt_of_lt_of_le (by exact hl4.to.lt) hz9)
            refine O.stT rfl rfl hl9.to h80.to rfl fun Ws9 is9 hb9 F9 => ?_
            have hl4 := F9.loc hl4.to n4_9
            refine JO.nil <| J.seq <| J.reg rfl <| O.ldT rfl hb9.to.h rfl rfl (fun h => nomatch h) fun v81 h81 => O.ldT rfl hb5.to.h rfl rfl (fun h => nomatch h) fun v82 h82 => O.call rfl (ref01_GCD_ok h81.to h82.to (hn.len (by omega)) (hg.len (by omega))) fun W83 v83 i83 e83 h83 => ?_
            refine O.allocE fun W10 b10 i10 e10 hl10 hc10 hz10 => ?_
            have n4_10 : b4 ≠ b10 := Nat.ne_of_lt (Nat.lt_of_lt_of_le (by exact hl4.to.lt) hz10)
            refine O.stT rfl rfl hl10.to h83.to rfl fun Ws10 is10 hb10 F10 => ?_
            have hl4 := F10.loc hl4.to n4_10
            refine JO.nil <| J.seq <| ?_
            refine J.draw [.rel _, .rel _, .rel _, .rel _, .ex _, .rel _, .rel _, .rel _] rfl rfl ⟨fun Wd id ed _ => O.ldTD rfl hb9.to.h rfl rfl (fun h => nomatch h), fun Wd id ed _ => O.ldTD rfl hb10.to.h rfl rfl (fun h => nomatch h), fun Wd id ed _ => fun v84 h84 => fun v85 h85 => O.call rfl (ref02_quo_ok h84 h85 (hn.len (by omega)) (ht.len (by omega)) kt) fun Wd vd id ed hd => D.rel ed hd V.me, fun Wd id ed _ => O.ldTD rfl hb7.to.h rfl rfl (fun h => nomatch h), fun Wd id ed _ => O.fa rfl <| D.ex, fun Wd id ed _ => O.ldTD rfl hb3.to.h.s rfl rfl (fun h => nomatch h), fun Wd id ed _ => O.ldTD rfl hb10.to.h rfl rfl (fun h => nomatch h), fun Wd id ed _ => fun v89 h89 => fun v90 h90 => fun v86 h86 => O.call rfl (ref02_quo_ok h89 h90 (hy.d.len (by omega)) (ht.len (by omega)) kt) fun Wd vd id ed hd => D.rel ed hd V.me, trivial⟩ ?_
            intro Wr14 ir14 er14 v84 h84 v85 h85 v86 h86 v87 h87 v89 h89 v90 h90 v91 h91
            refine O.call rfl (ref01_Mul_ok h87.to h91.to (hdx.len (by omega)) ((hy.d.fdv (by omega)).len (by omega))) fun W92 v92 i92 e92 h92 => O.bldT rfl rfl h86.to h92.to rfl rfl fun v93 h93 => ?_
            refine O.stT rfl rfl hl4.to h93.to rfl fun Ws11 is11 hb4 F4 => ?_
            refine JO.nil <| J.retT rfl rfl hb4.to.h rfl rfl fun W' v' iE iP hv' => ?_
            rw [cq, (num_addg h45).1, (num_addg h45).2]
            exact hv'.to
      · skip
        refine O.set (t := 26) (.bool false) rfl (by simp only [Value.bool.injEq, decide_eq_true_eq, decide_eq_false_iff_not]; omega) <| O.gs rfl rfl rfl <| O.gs rfl rfl rfl <| O.gs rfl rfl rfl <| O.pickF rfl rfl <| JO.nil <| J.condF rfl <| J.skip <| J.seq <| J.reg rfl <| O.fa rfl <| O.ldT (r := RI) rfl hb2.to.h.s rfl rfl (fun h => nomatch h) fun v40 h40 => O.fa rfl <| O.ldT (r := RI) rfl hb3.to.h.s rfl rfl (fun h => nomatch h) fun v42 h42 => O.call rfl (ref01_GCD_ok h40.to h42.to (hx.d.len (by omega)) (hy.d.len (by omega))) fun W43 v43 i43 e43 h43 => ?_
        refine O.allocE fun W5 b5 i5 e5 hl5 hc5 hz5 => ?_
        have n4_5 : b4 ≠ b5 := Nat.ne_of_lt (Nat.lt_of_lt_of_le (by exact hl4.to.lt) hz5)
        refine O.stT rfl rfl hl5.to h43.to rfl fun Ws12 is12 hb5 F5 => ?_
        have hl4 := F5.loc hl4.to n4_5
        refine JO.nil <| J.seq <| J.seq <| J.reg rfl <| O.ldT rfl hb5.to.h rfl rfl (fun h => nomatch h) fun v44 h44 => ?_
        refine O.call rfl (ref02_one_ok h44.to) fun W45 v45 i45 e45 h45 => ?_
        subst h45
        refine JO.nil <| J.condD rfl (fun h45 => ?_) (fun h45 => ?_)
        · skip
          refine J.seq <| ?_
          refine J.drawN [.ex _, .rel _, .ex _, .rel _, .rel _, .ex _, .rel _, .ex _, .rel _, .rel _, .rel _, .rel _] [false, false, false, false, false, false, false, false, false, false, false, true] [0, 1, 0, 1, 2, 0, 1, 0, 1, 3, 4, 0] rfl rfl ⟨fun Wd id ed _ => O.fa rfl <| D.ex, fun Wd id ed _ => O.ldTD rfl hb2.to.h.f rfl rfl (fun h => nomatch h), fun Wd id ed _ => O.fa rfl <| D.ex, fun Wd id ed _ => O.ldTD rfl hb3.to.h.s rfl rfl (fun h => nomatch h), fun Wd id ed _ => fun v47 h47 => fun v49 h49 => O.call rfl (ref01_Mul_ok h47 h49 (hx.n.len (by omega)) (hy.d.len (by omega))) fun Wd vd id ed hd => D.rel ed hd V.me, fun Wd id ed _ => O.fa rfl <| D.ex, fun Wd id ed _ => O.ldTD rfl hb3.to.h.f rfl rfl (fun h => nomatch h), fun Wd id ed _ => O.fa rfl <| D.ex, fun Wd id ed _ => O.ldTD rfl hb2.to.h.s rfl rfl (fun h => nomatch h), fun Wd id ed _ => fun v52 h52 => fun v54 h54 => fun v50 h50 => O.call rfl (ref01_Mul_ok h52 h54 (hy.n.len (by omega)) (hx.d.len (by omega))) fun Wd vd id ed hd => D.rel ed hd V.me, fun Wd id ed _ => fun v50 h50 => fun _ _ => fun v55 h55 => O.call rfl (ref01_Add_ok h50 h55 ((hx.n.mul hy.d).len (by omega)) ((hy.n.mul hx.d).len (by omega))) fun Wd vd id ed hd => D.rel ed hd V.me, fun Wd id ed _ => O.allocN (by rfl) ed.size, trivial⟩ ?_
          intro Wr9 ir9 er9 v47 h47 v49 h49 v50 h50 v52 h52 v54 h54 v55 h55 v56 h56 v6 h6 ne6
          obtain ⟨b6, rfl, hl6, hz6⟩ := h6
          have n4_6 : b4 ≠ b6 := Nat.ne_of_lt (Nat.lt_of_lt_of_le (by exact hl4.to.lt) hz6)
          refine O.stT rfl rfl hl6.to h56.to rfl fun Ws13 is13 hb6 F6 => ?_
          have hl4 := F6.loc hl4.to n4_6
          refine JO.nil <| J.seq <| ?_
          refine J.draw [.rel _, .ex _, .rel _, .ex _, .rel _, .rel _] rfl rfl ⟨fun Wd id ed _ => O.ldTD rfl hb6.to.h rfl rfl (fun h => nomatch h), fun Wd id ed _ => O.fa rfl <| D.ex, fun Wd id ed _ => O.ldTD rfl hb2.to.h.s rfl rfl (fun h => nomatch h), fun Wd id ed _ => O.fa rfl <| D.ex, fun Wd id ed _ => O.ldTD rfl hb3.to.h.s rfl rfl (fun h => nomatch h), fun Wd id ed _ => fun v59 h59 => fun v61 h61 => O.call rfl (ref01_Mul_ok h59 h61 (hx.d.len (by omega)) (hy.d.len (by omega))) fun Wd vd id ed hd => D.rel ed hd V.me, trivial⟩ ?_
          intro Wr10 ir10 er10 v57 h57 v59 h59 v61 h61 v62 h62
          refine O.bldT rfl rfl h57.to h62.to rfl rfl fun v63 h63 => ?_
          refine O.stT rfl rfl hl4.to h63.to rfl fun Ws14 is14 hb4 F4 => ?_
          refine JO.nil <| J.retT rfl rfl hb4.to.h rfl rfl fun W' v' iE iP hv' => ?_
          have e : cq (x + y) = (ci (x.num * y.den + y.num * x.den), ci ((x.den : Int) * y.den)) := by rw [cq, (num_addc h45).1, (num_addc h45).2, Int.natCast_mul]
          rw [e]
          exact hv'.to
        · skip
          refine J.skip <| J.seq <| ?_
          refine J.drawN [.ex _, .rel _, .rel _, .rel _, .ex _, .rel _, .rel _, .rel _, .rel _, .rel _] [false, false, false, false, false, false, false, false, true, true] [0, 1, 0, 2, 0, 1, 0, 3, 0, 0] rfl rfl ⟨fun Wd id ed _ => O.fa rfl <| D.ex, fun Wd id ed _ => O.ldTD rfl hb2.to.h.s rfl rfl (fun h => nomatch h), fun Wd id ed _ => O.ldTD rfl hb5.to.h rfl rfl (fun h => nomatch h), fun Wd id ed _ => fun v65 h65 => fun v66 h66 => O.call rfl (ref02_quo_ok h65 h66 (hx.d.len (by omega)) (hg.len (by omega)) k) fun Wd vd id ed hd => D.rel ed hd V.me, fun Wd id ed _ => O.fa rfl <| D.ex, fun Wd id ed _ => O.ldTD rfl hb3.to.h.s rfl rfl (fun h => nomatch h), fun Wd id ed _ => O.ldTD rfl hb5.to.h rfl rfl (fun h => nomatch h), fun Wd id ed _ => fun v69 h69 => fun v70 h70 => fun v67 h67 => O.call rfl (ref02_quo_ok h69 h70 (hy.d.len (by omega)) (hg.len (by omega)) k) fun Wd vd id ed hd => D.rel ed hd V.me, fun Wd id ed _ => O.allocN (by rfl) ed.size, fun Wd id ed _ => O.allocN (by rfl) ed.size, trivial⟩ ?_
          intro Wr11 ir11 er11 v65 h65 v66 h66 v67 h67 v69 h69 v70 h70 v71 h71 v7 h7 ne7 v8 h8 ne8
          obtain ⟨b7, rfl, hl7, hz7⟩ := h7
          have n4_7 : b4 ≠ b7 := Nat.ne_of_lt (Nat.lt_of_lt_of_le (by exact hl4.to.lt) hz7)
          obtain ⟨b8, rfl, hl8, hz8⟩ := h8
          have n4_8 : b4 ≠ b8 := Nat.ne_of_lt (Nat.lt_of_lt_of_le (by exact hl4.to.lt) hz8)
          have n7_8 : b7 ≠ b8 := fun e => ne8.1 (by rw [e])
          refine O.stT rfl rfl hl7.to h67.to rfl fun Ws15 is15 hb7 F7 => ?_
          have hl4 := F7.loc hl4.to n4_7
          have hl8 := F7.loc hl8.to n7_8.symm
          refine O.stT rfl rfl hl8.to h71.to rfl fun Ws16 is16 hb8 F8 => ?_
          have hl4 := F8.loc hl4.to n4_8
          refine JO.nil <| J.seq <| ?_
          refine J.drawN [.ex _, .rel _, .rel _, .rel _, .ex _, .rel _, .rel _, .rel _, .rel _, .rel _] [false, false, false, false, false, false, false, false, false, true] [0, 1, 0, 2, 0, 1, 0, 3, 4, 0] rfl rfl ⟨fun Wd id ed _ => O.fa rfl <| D.ex, fun Wd id ed _ => O.ldTD rfl hb2.to.h.f rfl rfl (fun h => nomatch h), fun Wd id ed _ => O.ldTD rfl hb8.to.h rfl rfl (fun h => nomatch h), fun Wd id ed _ => fun v73 h73 => fun v74 h74 => O.call rfl (ref01_Mul_ok h73 h74 (hx.n.len (by omega)) (hdy.len (by omega))) fun Wd vd id ed hd => D.rel ed hd V.me, fun Wd id ed _ => O.fa rfl <| D.ex, fun Wd id ed _ => O.ldTD rfl hb3.to.h.f rfl rfl (fun h => nomatch h), fun Wd id ed _ => O.ldTD rfl hb7.to.h rfl rfl (fun h => nomatch h), fun Wd id ed _ => fun v77 h77 => fun v78 h78 => fun v75 h75 => O.call rfl (ref01_Mul_ok h77 h78 (hy.n.len (by omega)) (hdx.len (by omega))) fun Wd vd id ed hd => D.rel ed hd V.me, fun Wd id ed _ => fun v75 h75 => fun _ _ => fun v79 h79 => O.call rfl (ref01_Add_ok h75 h79 ((hx.n.mul hdy).len (by omega)) ((hy.n.mul hdx).len (by omega))) fun Wd vd id ed hd => D.rel ed hd V.me, fun Wd id ed _ => O.allocN (by rfl) ed.size, trivial⟩ ?_
          intro Wr12 ir12 er12 v73 h73 v74 h74 v75 h75 v77 h77 v78 h78 v79 h79 v80 h80 v9 h9 ne9
          obtain ⟨b9, rfl, hl9, hz9⟩ := h9
          have n4_9 : b4 ≠ b9 := Nat.ne_of_lt (Nat.lt_of_lt_of_le (by exact hl4.to.lt) hz9)
          refine O.stT rfl rfl hl9.to h80.to rfl fun Ws17 is17 hb9 F9 => ?_
          have hl4 := F9.loc hl4.to n4_9
          refine JO.nil <| J.seq <| J.reg rfl <| O.ldT rfl hb9.to.h rfl rfl (fun h => nomatch h) fun v81 h81 => O.ldT rfl hb5.to.h rfl rfl (fun h => nomatch h) fun v82 h82 => O.call rfl (ref01_GCD_ok h81.to h82.to (hn.len (by omega)) (hg.len (by omega))) fun W83 v83 i83 e83 h83 => ?_
          refine O.allocE fun W10 b10 i10 e10 hl10 hc10 hz10 => ?_
          have n4_10 : b4 ≠ b10 := Nat.ne_of_lt (Nat.lt_of_lt_of_le (by exact hl4.to.lt) hz10)
          refine O.stT rfl rfl hl10.to h83.to rfl fun Ws18 is18 hb10 F10 => ?_
          have hl4 := F10.loc hl4.to n4_10
          refine JO.nil <| J.seq <| ?_
          refine J.draw [.rel _, .rel _, .rel _, .rel _, .ex _, .rel _, .rel _, .rel _] rfl rfl ⟨fun Wd id ed _ => O.ldTD rfl hb9.to.h rfl rfl (fun h => nomatch h), fun Wd id ed _ => O.ldTD rfl hb10.to.h rfl rfl (fun h => nomatch h), fun Wd id ed _ => fun v84 h84 => fun v85 h85 => O.call rfl (ref02_quo_ok h84 h85 (hn.len (by omega)) (ht.len (by omega)) kt) fun Wd vd id ed hd => D.rel ed hd V.me, fun Wd id ed _ => O.ldTD rfl hb7.to.h rfl rfl (fun h => nomatch h), fun Wd id ed _ => O.fa rfl <| D.ex, fun Wd id ed _ => O.ldTD rfl hb3.to.h.s rfl rfl (fun h => nomatch h), fun Wd id ed _ => O.ldTD rfl hb10.to.h rfl rfl (fun h => nomatch h), fun Wd id ed _ => fun v89 h89 => fun v90 h90 => fun v86 h86 => O.call rfl (ref02_quo_ok h89 h90 (hy.d.len (by omega)) (ht.len (by omega)) kt) fun Wd vd id ed hd => D.rel ed hd V.me, trivial⟩ ?_
          intro Wr14 ir14 er14 v84 h84 v85 h85 v86 h86 v87 h87 v89 h89 v90 h90 v91 h91
          refine O.call rfl (ref01_Mul_ok h87.to h91.to (hdx.len (by omega)) ((hy.d.fdv (by omega)).len (by omega))) fun W92 v92 i92 e92 h92 => O.bldT rfl rfl h86.to h92.to rfl rfl fun v93 h93 => ?_
          refine O.stT rfl rfl hl4.to h93.to rfl fun Ws19 is19 hb4 F4 => ?_
          refine JO.nil <| J.retT rfl rfl hb4.to.h rfl rfl fun W' v' iE iP hv' => ?_
          rw [cq, (num_addg h45).1, (num_addg h45).2]
          exact hv'.to
end Go.Proofs.YtcaikjefkkejbaaGreat
