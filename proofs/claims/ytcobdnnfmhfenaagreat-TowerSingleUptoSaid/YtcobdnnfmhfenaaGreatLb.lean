/- Rational numbers: the program's and the reference's: contracts, second part. -/
import Derived.Test.YtcobdnnfmhfenaaGreatLa
set_option linter.unusedVariables false
set_option linter.unusedSimpArgs false
set_option maxRecDepth 10000
set_option maxHeartbeats 1000000
namespace Go.Proofs.YtcobdnnfmhfenaaGreat
open Go Go.Rx Go.Num

theorem rational_FromInt_ok {W : GW} {z : Int} (hz : -9223372036854775808 ≤ z ∧ z < 9223372036854775808) :
    Ok Tryz.prog 40 [.int .i64 z] W fun W' r => V RQ W' r (cq (z : Rat)) := by
  refine Ok.enter Tryz.func40 rfl rfl rfl rfl fun W0 iEn => ?_
  refine J.seq <| J.reg rfl <| O.alloc fun W1 b1 i1 hl1 hc1 hb1 => JO.nil <| J.seq <| J.reg rfl <| O.mv rfl <| O.call rfl (integer_FromInt_ok hz) fun W2 v2 i2 e2 h2 => ?_
  obtain ⟨p2, m2, c2, rfl, hs2⟩ := unI h2
  refine O.call rfl rational_one_ok fun W3 v3 i3 e3 h3 => ?_
  obtain ⟨p3, m3, c3, rfl, hs3⟩ := unI h3
  refine O.bld rfl rfl rfl rfl <| O.st rfl rfl hl1.to rfl (by simp [oneC, Value.cells]) fun W4 i4 hc4 => JO.nil <| J.ret1 rfl (.cell rfl hc4 rfl) fun W' iE iP => ?_
  exact mkQ hs2.to hs3.to
theorem ref02_FromInt_ok {W : GW} {z : Int} (hz : -9223372036854775808 ≤ z ∧ z < 9223372036854775808) :
    Ok Tryz.prog 36 [.int .i64 z] W fun W' r => V RQ W' r (cq (z : Rat)) := by
  refine Ok.enter Tryz.func36 rfl rfl rfl rfl fun W0 iEn => ?_
  refine J.seq <| J.reg rfl <| O.alloc fun W1 b1 i1 hl1 hc1 hb1 => JO.nil <| J.seq <| J.reg rfl <| O.mv rfl <| O.call rfl (ref01_FromInt_ok hz) fun W2 v2 i2 e2 h2 => ?_
  obtain ⟨p2, m2, c2, rfl, hs2⟩ := unI h2
  refine O.call rfl (ref01_FromInt_ok (z := 1) (by decide)) fun W3 v3 i3 e3 h3 => ?_
  obtain ⟨p3, m3, c3, rfl, hs3⟩ := unI h3
  refine O.bld rfl rfl rfl rfl <| O.st rfl rfl hl1.to rfl (by simp [oneC, Value.cells]) fun W4 i4 hc4 => JO.nil <| J.ret1 rfl (.cell rfl hc4 rfl) fun W' iE iP => ?_
  exact mkQ hs2.to hs3.to
theorem rational_Sign_ok {W : GW} {v : Value} {x : Rat} (h : V RQ W v (cq x)) : Ok Tryz.prog 41 [v] W fun W' r => r = .int .i64 (cmpI x.num 0) := by
  obtain ⟨p1, n1, c1, p2, n2, c2, rfl, h1, h2⟩ := unQ h
  refine Ok.enter Tryz.func41 rfl rfl rfl rfl fun W0 iEn => ?_
  refine J.seq <| J.reg rfl <| O.box rfl fun W1 b1 i1 hb1 => O.as rfl <| JO.nil <| J.seq <| J.reg rfl <| O.fa rfl <| O.ldB2 rfl hb1.to rfl <| O.call rfl (integer_Sign_ok (mkI h1.to)) fun W2 v2 i2 e2 h2 => ?_
  subst h2
  refine O.as rfl <| JO.nil <| J.ret1 rfl (.tmp rfl) fun W' iE iP => ?_
  rfl
theorem rational_Neg_ok {W : GW} {v : Value} {x : Rat} (h : V RQ W v (cq x)) (hl : (dig x.num.natAbs).length ≤ 1099511627776) : Ok Tryz.prog 43 [v] W fun W' r => V RQ W' r (cq (-x)) := by
  obtain ⟨p1, n1, c1, p2, n2, c2, rfl, h1, h2⟩ := unQ h
  refine Ok.enter Tryz.func43 rfl rfl rfl rfl fun W0 iEn => ?_
  refine J.seq <| J.reg rfl <| O.box rfl fun W1 b1 i1 hb1 => O.alloc fun W2 b2 i2 hl2 hc2 hb2 => JO.nil <| J.seq <| ?_
  refine J.draw [.ex _, .ex _, .rel _, .ex _, .ex _] rfl rfl ⟨fun W1 i1 e1 _ => O.fa rfl <| D.ex, fun W1 i1 e1 _ => O.ldB2 rfl hb1.to rfl <| D.ex, fun W1 i1 e1 _ => O.call rfl (integer_Neg_ok (mkI h1.to) hl) fun W5 v5 i5 e5 h5 => D.rel e5 h5 V.me, fun W1 i1 e1 _ => O.fa rfl <| D.ex, fun W1 i1 e1 _ => O.ldB2 rfl hb1.to rfl <| D.ex, trivial⟩ ?_
  intro W1 i1 e1 v5 h5
  obtain ⟨p5, m5, c5, rfl, s5⟩ := unI h5
  refine O.bld rfl rfl rfl rfl <| O.st rfl rfl hl2.to rfl (by simp [oneC, Value.cells]) fun W4 i4 hc4 => JO.nil <| J.ret1 rfl (.cell rfl hc4 rfl) fun W' iE iP => ?_
  exact mkQ (a := ci (-x).num) (b := ci (-x).den) s5.to h2.to

theorem lowest_num {a b : Int} (hb : b ≠ 0) : a.fdiv (if b < 0 then -(Int.gcd a b : Int) else (Int.gcd a b : Int)) = (Rat.divInt a b).num := by
  rw [Rat.num_divInt, Int.gcd_comm b a]
  split
  · rename_i h
    rw [show a.fdiv (-(Int.gcd a b : Int)) = (-a).fdiv (Int.gcd a b : Int) from by rw [← Int.neg_fdiv_neg, Int.neg_neg], Int.sign_eq_neg_one_of_neg h, Int.fdiv_eq_ediv_of_nonneg _ (by omega)]
    congr 1
    omega
  · rw [Int.sign_eq_one_of_pos (by omega), Int.one_mul, Int.fdiv_eq_ediv_of_nonneg _ (by omega)]
theorem lowest_den {a b : Int} (hb : b ≠ 0) : b.fdiv (if b < 0 then -(Int.gcd a b : Int) else (Int.gcd a b : Int)) = ((Rat.divInt a b).den : Int) := by
  rw [Rat.den_divInt, if_neg hb, Int.gcd_comm b a, Int.natCast_ediv]
  split
  · rw [show b.fdiv (-(Int.gcd a b : Int)) = (-b).fdiv (Int.gcd a b : Int) from by rw [← Int.neg_fdiv_neg, Int.neg_neg], Int.fdiv_eq_ediv_of_nonneg _ (by omega)]
    congr 1
    omega
  · rw [Int.fdiv_eq_ediv_of_nonneg _ (by omega)]
    congr 1
    omega
theorem gcd_ne {a b : Int} (hb : b ≠ 0) : Int.gcd a b ≠ 0 := fun h => hb (Int.gcd_eq_zero_iff.1 h).2

/-- lowest: the quotient in lowest terms. -/
theorem rational_lowest_ok {W : GW} {v v' : Value} {a b : Int} {p : Nat} (h : V RI W v (ci a)) (h' : V RI W v' (ci b)) (ha : Zs p a) (hb : Zs p b) (hp : p ≤ 17592186044416) (hb0 : b ≠ 0) :
    Ok Tryz.prog 105 [v, v'] W fun W' r => V RQ W' r (cq (Rat.divInt a b)) := by
  obtain ⟨p1, n1, c1, rfl, hs⟩ := unI h
  obtain ⟨p2, n2, c2, rfl, hs'⟩ := unI h'
  have hg := hb.gcd (x := a) hb0
  have hg0 := @gcd_ne a b hb0
  have hgn : Zs p (if b < 0 then -(Int.gcd a b : Int) else (Int.gcd a b : Int)) := by split; exact hg.neg; exact hg
  have hgn0 : (if b < 0 then -(Int.gcd a b : Int) else (Int.gcd a b : Int)) ≠ 0 := by split <;> omega
  refine Ok.enter Tryz.func105 rfl rfl rfl rfl fun W0 iEn => ?_
  refine J.seq <| J.reg rfl <| O.box rfl fun W1 b1 i1 hb1 => O.box rfl fun W2 b2 i2 hb2 => O.alloc fun W3 b3 i3 hl3 hc3 hb3 => JO.nil <| J.seq <| J.reg rfl <| O.ldBw rfl hb1.to rfl <| O.ldBw rfl hb2.to rfl <| O.call rfl (integer_GCD_ok (mkI hs.to) (mkI hs'.to) (ha.len hp) (hb.len hp)) fun W4 v4 i4 e4 h4 => ?_
  obtain ⟨p4, n4, c4, rfl, s4⟩ := unI h4
  refine O.alloc fun W5 b5 i5 hl5 hc5 hb5 => ?_
  skip
  refine O.st rfl rfl hl5.to rfl (by simp [oneC, Value.cells]) fun W6 i6 hc6 => JO.nil <| J.seq <| J.seq <| J.reg rfl <| O.fa rfl <| O.ldB rfl hb2.to rfl <| JO.nil <| ?_
  refine J.cut (α := List Value) (fun _ => [(2, .pointer (some ⟨b1, 0, none⟩)), (3, .pointer (some ⟨b2, 0, none⟩)), (4, .pointer (some ⟨b3, 0, none⟩)), (5, .pointer (some ⟨b5, 0, none⟩))]) (fun cs W => Lk1 W6 W ∧ Cnt W b5 cs ∧ ∃ pg mg cg, cs = [.bool (ci (if b < 0 then -(Int.gcd a b : Int) else (Int.gcd a b : Int))).1, .slice pg mg cg] ∧ Sl RW W pg mg cg (ci (if b < 0 then -(Int.gcd a b : Int) else (Int.gcd a b : Int))).2) ?_ ?_
  · skip
    refine J.condD rfl (fun h10 => ?_) (fun h10 => ?_)
    · skip
      refine J.reg rfl <| O.ldVw rfl hc6 rfl <| O.call rfl (integer_Neg_ok (mkI s4.to) (hg.len hp)) fun W7 v7 i7 e7 h7 => ?_
      obtain ⟨p7, n7, c7, rfl, s7⟩ := unI h7
      skip
      refine O.st rfl rfl hl5.to rfl (by simp [oneC, Value.cells]) fun W8 i8 hc8 => JO.nil <| ?_
      exact J.at' _ ⟨rfl, rfl, rfl, rfl, trivial⟩ ⟨⟨Lk.s⟩, hc8, p7, n7, c7, by rw [if_pos h10]; rfl, by rw [if_pos h10]; exact s7.to⟩
    · skip
      refine J.skip <| ?_
      exact J.at' _ ⟨rfl, rfl, rfl, rfl, trivial⟩ ⟨⟨Lk.s⟩, hc6, p4, n4, c4, by rw [if_neg h10]; rfl, by rw [if_neg h10]; exact s4.to⟩
  · skip
    rintro cs W9 ⟨iL, hc9, pg, mg, cg, rfl, sg9⟩
    refine J.seq <| ?_
    refine J.draw [.ex _, .ex _, .rel _, .ex _, .ex _, .rel _, .rel _] rfl rfl ⟨fun W1 i1 e1 _ => O.ldBw rfl hb1.to rfl <| D.ex, fun W1 i1 e1 _ => O.ldVw rfl (hc9.ext e1) rfl <| D.ex, fun W1 i1 e1 _ => O.call rfl (rational_quo_ok (mkI hs.to) (mkI sg9.to) (ha.len hp) (hgn.len hp) hgn0) fun W5 v5 i5 e5 h5 => D.rel e5 h5 V.me, fun W1 i1 e1 _ => O.ldBw rfl hb2.to rfl <| D.ex, fun W1 i1 e1 _ => O.ldVw rfl (hc9.ext e1) rfl <| D.ex, fun W1 i1 e1 _ => fun v15 h15 => O.call rfl (rational_quo_ok (mkI hs'.to) (mkI sg9.to) (hb.len hp) (hgn.len hp) hgn0) fun W5 v5 i5 e5 h5 => D.rel e5 h5 V.me, fun W1 i1 e1 _ => fun v15 h15 => fun v18 h18 => (by obtain ⟨pa, ma, ca, rfl, sa⟩ := unI h15; obtain ⟨pb, mb, cb, rfl, sb⟩ := unI h18; exact O.bld rfl rfl rfl rfl <| D.rel (R := fun W v => V RQ W v (cq (Rat.divInt a b))) (Ext.refl _) (by rw [cq, ← lowest_num hb0, ← lowest_den hb0]; exact mkQ sa sb) V.me), trivial⟩ ?_
    intro W1 i1 e1 v15 h15 v18 h18 v19 h19
    obtain ⟨pa, ma, ca, pb, mb, cb, rfl, sa, sb⟩ := unQ h19
    refine O.st rfl rfl hl3.to rfl (by simp [oneC, Value.cells]) fun W10 i10 hc10 => JO.nil <| J.ret1 rfl (.cell rfl hc10 rfl) fun W' iE iP => ?_
    exact mkQ (a := ci (Rat.divInt a b).num) (b := ci (Rat.divInt a b).den) sa.to sb.to

/-! sums, products, quotients -/
theorem Qs.addNum {p q : Nat} {x y : Rat} (h : Qs p x) (k : Qs q y) : Zs (p + q + 1) (x.num * y.den + y.num * x.den) := by
  have h1 := (h.n.mul k.d).add (k.n.mul h.d)
  exact h1.mono (by omega)
theorem divInt_nat (a : Int) (b : Nat) : Rat.divInt a (b : Int) = mkRat a b := Rat.divInt_ofNat a b
theorem add_divInt (x y : Rat) : x + y = Rat.divInt (x.num * y.den + y.num * x.den) ((x.den : Int) * y.den) := by
  rw [Rat.add_def', ← Int.natCast_mul, divInt_nat]
theorem mul_divInt (x y : Rat) : x * y = Rat.divInt (x.num * y.num) ((x.den : Int) * y.den) := by
  rw [Rat.mul_def', ← Int.natCast_mul, divInt_nat]
theorem div_divInt (x y : Rat) (h : y ≠ 0) : x / y = Rat.divInt (x.num * y.den) ((x.den : Int) * y.num) := by
  rw [Rat.div_def, Rat.inv_def]
  conv => lhs; rw [← Rat.num_divInt_den x]
  rw [Rat.divInt_mul_divInt]
theorem den1 {x : Rat} (h : (x.den : Int) = 1) : x = (x.num : Rat) := Rat.ext rfl (by show x.den = 1; omega)
theorem den1_add {x y : Rat} (h : (x.den : Int) = 1) (k : (y.den : Int) = 1) : x + y = ((x.num + y.num : Int) : Rat) := by
  conv => lhs; rw [den1 h, den1 k]
  norm_cast
theorem den1_mul {x y : Rat} (h : (x.den : Int) = 1) (k : (y.den : Int) = 1) : x * y = ((x.num * y.num : Int) : Rat) := by
  conv => lhs; rw [den1 h, den1 k]
  norm_cast
theorem den_ne (x : Rat) : (x.den : Int) ≠ 0 := by have := x.den_nz; omega
theorem bits_le {n m : Nat} (h : n < 2 ^ m) (k : 2 ^ m ≤ n) : False := by omega
/-- Sizes of sums and products. -/
theorem Zs.divInt_num {p : Nat} {a b : Int} (ha : Zs p a) : Zs p (Rat.divInt a b).num := by
  unfold Zs at *
  rw [Rat.num_divInt]
  have h1 : (b.sign * a).natAbs ≤ a.natAbs := by
    rw [Int.natAbs_mul]
    have : b.sign.natAbs ≤ 1 := by rw [Int.natAbs_sign]; split <;> omega
    have := Nat.mul_le_mul_right a.natAbs this
    omega
  have h2 : ((b.sign * a) / (Int.gcd b a : Int)).natAbs ≤ (b.sign * a).natAbs := by
    by_cases hg : Int.gcd b a = 0
    · rw [hg]; simp
    · have hd : (Int.gcd b a : Int) ∣ b.sign * a := Int.dvd_mul_of_dvd_right (Int.gcd_dvd_right b a)
      obtain ⟨c, hc⟩ := hd
      rw [hc, Int.mul_ediv_cancel_left _ (by omega), Int.natAbs_mul]
      exact Nat.le_mul_of_pos_left _ (Nat.pos_of_ne_zero (by rw [Int.natAbs_natCast]; exact hg))
  omega
theorem Zs.divInt_den {p : Nat} {a b : Int} (hb : Zs p b) (h0 : b ≠ 0) : Zs p ((Rat.divInt a b).den : Int) := by
  unfold Zs at *
  rw [Rat.den_divInt, if_neg h0]
  have := Nat.div_le_self b.natAbs (Int.gcd b a)
  rw [Int.natAbs_natCast]
  omega
theorem Qs.divInt {p : Nat} {a b : Int} (ha : Zs p a) (hb : Zs p b) (h0 : b ≠ 0) : Qs p (Rat.divInt a b) := ⟨ha.divInt_num, hb.divInt_den h0⟩
theorem Qs.add {p q : Nat} {x y : Rat} (h : Qs p x) (k : Qs q y) : Qs (p + q + 1) (x + y) := by
  rw [add_divInt]
  exact Qs.divInt (h.addNum k) ((h.d.mul k.d).mono (by omega)) (Int.mul_ne_zero (den_ne x) (den_ne y))
theorem Qs.mul {p q : Nat} {x y : Rat} (h : Qs p x) (k : Qs q y) : Qs (p + q) (x * y) := by
  rw [mul_divInt]
  exact Qs.divInt (h.n.mul k.n) (h.d.mul k.d) (Int.mul_ne_zero (den_ne x) (den_ne y))
theorem Qs.int {p : Nat} {z : Int} (h : Zs p z) (hp : 1 ≤ p) : Qs p (z : Rat) := ⟨h, Zs.one hp⟩

/-- Add -/
theorem rational_Add_ok {W : GW} {v v' : Value} {x y : Rat} {p q : Nat} (h : V RQ W v (cq x)) (h' : V RQ W v' (cq y)) (hx : Qs p x) (hy : Qs q y) (hp : p + q + 1 ≤ 17592186044416) :
    Ok Tryz.prog 89 [v, v'] W fun W' r => V RQ W' r (cq (x + y)) := by
  obtain ⟨p1, n1, c1, p2, n2, c2, rfl, h1, h2⟩ := unQ h
  obtain ⟨p3, n3, c3, p4, n4, c4, rfl, h3, h4⟩ := unQ h'
  refine Ok.enter Tryz.func89 rfl rfl rfl rfl fun W0 iEn => ?_
  refine J.seq <| J.reg rfl <| O.box rfl fun W1 b1 i1 hb1 => O.box rfl fun W2 b2 i2 hb2 => O.alloc fun W3 b3 i3 hl3 hc3 hb3 => JO.nil <| J.seq <| J.seq <| J.reg rfl <| O.fa rfl <| O.ldB2 rfl hb1.to rfl <| O.call rfl (rational_isOne_ok (mkI h2.to)) fun W4 v4 i4 e4 h4 => ?_
  subst h4
  refine O.mv rfl <| ?_
  by_cases hg9 : (x.den : Int) = 1
  · skip
    refine O.set (t := 9) (.bool true) rfl (by simp only [Value.bool.injEq, decide_eq_true_eq, decide_eq_false_iff_not]; omega) <| O.gt rfl rfl <| O.fa rfl <| O.gt rfl rfl <| O.ldB2 rfl hb2.to rfl <| O.gt rfl rfl <| O.call rfl (rational_isOne_ok (mkI h4.to)) fun W5 v5 i5 e5 h5 => ?_
    subst h5
    refine O.pickT rfl rfl <| JO.nil <| J.condD rfl (fun h13 => ?_) (fun h13 => ?_)
    · skip
      refine J.seq <| J.reg rfl <| O.fa rfl <| O.ldB2 rfl hb1.to rfl <| O.fa rfl <| O.ldB2 rfl hb2.to rfl <| O.call rfl (integer_Add_ok (mkI h1.to) (mkI h3.to) (hx.n.len (by omega)) (hy.n.len (by omega))) fun W6 v6 i6 e6 h6 => ?_
      obtain ⟨pa, ma, ca, rfl, sa⟩ := unI h6
      refine O.call rfl rational_one_ok fun W7 v7 i7 e7 h7 => ?_
      obtain ⟨pb, mb, cb, rfl, sb⟩ := unI h7
      skip
      refine O.bld rfl rfl rfl rfl <| O.st rfl rfl hl3.to rfl (by simp [oneC, Value.cells]) fun W8 i8 hc8 => JO.nil <| J.ret1 rfl (.cell rfl hc8 rfl) fun W' iE iP => ?_
      rw [den1_add hg9 h13]
      exact mkQ (a := ci (x.num + y.num)) (b := ci 1) sa.to sb.to
    · skip
      refine J.skip <| J.seq <| ?_
      refine J.draw [.ex _, .ex _, .ex _, .ex _, .rel _, .ex _, .ex _, .ex _, .ex _, .rel _, .rel _, .rel _] rfl rfl ⟨fun W1 i1 e1 _ => O.fa rfl <| D.ex, fun W1 i1 e1 _ => O.ldB2 rfl hb1.to rfl <| D.ex, fun W1 i1 e1 _ => O.fa rfl <| D.ex, fun W1 i1 e1 _ => O.ldB2 rfl hb2.to rfl <| D.ex, fun W1 i1 e1 _ => O.call rfl (integer_Mul_ok (mkI h1.to) (mkI h4.to) (hx.n.len (by omega)) (hy.d.len (by omega))) fun W5 v5 i5 e5 h5 => D.rel e5 h5 V.me, fun W1 i1 e1 _ => O.fa rfl <| D.ex, fun W1 i1 e1 _ => O.ldB2 rfl hb2.to rfl <| D.ex, fun W1 i1 e1 _ => O.fa rfl <| D.ex, fun W1 i1 e1 _ => O.ldB2 rfl hb1.to rfl <| D.ex, fun W1 i1 e1 _ => fun v25 h25 => O.call rfl (integer_Mul_ok (mkI h3.to) (mkI h2.to) (hy.n.len (by omega)) (hx.d.len (by omega))) fun W5 v5 i5 e5 h5 => D.rel e5 h5 V.me, fun W1 i1 e1 _ => fun v25 h25 => fun _ _ => fun v30 h30 => O.call rfl (integer_Add_ok h25 h30 ((hx.n.mul hy.d).len (by omega)) ((hy.n.mul hx.d).len (by omega))) fun W5 v5 i5 e5 h5 => D.rel e5 h5 V.me, fun W1 i1 e1 _ => O.allocE fun W5 b5 i5 e5 hl5 hc5 hb5 => D.rel (R := PLoc 2 W3.size) e5 (by exact ⟨_, rfl, hl5, Nat.le_trans (inferInstance : Le W3 W1).s.size hb5⟩) PLoc.me, trivial⟩ ?_
      intro W1 i1 e1 v25 h25 v30 h30 v31 h31 v5 h5
      obtain ⟨b5, rfl, hl5, hb5⟩ := h5
      obtain ⟨pa, ma, ca, rfl, sa⟩ := unI h31
      skip
      refine O.st rfl rfl hl5 rfl (by simp [oneC, Value.cells]) fun W8 i8 hc8 => JO.nil <| J.seq <| ?_
      refine J.draw [.ex _, .ex _, .ex _, .ex _, .ex _, .rel _, .rel _] rfl rfl ⟨fun W1 i1 e1 _ => O.ldVw rfl (hc8.ext e1) rfl <| D.ex, fun W1 i1 e1 _ => O.fa rfl <| D.ex, fun W1 i1 e1 _ => O.ldB2 rfl hb1.to rfl <| D.ex, fun W1 i1 e1 _ => O.fa rfl <| D.ex, fun W1 i1 e1 _ => O.ldB2 rfl hb2.to rfl <| D.ex, fun W1 i1 e1 _ => O.call rfl (integer_Mul_ok (mkI h2.to) (mkI h4.to) (hx.d.len (by omega)) (hy.d.len (by omega))) fun W5 v5 i5 e5 h5 => D.rel e5 h5 V.me, fun W1 i1 e1 _ => fun _ _ => fun v37 h37 => O.call rfl (rational_lowest_ok (mkI sa.to) h37 (hx.addNum hy) ((hx.d.mul hy.d).mono (by omega)) (by omega) (Int.mul_ne_zero (den_ne x) (den_ne y))) fun W5 v5 i5 e5 h5 => D.rel e5 h5 V.me, trivial⟩ ?_
      intro W1 i1 e1 v37 h37 v38 h38
      rw [← add_divInt] at h38
      obtain ⟨pd, md, cd, pe, me, ce, rfl, sd, se⟩ := unQ h38
      refine O.st rfl rfl hl3.to rfl (by simp [oneC, Value.cells]) fun W10 i10 hc10 => JO.nil <| J.ret1 rfl (.cell rfl hc10 rfl) fun W' iE iP => ?_
      exact mkQ (a := ci (x + y).num) (b := ci (x + y).den) sd.to se.to
  · skip
    refine O.set (t := 9) (.bool false) rfl (by simp only [Value.bool.injEq, decide_eq_true_eq, decide_eq_false_iff_not]; omega) <| O.gs rfl rfl rfl <| O.gs rfl rfl rfl <| O.gs rfl rfl rfl <| O.pickF rfl rfl <| JO.nil <| J.condF rfl <| J.skip <| J.seq <| ?_
    refine J.draw [.ex _, .ex _, .ex _, .ex _, .rel _, .ex _, .ex _, .ex _, .ex _, .rel _, .rel _, .rel _] rfl rfl ⟨fun W1 i1 e1 _ => O.fa rfl <| D.ex, fun W1 i1 e1 _ => O.ldB2 rfl hb1.to rfl <| D.ex, fun W1 i1 e1 _ => O.fa rfl <| D.ex, fun W1 i1 e1 _ => O.ldB2 rfl hb2.to rfl <| D.ex, fun W1 i1 e1 _ => O.call rfl (integer_Mul_ok (mkI h1.to) (mkI h4.to) (hx.n.len (by omega)) (hy.d.len (by omega))) fun W5 v5 i5 e5 h5 => D.rel e5 h5 V.me, fun W1 i1 e1 _ => O.fa rfl <| D.ex, fun W1 i1 e1 _ => O.ldB2 rfl hb2.to rfl <| D.ex, fun W1 i1 e1 _ => O.fa rfl <| D.ex, fun W1 i1 e1 _ => O.ldB2 rfl hb1.to rfl <| D.ex, fun W1 i1 e1 _ => fun v25 h25 => O.call rfl (integer_Mul_ok (mkI h3.to) (mkI h2.to) (hy.n.len (by omega)) (hx.d.len (by omega))) fun W5 v5 i5 e5 h5 => D.rel e5 h5 V.me, fun W1 i1 e1 _ => fun v25 h25 => fun _ _ => fun v30 h30 => O.call rfl (integer_Add_ok h25 h30 ((hx.n.mul hy.d).len (by omega)) ((hy.n.mul hx.d).len (by omega))) fun W5 v5 i5 e5 h5 => D.rel e5 h5 V.me, fun W1 i1 e1 _ => O.allocE fun W5 b5 i5 e5 hl5 hc5 hb5 => D.rel (R := PLoc 2 W3.size) e5 (by exact ⟨_, rfl, hl5, Nat.le_trans (inferInstance : Le W3 W1).s.size hb5⟩) PLoc.me, trivial⟩ ?_
    intro W1 i1 e1 v25 h25 v30 h30 v31 h31 v5 h5
    obtain ⟨b5, rfl, hl5, hb5⟩ := h5
    obtain ⟨pa, ma, ca, rfl, sa⟩ := unI h31
    skip
    refine O.st rfl rfl hl5 rfl (by simp [oneC, Value.cells]) fun W8 i8 hc8 => JO.nil <| J.seq <| ?_
    refine J.draw [.ex _, .ex _, .ex _, .ex _, .ex _, .rel _, .rel _] rfl rfl ⟨fun W1 i1 e1 _ => O.ldVw rfl (hc8.ext e1) rfl <| D.ex, fun W1 i1 e1 _ => O.fa rfl <| D.ex, fun W1 i1 e1 _ => O.ldB2 rfl hb1.to rfl <| D.ex, fun W1 i1 e1 _ => O.fa rfl <| D.ex, fun W1 i1 e1 _ => O.ldB2 rfl hb2.to rfl <| D.ex, fun W1 i1 e1 _ => O.call rfl (integer_Mul_ok (mkI h2.to) (mkI h4.to) (hx.d.len (by omega)) (hy.d.len (by omega))) fun W5 v5 i5 e5 h5 => D.rel e5 h5 V.me, fun W1 i1 e1 _ => fun _ _ => fun v37 h37 => O.call rfl (rational_lowest_ok (mkI sa.to) h37 (hx.addNum hy) ((hx.d.mul hy.d).mono (by omega)) (by omega) (Int.mul_ne_zero (den_ne x) (den_ne y))) fun W5 v5 i5 e5 h5 => D.rel e5 h5 V.me, trivial⟩ ?_
    intro W1 i1 e1 v37 h37 v38 h38
    rw [← add_divInt] at h38
    obtain ⟨pd, md, cd, pe, me, ce, rfl, sd, se⟩ := unQ h38
    refine O.st rfl rfl hl3.to rfl (by simp [oneC, Value.cells]) fun W10 i10 hc10 => JO.nil <| J.ret1 rfl (.cell rfl hc10 rfl) fun W' iE iP => ?_
    exact mkQ (a := ci (x + y).num) (b := ci (x + y).den) sd.to se.to

/-- Mul -/
theorem rational_Mul_ok {W : GW} {v v' : Value} {x y : Rat} {p q : Nat} (h : V RQ W v (cq x)) (h' : V RQ W v' (cq y)) (hx : Qs p x) (hy : Qs q y) (hp : p + q + 1 ≤ 17592186044416) :
    Ok Tryz.prog 90 [v, v'] W fun W' r => V RQ W' r (cq (x * y)) := by
  obtain ⟨p1, n1, c1, p2, n2, c2, rfl, h1, h2⟩ := unQ h
  obtain ⟨p3, n3, c3, p4, n4, c4, rfl, h3, h4⟩ := unQ h'
  refine Ok.enter Tryz.func90 rfl rfl rfl rfl fun W0 iEn => ?_
  refine J.seq <| J.reg rfl <| O.box rfl fun W1 b1 i1 hb1 => O.box rfl fun W2 b2 i2 hb2 => O.alloc fun W3 b3 i3 hl3 hc3 hb3 => JO.nil <| J.seq <| J.seq <| J.reg rfl <| O.fa rfl <| O.ldB2 rfl hb1.to rfl <| O.call rfl (rational_isOne_ok (mkI h2.to)) fun W4 v4 i4 e4 h4 => ?_
  subst h4
  refine O.mv rfl <| ?_
  by_cases hg8 : (x.den : Int) = 1
  · skip
    refine O.set (t := 8) (.bool true) rfl (by simp only [Value.bool.injEq, decide_eq_true_eq, decide_eq_false_iff_not]; omega) <| O.gt rfl rfl <| O.fa rfl <| O.gt rfl rfl <| O.ldB2 rfl hb2.to rfl <| O.gt rfl rfl <| O.call rfl (rational_isOne_ok (mkI h4.to)) fun W5 v5 i5 e5 h5 => ?_
    subst h5
    refine O.pickT rfl rfl <| JO.nil <| J.condD rfl (fun h12 => ?_) (fun h12 => ?_)
    · skip
      refine J.seq <| J.reg rfl <| O.fa rfl <| O.ldB2 rfl hb1.to rfl <| O.fa rfl <| O.ldB2 rfl hb2.to rfl <| O.call rfl (integer_Mul_ok (mkI h1.to) (mkI h3.to) (hx.n.len (by omega)) (hy.n.len (by omega))) fun W6 v6 i6 e6 h6 => ?_
      obtain ⟨pa, ma, ca, rfl, sa⟩ := unI h6
      refine O.call rfl rational_one_ok fun W7 v7 i7 e7 h7 => ?_
      obtain ⟨pb, mb, cb, rfl, sb⟩ := unI h7
      skip
      refine O.bld rfl rfl rfl rfl <| O.st rfl rfl hl3.to rfl (by simp [oneC, Value.cells]) fun W8 i8 hc8 => JO.nil <| J.ret1 rfl (.cell rfl hc8 rfl) fun W' iE iP => ?_
      rw [den1_mul hg8 h12]
      exact mkQ (a := ci (x.num * y.num)) (b := ci 1) sa.to sb.to
    · skip
      refine J.skip <| J.seq <| ?_
      refine J.draw [.ex _, .ex _, .ex _, .ex _, .rel _, .ex _, .ex _, .ex _, .ex _, .rel _, .rel _] rfl rfl ⟨fun W1 i1 e1 _ => O.fa rfl <| D.ex, fun W1 i1 e1 _ => O.ldB2 rfl hb1.to rfl <| D.ex, fun W1 i1 e1 _ => O.fa rfl <| D.ex, fun W1 i1 e1 _ => O.ldB2 rfl hb2.to rfl <| D.ex, fun W1 i1 e1 _ => O.call rfl (integer_Mul_ok (mkI h1.to) (mkI h3.to) (hx.n.len (by omega)) (hy.n.len (by omega))) fun W5 v5 i5 e5 h5 => D.rel e5 h5 V.me, fun W1 i1 e1 _ => O.fa rfl <| D.ex, fun W1 i1 e1 _ => O.ldB2 rfl hb1.to rfl <| D.ex, fun W1 i1 e1 _ => O.fa rfl <| D.ex, fun W1 i1 e1 _ => O.ldB2 rfl hb2.to rfl <| D.ex, fun W1 i1 e1 _ => fun v24 h24 => O.call rfl (integer_Mul_ok (mkI h2.to) (mkI h4.to) (hx.d.len (by omega)) (hy.d.len (by omega))) fun W5 v5 i5 e5 h5 => D.rel e5 h5 V.me, fun W1 i1 e1 _ => fun v24 h24 => fun _ _ => fun v29 h29 => O.call rfl (rational_lowest_ok h24 h29 (hx.n.mul hy.n) (hx.d.mul hy.d) (by omega) (Int.mul_ne_zero (den_ne x) (den_ne y))) fun W5 v5 i5 e5 h5 => D.rel e5 h5 V.me, trivial⟩ ?_
      intro W1 i1 e1 v24 h24 v29 h29 v30 h30
      rw [← mul_divInt] at h30
      obtain ⟨pd, md, cd, pe, me, ce, rfl, sd, se⟩ := unQ h30
      refine O.st rfl rfl hl3.to rfl (by simp [oneC, Value.cells]) fun W10 i10 hc10 => JO.nil <| J.ret1 rfl (.cell rfl hc10 rfl) fun W' iE iP => ?_
      exact mkQ (a := ci (x * y).num) (b := ci (x * y).den) sd.to se.to
  · skip
    refine O.set (t := 8) (.bool false) rfl (by simp only [Value.bool.injEq, decide_eq_true_eq, decide_eq_false_iff_not]; omega) <| O.gs rfl rfl rfl <| O.gs rfl rfl rfl <| O.gs rfl rfl rfl <| O.pickF rfl rfl <| JO.nil <| J.condF rfl <| J.skip <| J.seq <| ?_
    refine J.draw [.ex _, .ex _, .ex _, .ex _, .rel _, .ex _, .ex _, .ex _, .ex _, .rel _, .rel _] rfl rfl ⟨fun W1 i1 e1 _ => O.fa rfl <| D.ex, fun W1 i1 e1 _ => O.ldB2 rfl hb1.to rfl <| D.ex, fun W1 i1 e1 _ => O.fa rfl <| D.ex, fun W1 i1 e1 _ => O.ldB2 rfl hb2.to rfl <| D.ex, fun W1 i1 e1 _ => O.call rfl (integer_Mul_ok (mkI h1.to) (mkI h3.to) (hx.n.len (by omega)) (hy.n.len (by omega))) fun W5 v5 i5 e5 h5 => D.rel e5 h5 V.me, fun W1 i1 e1 _ => O.fa rfl <| D.ex, fun W1 i1 e1 _ => O.ldB2 rfl hb1.to rfl <| D.ex, fun W1 i1 e1 _ => O.fa rfl <| D.ex, fun W1 i1 e1 _ => O.ldB2 rfl hb2.to rfl <| D.ex, fun W1 i1 e1 _ => fun v24 h24 => O.call rfl (integer_Mul_ok (mkI h2.to) (mkI h4.to) (hx.d.len (by omega)) (hy.d.len (by omega))) fun W5 v5 i5 e5 h5 => D.rel e5 h5 V.me, fun W1 i1 e1 _ => fun v24 h24 => fun _ _ => fun v29 h29 => O.call rfl (rational_lowest_ok h24 h29 (hx.n.mul hy.n) (hx.d.mul hy.d) (by omega) (Int.mul_ne_zero (den_ne x) (den_ne y))) fun W5 v5 i5 e5 h5 => D.rel e5 h5 V.me, trivial⟩ ?_
    intro W1 i1 e1 v24 h24 v29 h29 v30 h30
    rw [← mul_divInt] at h30
    obtain ⟨pd, md, cd, pe, me, ce, rfl, sd, se⟩ := unQ h30
    refine O.st rfl rfl hl3.to rfl (by simp [oneC, Value.cells]) fun W10 i10 hc10 => JO.nil <| J.ret1 rfl (.cell rfl hc10 rfl) fun W' iE iP => ?_
    exact mkQ (a := ci (x * y).num) (b := ci (x * y).den) sd.to se.to

theorem num_ne {y : Rat} (h : y.num ≠ 0) : y ≠ 0 := fun e => h (by rw [e]; rfl)
/-- Div -/
theorem rational_Div_ok {W : GW} {v v' : Value} {x y : Rat} {p q : Nat} (h : V RQ W v (cq x)) (h' : V RQ W v' (cq y)) (hx : Qs p x) (hy : Qs q y) (hp : p + q + 1 ≤ 17592186044416) :
    Ok Tryz.prog 82 [v, v'] W fun W' r => ∃ v1 e, r = .tuple #[v1, .int .i64 e] ∧ ((y = 0 ∧ e = 6 ∧ V RQ W' v1 ((false, []), (false, []))) ∨ (y ≠ 0 ∧ e = 0 ∧ V RQ W' v1 (cq (x / y)))) := by
  obtain ⟨p1, n1, c1, p2, n2, c2, rfl, h1, h2⟩ := unQ h
  obtain ⟨p3, n3, c3, p4, n4, c4, rfl, h3, h4⟩ := unQ h'
  refine Ok.enter Tryz.func82 rfl rfl rfl rfl fun W0 iEn => ?_
  refine J.seq <| J.reg rfl <| O.box rfl fun W1 b1 i1 hb1 => O.box rfl fun W2 b2 i2 hb2 => O.alloc fun W3 b3 i3 hl3 hc3 hb3 => O.as rfl <| JO.nil <| J.seq <| J.seq <| J.reg rfl <| O.fa rfl <| O.ldB2 rfl hb2.to rfl <| O.call rfl (rational_isZero_ok (mkI h3.to)) fun W4 v4 i4 e4 h4 => ?_
  subst h4
  refine JO.nil <| J.condD rfl (fun h8 => ?_) (fun h8 => ?_)
  · skip
    refine J.seq <| J.reg rfl <| O.bld0 <| ?_
    skip
    refine O.st rfl rfl hl3.to rfl (by simp [oneC, Value.cells]) fun W8 i8 hc8 => O.as rfl <| JO.nil <| J.ret2 rfl (.cell rfl hc8 rfl) (.tmp rfl) fun W' iE iP => ?_
    refine ⟨_, 6, rfl, .inl ⟨Rat.num_eq_zero.1 h8, rfl, ?_⟩⟩
    exact mkQ (a := (false, [])) (b := (false, [])) (nil_sl _ _ _) (nil_sl _ _ _)
  · skip
    have hy0 := num_ne h8
    refine J.skip <| J.seq <| ?_
    refine J.draw [.ex _, .ex _, .ex _, .ex _, .rel _, .ex _, .ex _, .ex _, .ex _, .rel _, .rel _] rfl rfl ⟨fun W1 i1 e1 _ => O.fa rfl <| D.ex, fun W1 i1 e1 _ => O.ldB2 rfl hb1.to rfl <| D.ex, fun W1 i1 e1 _ => O.fa rfl <| D.ex, fun W1 i1 e1 _ => O.ldB2 rfl hb2.to rfl <| D.ex, fun W1 i1 e1 _ => O.call rfl (integer_Mul_ok (mkI h1.to) (mkI h4.to) (hx.n.len (by omega)) (hy.d.len (by omega))) fun W5 v5 i5 e5 h5 => D.rel e5 h5 V.me, fun W1 i1 e1 _ => O.fa rfl <| D.ex, fun W1 i1 e1 _ => O.ldB2 rfl hb1.to rfl <| D.ex, fun W1 i1 e1 _ => O.fa rfl <| D.ex, fun W1 i1 e1 _ => O.ldB2 rfl hb2.to rfl <| D.ex, fun W1 i1 e1 _ => fun v14 h14 => O.call rfl (integer_Mul_ok (mkI h2.to) (mkI h3.to) (hx.d.len (by omega)) (hy.n.len (by omega))) fun W5 v5 i5 e5 h5 => D.rel e5 h5 V.me, fun W1 i1 e1 _ => fun v14 h14 => fun _ _ => fun v19 h19 => O.call rfl (rational_lowest_ok h14 h19 (hx.n.mul hy.d) (hx.d.mul hy.n) (by omega) (Int.mul_ne_zero (den_ne x) h8)) fun W5 v5 i5 e5 h5 => D.rel e5 h5 V.me, trivial⟩ ?_
    intro W1 i1 e1 v14 h14 v19 h19 v20 h20
    rw [← div_divInt x y hy0] at h20
    obtain ⟨pd, md, cd, pe, me, ce, rfl, sd, se⟩ := unQ h20
    refine O.st rfl rfl hl3.to rfl (by simp [oneC, Value.cells]) fun W10 i10 hc10 => O.as rfl <| JO.nil <| J.ret2 rfl (.cell rfl hc10 rfl) (.tmp rfl) fun W' iE iP => ?_
    exact ⟨_, 0, rfl, .inr ⟨hy0, rfl, mkQ (a := ci (x / y).num) (b := ci (x / y).den) sd.to se.to⟩⟩
end Go.Proofs.YtcobdnnfmhfenaaGreat
