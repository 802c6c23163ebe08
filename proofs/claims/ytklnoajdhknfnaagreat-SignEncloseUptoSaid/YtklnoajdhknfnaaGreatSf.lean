/- The reference's intervals, second part: rounding, square roots, widths. -/
import Derived.Test.YtklnoajdhknfnaaGreatSd
import Derived.Test.YtklnoajdhknfnaaGreatUa
import Derived.Test.YtklnoajdhknfnaaGreatVy
set_option linter.unusedVariables false
set_option linter.unusedSimpArgs false
set_option maxRecDepth 10000
set_option maxHeartbeats 4000000
namespace Go.Proofs.YtklnoajdhknfnaaGreat
open Go Go.Rx Go.Num Go.Tow
section
theorem divInt1 (n : Int) : Rat.divInt n 1 = (n : Rat) := by
  rw [Rat.divInt_eq_div]
  have : ((1 : Int) : Rat) = 1 := rfl
  grind
/-- 2^b -/
def pw (b : Nat) : Rat := ((2 ^ b : Int) : Rat)
theorem Zs.two {b p : Nat} (h : b + 1 ≤ p) : Zs p (2 ^ b : Int) := by
  refine Zs.mono (p := b + 1) ?_ h
  unfold Zs
  rw [Int.natAbs_pow]
  exact Nat.pow_lt_pow_right (by decide) (Nat.lt_succ_self b)
theorem two_ne (b : Nat) : (2 ^ b : Int) ≠ 0 := by have := Int.pow_pos (n := 2) (m := b) (by decide); omega
theorem pw_qs (b : Nat) : Qs (b + 1) (pw b) := ⟨Zs.two (Nat.le_refl _), Zs.one (by omega)⟩
theorem Zs.floor {s : Nat} {x : Rat} (h : Qs s x) : Zs s x.floor := by
  have hn := h.n
  unfold Zs at *
  rw [Rat.floor_def]
  exact Nat.lt_of_le_of_lt (Int.natAbs_ediv_le_natAbs _ _) hn
/-- the greatest multiple of 2^-b that is not greater; the least one that is not less -/
def dnQ (x : Rat) (b : Nat) : Rat := Rat.divInt (x * pw b).floor (2 ^ b)
def upQ (x : Rat) (b : Nat) : Rat := -dnQ (-x) b
theorem dnQ_qs {s : Nat} {x : Rat} (h : Qs s x) (b : Nat) : Qs (s + b + 1) (dnQ x b) :=
  Qs.divInt (p := s + b + 1) ((Zs.floor (h.mul (pw_qs b))).mono (by omega)) (Zs.two (by omega)) (two_ne b)
theorem upQ_qs {s : Nat} {x : Rat} (h : Qs s x) (b : Nat) : Qs (s + b + 1) (upQ x b) := (dnQ_qs h.neg b).neg
theorem ref03_unit_ok {W : GW} {b : Nat} (hb : b ≤ 4096) :
    Ok Tryz.prog 56 [.int .i64 (b : Int)] W fun W' r => V RQ W' r (cq (pw b)) := by
  refine Ok.enter Tryz.func56 rfl rfl rfl rfl fun W0 iEn => ?_
  refine J.seq <| J.reg rfl <| ?_
  refine O.allocE fun W2 b2 i2 e2 hl2 hc2 hz2 => ?_
  refine JO.nil <| J.seq <| J.reg rfl <| O.call rfl (ref01_FromInt_ok (z := 2) (by decide)) fun W6 v6 i6 e6 h6 => O.mv rfl <| O.call rfl (ref01_Pow_ok (z := 2) (q := 2) h6.to (show Zs 2 2 from by unfold Zs; decide) hb (by decide)) fun W8 v8 i8 e8 h8 => ?_
  obtain ⟨v9, rfl, h9⟩ := h8
  refine O.mv rfl <| O.ext rfl rfl <| O.ext rfl rfl <| ?_
  refine O.allocE fun W3 b3 i3 e3 hl3 hc3 hz3 => ?_
  have n2_3 : b2 ≠ b3 := Nat.ne_of_lt (Nat.lt_of_lt_of_le (by exact hl2.to.lt) hz3)
  refine O.stT rfl rfl hl3.to h9.to rfl fun Ws1 is1 hb3 F3 => ?_
  have hl2 := F3.loc hl2.to n2_3
  refine O.as rfl <| JO.nil <| J.seq <| ?_
  refine J.draw [.rel _, .rel _] rfl rfl ⟨fun Wd id ed _ => O.ldTD rfl hb3.to.h rfl rfl (fun h => nomatch h), fun Wd id ed _ => O.call rfl (ref01_FromInt_ok (z := 1) (by decide)) fun Wd vd id ed hd => D.rel ed hd V.me, trivial⟩ ?_
  intro Wr2 ir2 er2 v11 h11 v12 h12
  refine O.call rfl (ref02_Make_ok (p := b + 1) h11.to h12.to (Zs.two (by omega)) (Zs.one (by omega)) (by omega) (by decide)) fun W13 v13 i13 e13 h13 => ?_
  refine O.stT rfl rfl hl2.to h13.to rfl fun Ws2 is2 hb2 F2 => ?_
  refine JO.nil <| J.retT rfl rfl hb2.to.h rfl rfl fun W' v' iE iP hv' => ?_
  rw [divInt1] at hv'
  exact hv'.to
theorem ref03_down_ok {W : GW} {v : Value} {x : Rat} {s b : Nat} (h : V RQ W v (cq x)) (hx : Qs s x) (hb : b ≤ 4096) (hs : s ≤ 4398046511104) :
    Ok Tryz.prog 149 [v, .int .i64 (b : Int)] W fun W' r => V RQ W' r (cq (dnQ x b)) := by
  have hp := hx.mul (pw_qs b)
  refine Ok.enter Tryz.func149 rfl rfl rfl rfl fun W0 iEn => ?_
  refine J.seq <| J.reg rfl <| O.boxT rfl h.to fun W2 b2 i2 hb2 => ?_
  refine O.allocE fun W4 b4 i4 e4 hl4 hc4 hz4 => ?_
  refine JO.nil <| J.seq <| J.reg rfl <| O.mv rfl <| O.call rfl (ref03_unit_ok hb) fun W7 v7 i7 e7 h7 => ?_
  refine O.allocE fun W5 b5 i5 e5 hl5 hc5 hz5 => ?_
  have n4_5 : b4 ≠ b5 := Nat.ne_of_lt (Nat.lt_of_lt_of_le (by exact hl4.to.lt) hz5)
  refine O.stT rfl rfl hl5.to h7.to rfl fun Ws1 is1 hb5 F5 => ?_
  have hl4 := F5.loc hl4.to n4_5
  refine JO.nil <| J.seq <| ?_
  refine J.draw [.rel _, .rel _, .rel _, .rel _, .ex _, .rel _] rfl rfl ⟨fun Wd id ed _ => O.ldTD rfl hb2.to.h rfl rfl (fun h => nomatch h), fun Wd id ed _ => O.ldTD rfl hb5.to.h rfl rfl (fun h => nomatch h), fun Wd id ed _ => fun v8 h8 => fun v9 h9 => O.call rfl (ref02_Mul_ok h8 h9 hx (pw_qs b) (by omega)) fun Wd vd id ed hd => D.rel ed hd V.me, fun Wd id ed _ => fun _ _ => fun v10 h10 => O.call rfl (ref02_Floor_ok h10 hp (by omega)) fun Wd vd id ed hd => D.rel ed hd V.me, fun Wd id ed _ => O.fa rfl <| D.ex, fun Wd id ed _ => O.ldTD rfl hb5.to.h.f rfl rfl (fun h => nomatch h), trivial⟩ ?_
  intro Wr2 ir2 er2 v8 h8 v9 h9 v10 h10 v11 h11 v13 h13
  refine O.call rfl (ref02_Make_ok (p := s + b + 1) (b := 2 ^ b) h11.to h13.to ((Zs.floor hp).mono (by omega)) (Zs.two (by omega)) (by omega) (two_ne b)) fun W14 v14 i14 e14 h14 => ?_
  refine O.stT rfl rfl hl4.to h14.to rfl fun Ws2 is2 hb4 F4 => ?_
  refine JO.nil <| J.retT rfl rfl hb4.to.h rfl rfl fun W' v' iE iP hv' => ?_
  exact hv'.to
theorem ref03_up_ok {W : GW} {v : Value} {x : Rat} {s b : Nat} (h : V RQ W v (cq x)) (hx : Qs s x) (hb : b ≤ 4096) (hs : s ≤ 4398046511104) :
    Ok Tryz.prog 150 [v, .int .i64 (b : Int)] W fun W' r => V RQ W' r (cq (upQ x b)) := by
  refine Ok.enter Tryz.func150 rfl rfl rfl rfl fun W0 iEn => ?_
  refine J.seq <| J.reg rfl <| O.boxT rfl h.to fun W2 b2 i2 hb2 => ?_
  refine O.allocE fun W4 b4 i4 e4 hl4 hc4 hz4 => ?_
  refine JO.nil <| J.seq <| J.reg rfl <| O.ldT rfl hb2.to.h rfl rfl (fun h => nomatch h) fun v5 h5 => O.call rfl (ref02_Neg_ok h5.to) fun W6 v6 i6 e6 h6 => O.mv rfl <| O.call rfl (ref03_down_ok h6.to hx.neg hb hs) fun W8 v8 i8 e8 h8 => O.call rfl (ref02_Neg_ok h8.to) fun W9 v9 i9 e9 h9 => ?_
  refine O.stT rfl rfl hl4.to h9.to rfl fun Ws1 is1 hb4 F4 => ?_
  refine JO.nil <| J.retT rfl rfl hb4.to.h rfl rfl fun W' v' iE iP hv' => ?_
  exact hv'.to
theorem ref03_Round_ok {W : GW} {v : Value} {x y : Rat} {s b : Nat} (h : V RV W v (cq x, cq y)) (hx : Qs s x) (hy : Qs s y) (hb : b ≤ 4096) (hs : s ≤ 4398046511104) :
    Ok Tryz.prog 105 [v, .int .i64 (b : Int)] W fun W' r => V RV W' r (cq (dnQ x b), cq (upQ y b)) := by
  refine Ok.enter Tryz.func105 rfl rfl rfl rfl fun W0 iEn => ?_
  refine J.seq <| J.reg rfl <| O.boxT rfl h.to fun W2 b2 i2 hb2 => ?_
  refine O.allocE fun W4 b4 i4 e4 hl4 hc4 hz4 => ?_
  refine JO.nil <| J.seq <| J.seq <| J.reg rfl <| O.mv rfl <| O.lt rfl rfl <| ?_
  refine O.set (t := 6) (.bool false) rfl (by simp only [Value.bool.injEq, decide_eq_false_iff_not]; omega) ?_
  refine O.mv rfl <| O.gt rfl rfl <| O.mv rfl <| O.gt rfl rfl <| O.gtr rfl rfl <| ?_
  refine O.set (t := 9) (.bool false) rfl (by simp only [Value.bool.injEq, decide_eq_false_iff_not]; omega) ?_
  refine O.pickF rfl rfl <| JO.nil <| J.condF rfl <| J.skip <| J.seq <| ?_
  refine J.draw [.ex _, .rel _, .ex _, .rel _, .ex _, .rel _, .ex _] rfl rfl ⟨fun Wd id ed _ => O.fa rfl <| D.ex, fun Wd id ed _ => O.ldTD rfl hb2.to.h.f rfl rfl (fun h => nomatch h), fun Wd id ed _ => O.mv rfl <| D.ex, fun Wd id ed _ => fun v13 h13 => O.call rfl (ref03_down_ok h13.to hx hb hs) fun Wd vd id ed hd => D.rel ed hd V.me, fun Wd id ed _ => O.fa rfl <| D.ex, fun Wd id ed _ => O.ldTD rfl hb2.to.h.s rfl rfl (fun h => nomatch h), fun Wd id ed _ => O.mv rfl <| D.ex, trivial⟩ ?_
  intro Wr3 ir3 er3 v13 h13 v15 h15 v17 h17
  refine O.call rfl (ref03_up_ok h17.to hy hb hs) fun W19 v19 i19 e19 h19 => O.bldT rfl rfl h15.to h19.to rfl rfl fun v20 h20 => ?_
  refine O.stT rfl rfl hl4.to h20.to rfl fun Ws1 is1 hb4 F4 => ?_
  refine JO.nil <| J.retT rfl rfl hb4.to.h rfl rfl fun W' v' iE iP hv' => ?_
  exact hv'.to
theorem cmpQ_le {x y : Rat} : cmpQ x y ≤ 0 ↔ ¬ y < x := by rw [← cmpQ_gt]; omega
theorem ref03_Valid_ok {W : GW} {v : Value} {x y : Rat} {s : Nat} (h : V RV W v (cq x, cq y)) (hx : Qs s x) (hy : Qs s y) (hs : s ≤ 4398046511104) :
    Ok Tryz.prog 52 [v] W fun _ r => r = .bool (decide (¬ y < x)) := by
  have sx := smallR_cq hx (by omega)
  have sy := smallR_cq hy (by omega)
  refine Ok.enter Tryz.func52 rfl rfl rfl rfl fun W0 iEn => ?_
  refine J.seq <| J.reg rfl <| O.boxT rfl h.to fun W1 b1 i1 hb1 => O.as rfl <| JO.nil <| J.seq <| J.reg rfl <| O.fa rfl <| O.ldT (r := RQ) rfl hb1.to.h.f rfl rfl (fun h => nomatch h) fun v4 h4 => ?_
  refine O.call rfl ((ref02_Valid_ok h4.to sx.1 sx.2).eqB (b0 := true) ⟨fun _ => ⟨x, rfl⟩, fun _ => rfl⟩) fun W5 v5 i5 e5 h5 => ?_
  subst h5
  refine O.mv rfl <| O.gt rfl rfl <| O.fa rfl <| O.gt rfl rfl <| O.ldT (r := RQ) rfl hb1.to.h.s rfl rfl (fun h => nomatch h) fun v8 h8 => O.gt rfl rfl <| ?_
  refine O.call rfl ((ref02_Valid_ok h8.to sy.1 sy.2).eqB (b0 := true) ⟨fun _ => ⟨y, rfl⟩, fun _ => rfl⟩) fun W9 v9 i9 e9 h9 => ?_
  subst h9
  refine O.pickT rfl rfl <| O.mv rfl <| O.gt rfl rfl <| O.fa rfl <| O.gt rfl rfl <| O.ldT (r := RQ) rfl hb1.to.h.f rfl rfl (fun h => nomatch h) fun v13 h13 => O.gt rfl rfl <| O.fa rfl <| O.gt rfl rfl <| O.ldT (r := RQ) rfl hb1.to.h.s rfl rfl (fun h => nomatch h) fun v15 h15 => O.gt rfl rfl <| ?_
  refine O.call rfl (ref02_Cmp_ok h13.to h15.to hx hy (by omega)) fun W16 v16 i16 e16 h16 => ?_
  subst h16
  refine O.gt rfl rfl <| O.le rfl rfl <| O.pickT rfl rfl <| O.as rfl <| JO.nil <| J.ret1 rfl (.tmp rfl) fun W' iE iP => ?_
  congr 1; exact decide_eq_decide.2 cmpQ_le
/-- valid, and no wider than 2^-b -/
def narrow (x y : Rat) (b : Nat) : Prop := ¬ y < x ∧ ¬ 1 < (y - x) * pw b
open Classical in
theorem ref03_Narrow_ok {W : GW} {v : Value} {x y : Rat} {s b : Nat} (h : V RV W v (cq x, cq y)) (hx : Qs s x) (hy : Qs s y) (hb : b ≤ 4096) (hs : s ≤ 2199023255552) :
    Ok Tryz.prog 18 [v, .int .i64 (b : Int)] W fun _ r => r = .bool (decide (narrow x y b)) := by
  have hd : Qs (s + s + 1) (y - x) := by rw [Rat.sub_eq_add_neg]; exact hy.add hx.neg
  refine Ok.enter Tryz.func18 rfl rfl rfl rfl fun W0 iEn => ?_
  refine J.seq <| J.reg rfl <| O.boxT rfl h.to fun W2 b2 i2 hb2 => O.as rfl <| JO.nil <| J.seq <| J.reg rfl <| O.ldT rfl hb2.to.h rfl rfl (fun h => nomatch h) fun v5 h5 => ?_
  refine O.call rfl (ref03_Valid_ok h5.to hx hy (by omega)) fun W6 v6 i6 e6 h6 => ?_
  subst h6
  refine O.mv rfl <| ?_
  by_cases hg7 : ¬ y < x
  · skip
    refine O.set (t := 7) (.bool true) rfl (by simp only [Value.bool.injEq, decide_eq_true_eq, decide_eq_false_iff_not]; omega) <| O.gt rfl rfl <| O.fa rfl <| O.gt rfl rfl <| O.ldT (r := RQ) rfl hb2.to.h.s rfl rfl (fun h => nomatch h) fun v9 h9 => O.gt rfl rfl <| O.fa rfl <| O.gt rfl rfl <| O.ldT (r := RQ) rfl hb2.to.h.f rfl rfl (fun h => nomatch h) fun v11 h11 => O.gt rfl rfl <| O.call rfl (ref02_Sub_ok h9.to h11.to hy hx (by omega)) fun W12 v12 i12 e12 h12 => O.gt rfl rfl <| O.mv rfl <| O.gt rfl rfl <| O.call rfl (ref03_unit_ok hb) fun W14 v14 i14 e14 h14 => O.gt rfl rfl <| O.call rfl (ref02_Mul_ok h12.to h14.to hd (pw_qs b) (by omega)) fun W15 v15 i15 e15 h15 => O.gt rfl rfl <| O.call rfl (ref02_FromInt_ok (z := 1) (by decide)) fun W16 v16 i16 e16 h16 => O.gt rfl rfl <| ?_
    refine O.call rfl (ref02_Cmp_ok h15.to h16.to (hd.mul (pw_qs b)) (Qs.int (p := 1) (z := 1) (Zs.one (by decide)) (by decide)) (by omega)) fun W17 v17 i17 e17 h17 => ?_
    subst h17
    refine O.gt rfl rfl <| O.le rfl rfl <| O.pickT rfl rfl <| O.as rfl <| JO.nil <| J.ret1 rfl (.tmp rfl) fun W' iE iP => ?_
    congr 1; exact decide_eq_decide.2 (cmpQ_le.trans ⟨fun h => ⟨hg7, h⟩, fun h => h.2⟩)
  · skip
    refine O.set (t := 7) (.bool false) rfl (by simp only [Value.bool.injEq, decide_eq_true_eq, decide_eq_false_iff_not]; omega) <| O.gs rfl rfl rfl <| O.gs rfl rfl rfl <| O.gs rfl rfl rfl <| O.gs rfl rfl rfl <| O.gs rfl rfl rfl <| O.gs rfl rfl rfl <| O.gs rfl rfl rfl <| O.gs rfl rfl rfl <| O.gs rfl rfl rfl <| O.gs rfl rfl rfl <| O.gs rfl rfl rfl <| O.pickF rfl rfl <| O.as rfl <| JO.nil <| J.ret1 rfl (.tmp rfl) fun W' iE iP => ?_
    congr 1; exact (decide_eq_false (fun h => hg7 h.1)).symm
end
section
theorem len_nat {a p : Nat} (h : a < 2 ^ p) : (dig a).length ≤ p / 32 + 1 := by
  refine dig_len_le (Nat.lt_of_lt_of_le h ?_)
  rw [show (4294967296 : Nat) = 2 ^ 32 from rfl, ← Nat.pow_mul]
  exact Nat.pow_le_pow_right (by decide) (by omega)
/-- the square root of the integer below -/
def rtF (x : Rat) : Nat := rt x.floor.toNat
theorem rt_le (n : Nat) : rt n ≤ n := by
  have h := (rt_spec n).1
  by_cases h0 : rt n = 0
  · omega
  · have := Nat.mul_le_mul_left (rt n) (show 1 ≤ rt n by omega)
    omega
theorem floor_nat {x : Rat} (h : 0 ≤ x) : x.floor = (x.floor.toNat : Int) := by
  have : (0 : Int) ≤ x.floor := Rat.le_floor_iff.2 h
  omega
theorem rtF_zs {s : Nat} {x : Rat} (h : Qs s x) (h0 : 0 ≤ x) : Zs s (rtF x : Int) := by
  have h1 := Zs.floor h
  rw [floor_nat h0] at h1
  have h2 := rt_le x.floor.toNat
  unfold Zs at *
  have h1 : x.floor.toNat < 2 ^ s := h1
  show rt x.floor.toNat < 2 ^ s
  omega
theorem pw_pos (b : Nat) : 0 < pw b := Rat.intCast_pos.2 (Int.pow_pos (by decide))
def sq2 (x : Rat) (b : Nat) : Rat := x * (pw b * pw b)
def sqLo (x : Rat) (b : Nat) : Rat := Rat.divInt (rtF (sq2 x b) : Int) (2 ^ b)
open Classical in
noncomputable def sqUp (x : Rat) : Nat := if ((rtF x * rtF x : Int) : Rat) < x then rtF x + 1 else rtF x
noncomputable def sqHi (x : Rat) (b : Nat) : Rat := Rat.divInt (sqUp (sq2 x b) : Int) (2 ^ b)
theorem sq2_qs {s b : Nat} {x : Rat} (h : Qs s x) : Qs (s + (2 * b + 2)) (sq2 x b) := (h.mul ((pw_qs b).mul (pw_qs b))).mono (by omega)
theorem sq2_nn {x : Rat} {b : Nat} (h : 0 ≤ x) : 0 ≤ sq2 x b := Rat.mul_nonneg h (Rat.mul_nonneg (Rat.le_of_lt (pw_pos b)) (Rat.le_of_lt (pw_pos b)))
theorem sign_nn {x : Rat} (h : 0 ≤ x) : ¬ cmpI x.num 0 < 0 := by
  have := Rat.num_nonneg.2 h
  rcases cmpI_tri x.num 0 with ⟨h1, e1⟩ | ⟨h1, e1⟩ | ⟨h1, e1⟩ <;> omega
theorem ref03_Sqrt_ok {W : GW} {v : Value} {x y : Rat} {s b : Nat} (h : V RV W v (cq x, cq y)) (hx : Qs s x) (hy : Qs s y) (hx0 : 0 ≤ x) (hy0 : 0 ≤ y) (hb : b ≤ 4096) (hs : s ≤ 1099511627776) :
    Ok Tryz.prog 104 [v, .int .i64 (b : Int)] W fun W' r => ∃ v1, r = .tuple #[v1, .int .i64 0] ∧ V RV W' v1 (cq (sqLo x b), cq (sqHi y b)) := by
  have hw : Qs (2 * b + 2) (pw b * pw b) := ((pw_qs b).mul (pw_qs b)).mono (by omega)
  have qx := sq2_qs (b := b) hx
  have qy := sq2_qs (b := b) hy
  have nx := sq2_nn (b := b) hx0
  have ny := sq2_nn (b := b) hy0
  have zx := rtF_zs qx nx
  have zy := rtF_zs qy ny
  have fx := Zs.floor qx
  have fy := Zs.floor qy
  rw [floor_nat nx] at fx
  rw [floor_nat ny] at fy
  have lx := len_nat (show (sq2 x b).floor.toNat < _ from fx)
  have ly := len_nat (show (sq2 y b).floor.toNat < _ from fy)
  have zyy := zy.mul zy
  have hpow : Zs (b + 1) (2 ^ b : Int) := Zs.two (Nat.le_refl _)
  refine Ok.enter Tryz.func104 rfl rfl rfl rfl fun W0 iEn => ?_
  refine J.seq <| J.reg rfl <| O.boxT rfl h.to fun W2 b2 i2 hb2 => ?_
  refine O.allocE fun W4 b4 i4 e4 hl4 hc4 hz4 => ?_
  refine O.as rfl <| JO.nil <| J.seq <| J.seq <| J.reg rfl <| O.mv rfl <| O.lt rfl rfl <| ?_
  refine O.set (t := 14) (.bool false) rfl (by simp only [Value.bool.injEq, decide_eq_false_iff_not]; omega) ?_
  refine O.mv rfl <| O.gt rfl rfl <| O.mv rfl <| O.gt rfl rfl <| O.gtr rfl rfl <| ?_
  refine O.set (t := 17) (.bool false) rfl (by simp only [Value.bool.injEq, decide_eq_false_iff_not]; omega) ?_
  refine O.pickF rfl rfl <| JO.nil <| J.condF rfl <| J.skip <| J.seq <| J.seq <| J.reg rfl <| O.fa rfl <| O.ldT (r := RQ) rfl hb2.to.h.f rfl rfl (fun h => nomatch h) fun v21 h21 => ?_
  refine O.call rfl (ref02_Sign_ok h21.to) fun W22 v22 i22 e22 h22 => ?_
  subst h22
  refine O.lt rfl rfl <| ?_
  refine O.set (t := 23) (.bool false) rfl (by simp only [Value.bool.injEq, decide_eq_false_iff_not]; exact sign_nn hx0) ?_
  refine JO.nil <| J.condF rfl <| J.skip <| J.seq <| J.reg rfl <| O.mv rfl <| O.call rfl (ref03_unit_ok hb) fun W26 v26 i26 e26 h26 => ?_
  refine O.allocE fun W6 b6 i6 e6 hl6 hc6 hz6 => ?_
  have n4_6 : b4 ≠ b6 := Nat.ne_of_lt (Nat.lt_of_lt_of_le (by exact hl4.to.lt) hz6)
  refine O.stT rfl rfl hl6.to h26.to rfl fun Ws1 is1 hb6 F6 => ?_
  have hl4 := F6.loc hl4.to n4_6
  refine JO.nil <| J.seq <| J.reg rfl <| O.ldT rfl hb6.to.h rfl rfl (fun h => nomatch h) fun v27 h27 => O.ldT rfl hb6.to.h rfl rfl (fun h => nomatch h) fun v28 h28 => O.call rfl (ref02_Mul_ok h27.to h28.to (pw_qs b) (pw_qs b) (by omega)) fun W29 v29 i29 e29 h29 => ?_
  refine O.allocE fun W7 b7 i7 e7 hl7 hc7 hz7 => ?_
  have n4_7 : b4 ≠ b7 := Nat.ne_of_lt (Nat.lt_of_lt_of_le (by exact hl4.to.lt) hz7)
  refine O.stT rfl rfl hl7.to h29.to rfl fun Ws2 is2 hb7 F7 => ?_
  have hl4 := F7.loc hl4.to n4_7
  refine JO.nil <| J.seq <| J.reg rfl <| O.fa rfl <| O.ldT (r := RQ) rfl hb2.to.h.f rfl rfl (fun h => nomatch h) fun v32 h32 => O.ldT rfl hb7.to.h rfl rfl (fun h => nomatch h) fun v33 h33 => O.call rfl (ref02_Mul_ok h32.to h33.to hx hw (by omega)) fun W34 v34 i34 e34 h34 => O.call rfl (ref02_Floor_ok h34.to qx (by omega)) fun W35 v35 i35 e35 h35 => ?_
  rw [show (x * (pw b * pw b)).floor = ((sq2 x b).floor.toNat : Int) from floor_nat nx] at h35
  refine O.call rfl (ref01_Sqrt_ok h35.to (by omega)) fun W36 v36 i36 e36 h36 => ?_
  obtain ⟨v37, rfl, h37⟩ := h36
  refine O.mv rfl <| O.ext rfl rfl <| O.ext rfl rfl <| ?_
  refine O.allocE fun W8 b8 i8 e8 hl8 hc8 hz8 => ?_
  have n4_8 : b4 ≠ b8 := Nat.ne_of_lt (Nat.lt_of_lt_of_le (by exact hl4.to.lt) hz8)
  refine O.stT rfl rfl hl8.to h37.to rfl fun Ws3 is3 hb8 F8 => ?_
  have hl4 := F8.loc hl4.to n4_8
  refine O.as rfl <| JO.nil <| J.seq <| J.reg rfl <| O.fa rfl <| O.ldT (r := RQ) rfl hb2.to.h.s rfl rfl (fun h => nomatch h) fun v40 h40 => O.ldT rfl hb7.to.h rfl rfl (fun h => nomatch h) fun v41 h41 => O.call rfl (ref02_Mul_ok h40.to h41.to hy hw (by omega)) fun W42 v42 i42 e42 h42 => ?_
  refine O.allocE fun W10 b10 i10 e10 hl10 hc10 hz10 => ?_
  have n4_10 : b4 ≠ b10 := Nat.ne_of_lt (Nat.lt_of_lt_of_le (by exact hl4.to.lt) hz10)
  refine O.stT rfl rfl hl10.to h42.to rfl fun Ws4 is4 hb10 F10 => ?_
  have hl4 := F10.loc hl4.to n4_10
  refine JO.nil <| J.seq <| J.reg rfl <| O.ldT rfl hb10.to.h rfl rfl (fun h => nomatch h) fun v44 h44 => O.call rfl (ref02_Floor_ok h44.to qy (by omega)) fun W45 v45 i45 e45 h45 => ?_
  rw [show (y * (pw b * pw b)).floor = ((sq2 y b).floor.toNat : Int) from floor_nat ny] at h45
  refine O.call rfl (ref01_Sqrt_ok h45.to (by omega)) fun W46 v46 i46 e46 h46 => ?_
  obtain ⟨v47, rfl, h47⟩ := h46
  refine O.mv rfl <| O.ext rfl rfl <| O.ext rfl rfl <| ?_
  refine O.allocE fun W11 b11 i11 e11 hl11 hc11 hz11 => ?_
  have n4_11 : b4 ≠ b11 := Nat.ne_of_lt (Nat.lt_of_lt_of_le (by exact hl4.to.lt) hz11)
  refine O.stM rfl rfl hl11.to h47.to rfl fun Ws5 is5 hk11 F11 => ?_
  refine O.as rfl <| JO.nil <| J.seq <| J.seq <| ?_
  refine J.draw [.rel _, .rel _, .rel _, .rel _, .rel _, .rel _] rfl rfl ⟨fun Wd id ed _ => O.ldTD rfl (hk11.ext ed).h rfl rfl (fun h => nomatch h), fun Wd id ed _ => O.ldTD rfl (hk11.ext ed).h rfl rfl (fun h => nomatch h), fun Wd id ed _ => fun v49 h49 => fun v50 h50 => O.call rfl (ref01_Mul_ok h49 h50 (zy.len (by omega)) (zy.len (by omega))) fun Wd vd id ed hd => D.rel ed hd V.me, fun Wd id ed _ => fun v51 h51 => O.call rfl (ref01_FromInt_ok (z := 1) (by decide)) fun Wd vd id ed hd => D.rel ed hd V.me, fun Wd id ed _ => fun v51 h51 => fun _ _ => fun v52 h52 => O.call rfl (ref02_Make_ok (p := s + (2 * b + 2) + (s + (2 * b + 2)) + 1) (b := 1) h51 h52 (zyy.mono (by omega)) (Zs.one (by omega)) (by omega) (by decide)) fun Wd vd id ed hd => D.rel (R := fun W v => V RQ W v (cq ((rtF (sq2 y b) * rtF (sq2 y b) : Int) : Rat))) ed (by rw [divInt1] at hd; exact hd) V.me, fun Wd id ed _ => O.ldTD rfl hb10.to.h rfl rfl (fun h => nomatch h), trivial⟩ ?_
  intro Wr10 ir10 er10 v49 h49 v50 h50 v51 h51 v52 h52 v53 h53 v54 h54
  refine O.call rfl (ref02_Cmp_ok h53.to h54.to (Qs.int zyy (by omega)) qy (by omega)) fun W55 v55 i55 e55 h55 => ?_
  subst h55
  refine O.lt rfl rfl <| JO.nil <| J.condD rfl (fun h56 => ?_) (fun h56 => ?_)
  · skip
    have hup : sqUp (sq2 y b) = rtF (sq2 y b) + 1 := if_pos (cmpQ_lt.1 h56)
    refine J.draw [.rel _, .rel _] rfl rfl ⟨fun Wd id ed _ => O.ldTD rfl (((hk11.ext er10).ext e55).ext ed).h rfl rfl (fun h => nomatch h), fun Wd id ed _ => O.call rfl (ref01_FromInt_ok (z := 1) (by decide)) fun Wd vd id ed hd => D.rel ed hd V.me, trivial⟩ ?_
    intro Wr11 ir11 er11 v57 h57 v58 h58
    refine O.call rfl (ref01_Add_ok h57.to h58.to (zy.len (by omega)) ((Zs.one (p := 1) (by decide)).len (by decide))) fun W59 v59 i59 e59 h59 => ?_
    refine O.stM rfl rfl hl11.to h59.to rfl fun Ws6 is6 hk11 F11 => ?_
    refine JO.nil <| J.seq <| ?_
    refine J.draw [.rel _, .ex _, .rel _, .rel _, .rel _, .ex _, .rel _] rfl rfl ⟨fun Wd id ed _ => O.ldTD rfl hb8.to.h rfl rfl (fun h => nomatch h), fun Wd id ed _ => O.fa rfl <| D.ex, fun Wd id ed _ => O.ldTD rfl hb6.to.h.f rfl rfl (fun h => nomatch h), fun Wd id ed _ => fun v60 h60 => fun v62 h62 => O.call rfl (ref02_Make_ok (p := s + (2 * b + 2) + b + 2) (a := (rtF (sq2 x b) : Int)) (b := 2 ^ b) h60.to h62.to (zx.mono (by omega)) (hpow.mono (by omega)) (by omega) (two_ne b)) fun Wd vd id ed hd => D.rel ed hd V.me, fun Wd id ed _ => O.ldTD rfl (hk11.ext ed).h rfl rfl (fun h => nomatch h), fun Wd id ed _ => O.fa rfl <| D.ex, fun Wd id ed _ => O.ldTD rfl hb6.to.h.f rfl rfl (fun h => nomatch h), trivial⟩ ?_
    intro Wr12 ir12 er12 v60 h60 v62 h62 v63 h63 v64 h64 v66 h66
    refine O.call rfl (ref02_Make_ok (p := s + (2 * b + 2) + b + 2) (a := (rtF (sq2 y b) : Int) + 1) (b := 2 ^ b) h64.to h66.to ((zy.add (Zs.one (p := 1) (by decide))).mono (by omega)) (hpow.mono (by omega)) (by omega) (two_ne b)) fun W67 v67 i67 e67 h67 => O.bldT rfl rfl h63.to h67.to rfl rfl fun v68 h68 => ?_
    refine O.stT rfl rfl hl4.to h68.to rfl fun Ws7 is7 hb4 F4 => ?_
    have hl11 := F4.loc hl11.to n4_11.symm
    have hk11 := ((hk11.ext er12).ext e67).stf F4 n4_11.symm
    refine O.as rfl <| JO.nil <| J.retTv rfl rfl hb4.to.h rfl rfl rfl fun W' v' iE iP hv' => ?_
    refine ⟨_, rfl, ?_⟩
    rw [sqHi, hup]
    exact hv'.to
  · skip
    have hup : sqUp (sq2 y b) = rtF (sq2 y b) := if_neg (fun e => h56 (cmpQ_lt.2 e))
    refine J.skip <| J.seq <| ?_
    refine J.draw [.rel _, .ex _, .rel _, .rel _, .rel _, .ex _, .rel _] rfl rfl ⟨fun Wd id ed _ => O.ldTD rfl hb8.to.h rfl rfl (fun h => nomatch h), fun Wd id ed _ => O.fa rfl <| D.ex, fun Wd id ed _ => O.ldTD rfl hb6.to.h.f rfl rfl (fun h => nomatch h), fun Wd id ed _ => fun v60 h60 => fun v62 h62 => O.call rfl (ref02_Make_ok (p := s + (2 * b + 2) + b + 2) (a := (rtF (sq2 x b) : Int)) (b := 2 ^ b) h60.to h62.to (zx.mono (by omega)) (hpow.mono (by omega)) (by omega) (two_ne b)) fun Wd vd id ed hd => D.rel ed hd V.me, fun Wd id ed _ => O.ldTD rfl (((hk11.ext er10).ext e55).ext ed).h rfl rfl (fun h => nomatch h), fun Wd id ed _ => O.fa rfl <| D.ex, fun Wd id ed _ => O.ldTD rfl hb6.to.h.f rfl rfl (fun h => nomatch h), trivial⟩ ?_
    intro Wr12 ir12 er12 v60 h60 v62 h62 v63 h63 v64 h64 v66 h66
    refine O.call rfl (ref02_Make_ok (p := s + (2 * b + 2) + b + 2) (a := (rtF (sq2 y b) : Int)) (b := 2 ^ b) h64.to h66.to (zy.mono (by omega)) (hpow.mono (by omega)) (by omega) (two_ne b)) fun W67 v67 i67 e67 h67 => O.bldT rfl rfl h63.to h67.to rfl rfl fun v68 h68 => ?_
    refine O.stT rfl rfl hl4.to h68.to rfl fun Ws8 is8 hb4 F4 => ?_
    have hl11 := F4.loc hl11.to n4_11.symm
    have hk11 := ((((hk11.ext er10).ext e55).ext er12).ext e67).stf F4 n4_11.symm
    refine O.as rfl <| JO.nil <| J.retTv rfl rfl hb4.to.h rfl rfl rfl fun W' v' iE iP hv' => ?_
    refine ⟨_, rfl, ?_⟩
    rw [sqHi, hup]
    exact hv'.to
theorem ref03_Zero_ok {W : GW} {v : Value} (h : V RV W v (((false, []), (false, [])), ((false, []), (false, [])))) :
    Ok Tryz.prog 17 [v] W fun _ r => r = .bool true := by
  refine Ok.enter Tryz.func17 rfl rfl rfl rfl fun W0 iEn => ?_
  refine J.seq <| J.reg rfl <| O.boxT rfl h.to fun W1 b1 i1 hb1 => O.as rfl <| JO.nil <| J.seq <| J.reg rfl <| O.fa rfl <| O.fa rfl <| O.fa rfl <| ?_
  refine O.ldTs rfl hb1.to.h.f.f.s fun p6 m6 c6 s6 => ?_
  have h6 := s6.v
  obtain rfl : m6 = 0 := s6.hn
  refine O.len rfl <| O.fa rfl <| O.fa rfl <| O.fa rfl <| ?_
  refine O.ldTs rfl hb1.to.h.f.s.s fun p11 m11 c11 s11 => ?_
  have h11 := s11.v
  obtain rfl : m11 = 0 := s11.hn
  refine O.len rfl <| O.add rfl rfl (wI (by omega)) <| O.fa rfl <| O.fa rfl <| O.fa rfl <| ?_
  refine O.ldTs rfl hb1.to.h.s.f.s fun p17 m17 c17 s17 => ?_
  have h17 := s17.v
  obtain rfl : m17 = 0 := s17.hn
  refine O.len rfl <| O.add rfl rfl (wI (by omega)) <| O.fa rfl <| O.fa rfl <| O.fa rfl <| ?_
  refine O.ldTs rfl hb1.to.h.s.s.s fun p23 m23 c23 s23 => ?_
  have h23 := s23.v
  obtain rfl : m23 = 0 := s23.hn
  refine O.len rfl <| O.add rfl rfl (wI (by omega)) <| O.eq rfl rfl <| O.mv rfl <| O.gt rfl rfl <| O.fa rfl <| O.gt rfl rfl <| O.fa rfl <| O.gt rfl rfl <| O.fa rfl <| O.gt rfl rfl <| O.ldTb rfl hb1.to.h.f.f.f <| O.gt rfl rfl <| O.not rfl <| O.pickT rfl rfl <| O.mv rfl <| O.gt rfl rfl <| O.fa rfl <| O.gt rfl rfl <| O.fa rfl <| O.gt rfl rfl <| O.fa rfl <| O.gt rfl rfl <| O.ldTb rfl hb1.to.h.f.s.f <| O.gt rfl rfl <| O.not rfl <| O.pickT rfl rfl <| O.mv rfl <| O.gt rfl rfl <| O.fa rfl <| O.gt rfl rfl <| O.fa rfl <| O.gt rfl rfl <| O.fa rfl <| O.gt rfl rfl <| O.ldTb rfl hb1.to.h.s.f.f <| O.gt rfl rfl <| O.not rfl <| O.pickT rfl rfl <| O.mv rfl <| O.gt rfl rfl <| O.fa rfl <| O.gt rfl rfl <| O.fa rfl <| O.gt rfl rfl <| O.fa rfl <| O.gt rfl rfl <| O.ldTb rfl hb1.to.h.s.s.f <| O.gt rfl rfl <| O.not rfl <| O.pickT rfl rfl <| O.as rfl <| JO.nil <| J.ret1 rfl (.tmp rfl) fun W' iE iP => ?_
  rfl
end
section
/-- the size of what a sign looks at -/
def vB (r : Nat) : Nat → Nat → Nat
  | 0, s => s
  | k + 1, s => vB r k (nB r k s)
theorem vnB_ge (r k s : Nat) : s ≤ nB r k s := by unfold nB; omega
theorem nB_mono {r k s s' : Nat} (h : s ≤ s') : nB r k s ≤ nB r k s' := by unfold nB; omega
theorem vB_mono {r : Nat} : ∀ {k s s' : Nat}, s ≤ s' → vB r k s ≤ vB r k s'
  | 0, _, _, h => h
  | k + 1, _, _, h => vB_mono (k := k) (nB_mono h)
theorem vB_ge {r : Nat} : ∀ (k s : Nat), s ≤ vB r k s
  | 0, _ => Nat.le_refl _
  | k + 1, s => Nat.le_trans (vnB_ge r k s) (vB_ge k _)
theorem sgnQ_cmp (x : Rat) : cmpI x.num 0 = sgnQ x := by
  rcases cmpI_tri x.num 0 with ⟨h, e⟩ | ⟨h, e⟩ | ⟨h, e⟩ <;> rw [e]
  · rw [sgnQ_neg (by rw [Rat.lt_iff]; show x.num * 1 < 0 * _; omega)]
  · rw [Rat.num_eq_zero.1 h]; rfl
  · rw [sgnQ_pos (by rw [Rat.lt_iff]; show 0 * _ < x.num * 1; omega)]
theorem sign_value0 {W : GW} {p q : Option Addr} {c m d : Nat} {a : Rat} (h' : Sl RQ W q m d (cl [a])) :
    Ok Tryz.prog 41 [.slice p 0 c, .slice q m d] W fun _ v => v = .int .i64 (sgnQ a) := by
  refine Ok.enter Tryz.func41 rfl rfl rfl rfl fun W0 iEn => ?_
  refine J.seq <| J.reg rfl <| O.as rfl <| JO.nil <| J.seq <| J.seq <| J.reg rfl <| O.mv rfl <| O.len rfl <| O.eq rfl rfl <| JO.nil <| J.condD rfl (fun h15 => ?_) (fun h15 => ?_)
  · skip
    refine J.seq <| J.reg rfl <| O.mv rfl <| O.iaT (j := 0) rfl rfl rfl h'.to (show (cl [a])[0]? = some (cq a) from rfl) rfl fun b17 o17 hb17 => O.ldT rfl hb17.to.h rfl rfl (fun h => nomatch h) fun v18 h18 => ?_
    refine O.call rfl (rational_Sign_ok h18.to) fun W19 v19 i19 e19 h19 => ?_
    subst h19
    refine O.as rfl <| JO.nil <| J.ret1 rfl (.tmp rfl) fun W' iE iP => ?_
    rw [sgnQ_cmp]
  · skip
    exact absurd rfl h15 -- done
theorem sign_value_ok {k : Nat} : ∀ {W : GW} {p q : Option Addr} {n c m d r s : Nat} {t : Tw k} {a : El k}, Sl RE W p n c (ct (toT k t)) → Sl RQ W q m d (cl (toL k a)) →
    TS r k t → Sz s (toL k a) → k ≤ 16 → vB r k s ≤ 8796093022208 → r ≤ 8796093022208 →
    Ok Tryz.prog 41 [.slice p n c, .slice q m d] W fun _ v => v = .int .i64 (sgn k t a) := by
  induction k with
  | zero =>
    intro W p q n c m d r s t a h h' hT ha hk hs hr
    have hn : n = 0 := h.hn
    subst hn
    exact sign_value0 (a := a) h'
  | succ k ih =>
    intro W p q n c m d r s t a h h' hT ha hk hs hr
    have hn : n = k + 1 := by rw [h.hn, ct, List.length_map, toT_length]
    have hm : m = 2 ^ (k + 1) := by rw [h'.hn, cl_length, toL_length]
    have hp := pow_le hk
    have hp1 : 2 ^ (k + 1) = 2 * 2 ^ k := by rw [Nat.pow_succ]; omega
    have hx : Sz s (toL k a.1) := Sz.left ha
    have hy : Sz s (toL k a.2) := Sz.right ha
    have hnb : nB r k s = 4 * s + 3 * cB r k + r + 1 := rfl
    have hv : vB r k (nB r k s) ≤ 8796093022208 := hs
    have hv1 := vB_ge (r := r) k (nB r k s)
    have hv2 := vB_mono (r := r) (k := k) (vnB_ge r k s)
    have hc' := h'.hc
    have hC' := h'.hC
    have hcc := h.hc
    have hCC := h.hC
    have s31 := h'.take (2 ^ k) (by omega)
    rw [(cl_halves a).1] at s31
    have s34 := h'.drop (2 ^ k) (by omega)
    rw [(cl_halves a).2] at s34
    have s28 := h.take k (by omega)
    rw [ct_succ, List.take_left' (by rw [ct, List.length_map, toT_length])] at s28
    have hrr : (ct (toT (k + 1) t))[k]? = some (cl (toL k t.2)) := by
      rw [ct_succ, List.getElem?_append_right (by rw [ct, List.length_map, toT_length]; omega), ct, List.length_map, toT_length, Nat.sub_self]; rfl
    have hq : Int.tdiv (m : Int) 2 = ((2 ^ k : Nat) : Int) := by rw [show Int.tdiv (m : Int) 2 = ((m / 2 : Nat) : Int) from rfl]; omega
    have hsg : sgn (k + 1) t a = if sgn k t.1 a.2 = 0 ∨ sgn k t.1 a.1 = sgn k t.1 a.2 then sgn k t.1 a.1 else if sgn k t.1 a.1 = 0 then sgn k t.1 a.2 else sgn k t.1 a.1 * sgn k t.1 ((ring k t.1).nP t.2 a) := rfl
    have hd : Sz (nB r k s) (toL k (add k (mul k t.1 a.1 a.1) (neg k (mul k t.1 t.2 (mul k t.1 a.2 a.2))))) := by
      rw [toL_add, toL_neg]
      exact ((hx.mul hT.1 hx).add (hT.2.mul hT.1 (hy.mul hT.1 hy)).neg).mono (by omega)
    have hde : add k (mul k t.1 a.1 a.1) (neg k (mul k t.1 t.2 (mul k t.1 a.2 a.2))) = (ring k t.1).nP t.2 a := by
      unfold Laws.nP
      rw [(ring k t.1).mc t.2]
    refine Ok.enter Tryz.func41 rfl rfl rfl rfl fun W0 iEn => ?_
    refine J.seq <| J.reg rfl <| O.as rfl <| JO.nil <| J.seq <| J.seq <| J.reg rfl <| O.mv rfl <| O.len rfl <| O.eq rfl rfl <| JO.nil <| J.condD rfl (fun h15 => ?_) (fun h15 => ?_)
    · skip
      omega -- done
    · skip
      refine J.skip <| J.seq <| J.reg rfl <| O.mv rfl <| O.len rfl <| O.sb (r := (k : Int)) rfl rfl ((wI (by omega)).trans (by omega)) <| O.mv rfl <| O.len rfl <| O.quo (r := ((2 ^ k : Nat) : Int)) rfl rfl (by decide) (by rw [hq]; exact wI (by omega)) <| O.as rfl <| O.as rfl <| JO.nil <| J.seq <| ?_
      refine J.draw [.ex _, .ex _, .ex _, .ex _, .ex _, .ex _, .ex _, .ex _, .ex _, .ex _, .ex _, .ex _] rfl rfl ⟨fun Wd id ed _ => O.mv rfl <| D.ex, fun Wd id ed _ => O.mv rfl <| D.ex, fun Wd id ed _ => O.slh (hi := k) rfl rfl rfl (by omega) <| D.ex, fun Wd id ed _ => O.mv rfl <| D.ex, fun Wd id ed _ => O.mv rfl <| D.ex, fun Wd id ed _ => O.slh (hi := 2 ^ k) rfl rfl rfl (by omega) <| D.ex, fun Wd id ed _ => O.mv rfl <| D.ex, fun Wd id ed _ => O.mv rfl <| D.ex, fun Wd id ed _ => O.sll (lo := 2 ^ k) rfl rfl rfl (by omega) <| D.ex, fun Wd id ed _ => O.as rfl <| D.ex, fun Wd id ed _ => O.as rfl <| D.ex, fun Wd id ed _ => O.as rfl <| D.ex, trivial⟩ ?_
      intro Wr4 ir4 er4
      refine JO.nil <| J.seq <| J.reg rfl <| O.mv rfl <| O.mv rfl <| ?_
      refine O.call rfl (ih s28.to s31.to hT.1 hx (by omega) (by omega) hr) fun W37 v37 i37 e37 h37 => ?_
      subst h37
      refine O.mv rfl <| O.mv rfl <| ?_
      refine O.call rfl (ih s28.to s34.to hT.1 hy (by omega) (by omega) hr) fun W40 v40 i40 e40 h40 => ?_
      subst h40
      refine O.as rfl <| O.as rfl <| JO.nil <| J.seq <| J.block <| J.seq <| J.reg rfl <| O.mv rfl <| O.eq rfl rfl <| O.mv rfl <| ?_
      by_cases hg44 : sgn k t.1 a.2 = 0
      · skip
        refine O.set (t := 44) (.bool true) rfl (by simp only [Value.bool.injEq, decide_eq_true_eq, decide_eq_false_iff_not]; omega) <| O.gs rfl rfl rfl <| O.gs rfl rfl rfl <| O.gs rfl rfl rfl <| O.pickT rfl rfl <| O.as rfl <| JO.nil <| J.condT rfl <| J.seq <| J.reg rfl <| O.mv rfl <| O.as rfl <| JO.nil <| J.ret1 rfl (.tmp rfl) fun W' iE iP => ?_
        rw [hsg, if_pos (by first | exact .inl hg44 | exact .inr h41)]
      · skip
        refine O.set (t := 44) (.bool false) rfl (by simp only [Value.bool.injEq, decide_eq_true_eq, decide_eq_false_iff_not]; omega) <| O.gt rfl rfl <| O.mv rfl <| O.gt rfl rfl <| O.mv rfl <| O.gt rfl rfl <| O.eq rfl rfl <| O.pickF rfl rfl <| O.as rfl <| JO.nil <| J.condD rfl (fun h41 => ?_) (fun h41 => ?_)
        · skip
          refine J.seq <| J.reg rfl <| O.mv rfl <| O.as rfl <| JO.nil <| J.ret1 rfl (.tmp rfl) fun W' iE iP => ?_
          rw [hsg, if_pos (by first | exact .inl hg44 | exact .inr h41)]
        · skip
          refine J.seq <| J.reg rfl <| O.mv rfl <| O.eq rfl rfl <| O.as rfl <| JO.nil <| J.condD rfl (fun h50 => ?_) (fun h50 => ?_)
          · skip
            refine J.seq <| J.reg rfl <| O.mv rfl <| O.as rfl <| JO.nil <| J.ret1 rfl (.tmp rfl) fun W' iE iP => ?_
            rw [hsg, if_neg (fun e => e.elim hg44 h41), if_pos h50]
          · skip
            refine J.skip <| J.bend <| J.seq <| ?_
            obtain ⟨b62, o62, rfl, hj62, hb62⟩ := (h).placeP hrr
            refine J.draw [.ex _, .ex _, .ex _, .ex _, .rel _, .ex _, .ex _, .ex _, .ex _, .rel _, .ex _, .ex _, .ex _, .rel _, .rel _] rfl rfl ⟨fun Wd id ed _ => O.mv rfl <| D.ex, fun Wd id ed _ => O.mv rfl <| D.ex, fun Wd id ed _ => O.mv rfl <| D.ex, fun Wd id ed _ => O.mv rfl <| D.ex, fun Wd id ed _ => O.call rfl (tower_Mul_ok s28.to s31.to s31.to hT.1 hx hx (by omega) (by omega) (by omega)) fun Wd vd id ed hd => D.rel ed hd V.me, fun Wd id ed _ => O.mv rfl <| D.ex, fun Wd id ed _ => O.mv rfl <| D.ex, fun Wd id ed _ => O.mv rfl <| D.ex, fun Wd id ed _ => O.ia (j := k) rfl rfl rfl hj62 <| D.ex, fun Wd id ed _ => O.ldTD rfl hb62.to.h rfl rfl (fun _ => rfl), fun Wd id ed _ => O.mv rfl <| D.ex, fun Wd id ed _ => O.mv rfl <| D.ex, fun Wd id ed _ => O.mv rfl <| D.ex, fun Wd id ed _ => fun v58 h58 => (by obtain ⟨p58, m58, c58, rfl, s58⟩ := h58.sl; exact O.call rfl (tower_Mul_ok s28.to s34.to s34.to hT.1 hy hy (by omega) (by omega) (by omega)) fun Wd vd id ed hd => D.rel ed hd V.me), fun Wd id ed _ => fun v63 h63 => fun _ _ => fun v67 h67 => (by obtain ⟨p63, m63, c63, rfl, s63⟩ := h63.sl; obtain ⟨p67, m67, c67, rfl, s67⟩ := h67.sl; exact O.call rfl (tower_Mul_ok s28.to s63 s67 hT.1 hT.2 (hy.mul hT.1 hy) (by omega) (by omega) (by omega)) fun Wd vd id ed hd => D.rel ed hd V.me), trivial⟩ ?_
            intro Wr10 ir10 er10 v58 h58 v63 h63 v67 h67 v68 h68
            obtain ⟨p58, m58, c58, rfl, s58⟩ := h58.sl
            obtain ⟨p63, m63, c63, rfl, s63⟩ := h63.sl
            obtain ⟨p67, m67, c67, rfl, s67⟩ := h67.sl
            obtain ⟨p68, m68, c68, rfl, s68⟩ := h68.sl
            refine O.call rfl (tower_Sub_ok s28.to s58.to s68.to hT.1 (hx.mul hT.1 hx) (hT.2.mul hT.1 (hy.mul hT.1 hy)) (by omega) (by omega) (by omega)) fun W69 v69 i69 e69 h69 => ?_
            obtain ⟨p69, m69, c69, rfl, s69⟩ := h69.sl
            refine O.as rfl <| JO.nil <| J.seq <| J.reg rfl <| O.mv rfl <| O.mv rfl <| O.mv rfl <| ?_
            refine O.call rfl (ih s28.to s69.to hT.1 hd (by omega) (by omega) hr) fun W73 v73 i73 e73 h73 => ?_
            subst h73
            refine O.mul (r := sgn (k + 1) t a) rfl rfl ((by rw [hsg, if_neg (fun e => e.elim hg44 h41), if_neg h50, hde]; exact wI (by rcases sgn_tri t.1 a.1 with e | e | e <;> rcases sgn_tri t.1 ((ring k t.1).nP t.2 a) with e' | e' | e' <;> rw [e, e'] <;> decide))) <| O.as rfl <| JO.nil <| J.ret1 rfl (.tmp rfl) fun W' iE iP => ?_
            rfl
end
end Go.Proofs.YtklnoajdhknfnaaGreat
