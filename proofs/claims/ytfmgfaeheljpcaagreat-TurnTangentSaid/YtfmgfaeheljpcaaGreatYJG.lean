/- the reference's rational numbers. -/
import Derived.Test.YtfmgfaeheljpcaaGreatYJA
set_option linter.unusedVariables false
set_option linter.unusedSimpArgs false
set_option maxRecDepth 10000
namespace Go.Num
theorem Zs.fdv {p : Nat} {z g : Int} (h : Zs p z) (hg : 0 < g) : Zs p (z.fdiv g) := by
  unfold Zs at *
  rw [Int.fdiv_eq_ediv_of_nonneg _ (by omega)]
  have : (z / g).natAbs ≤ z.natAbs := Int.natAbs_ediv_le_natAbs ..
  omega
end Go.Num
namespace Go.Proofs.YtfmgfaeheljpcaaGreat.R2
open Go Go.Vm Go.Num Go.Proofs.YtfmgfaeheljpcaaGreat
theorem fd_td {a g : Int} (h : g ∣ a) (hg : 0 ≤ g) : a.fdiv g = a.tdiv g := by
  rw [Int.fdiv_eq_ediv_of_nonneg _ hg, Int.tdiv_eq_ediv_of_dvd h]
theorem fd_nat (a g : Nat) : (a : Int).fdiv g = ((a / g : Nat) : Int) := by
  rw [Int.fdiv_eq_ediv_of_nonneg _ (by omega), Int.natCast_ediv]
theorem num_mulq (x y : Rat) : (x * y).num = x.num.fdiv (Int.gcd x.num y.den : Int) * y.num.fdiv (Int.gcd y.num x.den : Int) := by
  show (Rat.mul x y).num = _
  delta Rat.mul
  simp only [Int.divExact_eq_tdiv]
  rw [fd_td (Int.gcd_dvd_left ..) (by omega), fd_td (Int.gcd_dvd_left ..) (by omega)]
  rfl
theorem den_mulq (x y : Rat) : ((x * y).den : Int) = (x.den : Int).fdiv (Int.gcd y.num x.den : Int) * (y.den : Int).fdiv (Int.gcd x.num y.den : Int) := by
  show ((Rat.mul x y).den : Int) = _
  delta Rat.mul
  simp only [Nat.divExact_eq_div]
  rw [fd_nat, fd_nat]
  rfl
theorem num_addc {x y : Rat} (h : (Int.gcd x.den y.den : Int) = 1) : (x + y).num = x.num * y.den + y.num * x.den ∧ (x + y).den = x.den * y.den := by
  have hg : x.den.gcd y.den = 1 := by have : (x.den.gcd y.den : Int) = 1 := h; omega
  show (Rat.add x y).num = _ ∧ (Rat.add x y).den = _
  delta Rat.add
  simp only [hg]
  exact ⟨rfl, rfl⟩
theorem num_addg {x y : Rat} (h : ¬ (Int.gcd x.den y.den : Int) = 1) : (x + y).num = (x.num * (y.den : Int).fdiv (Int.gcd x.den y.den : Int) + y.num * (x.den : Int).fdiv (Int.gcd x.den y.den : Int)).fdiv (Int.gcd (x.num * (y.den : Int).fdiv (Int.gcd x.den y.den : Int) + y.num * (x.den : Int).fdiv (Int.gcd x.den y.den : Int)) (Int.gcd x.den y.den : Int) : Int) ∧
    ((x + y).den : Int) = (x.den : Int).fdiv (Int.gcd x.den y.den : Int) * (y.den : Int).fdiv (Int.gcd (x.num * (y.den : Int).fdiv (Int.gcd x.den y.den : Int) + y.num * (x.den : Int).fdiv (Int.gcd x.den y.den : Int)) (Int.gcd x.den y.den : Int) : Int) := by
  have hg : ¬ x.den.gcd y.den = 1 := fun e => h (by show ((x.den.gcd y.den : Nat) : Int) = 1; rw [e]; rfl)
  have eg : Int.gcd (x.den : Int) (y.den : Int) = x.den.gcd y.den := rfl
  rw [eg, fd_nat, fd_nat]
  generalize hn : x.num * ((y.den / x.den.gcd y.den : Nat) : Int) + y.num * ((x.den / x.den.gcd y.den : Nat) : Int) = n
  have et : Int.gcd n ((x.den.gcd y.den : Nat) : Int) = n.natAbs.gcd (x.den.gcd y.den) := rfl
  have htd : n.natAbs.gcd (x.den.gcd y.den) ∣ y.den := Nat.dvd_trans (Nat.gcd_dvd_right ..) (Nat.gcd_dvd_right ..)
  rw [fd_td (Int.gcd_dvd_left ..) (by omega), et, fd_nat]
  have e : Rat.add x y = x + y := rfl
  delta Rat.add at e
  simp only [hg, hn, dif_neg, not_false_eq_true, Rat.maybeNormalize_eq] at e
  rw [← e]
  refine ⟨by simp only [Int.divExact_eq_tdiv], ?_⟩
  simp only [Nat.divExact_eq_div]
  rw [← Int.natCast_mul, Nat.mul_div_assoc _ htd]
theorem gcd_neZ {a b : Int} (h : b ≠ 0) : (Int.gcd a b : Int) ≠ 0 := by have := @gcd_ne a b h; omega
theorem iValid_ok {z : Int} (h : (dig z.natAbs).length ≤ 1099511627776) : C0 205 [.d (dz z)] (· = .b true) := by
  refine En Tryz.func205 fun _ _ => ?_
  refine Dw rfl ?_
  refine Ce rfl (R1.trim_dig_ok h) ?_
  refine Yes rfl rfl ?_
  refine By rfl (fun h1 => ?_) fun h1 => ?_
  · exact R0
  · have : (dig z.natAbs).length ≠ 0 := fun e => by have := len0.1 e; omega
    exact R1 rfl (by exact (show dc (((List.map wd (dig z.natAbs)).length : Int) > 0) = true by rw [dc_iff, lw]; omega) ▸ .rf rfl)
theorem one_ok {z : Int} : C0 136 [.d (dz z)] (· = .b (dc (z = 1))) := by
  refine En Tryz.func136 fun _ _ => ?_
  refine By rfl (fun h1 => ?_) fun h1 => ?_ <;> simp only [lw] at h1
  · obtain ⟨u, hu⟩ := xat (l := dig z.natAbs) (k := 0) (by omega)
    have hl := len1 (by omega) hu
    refine Ix 0 rfl (mp hu) ?_
    refine By rfl (fun h2 => ?_) fun h2 => ?_
    · refine R1 rfl (.bp ?_)
      rw [← one_iff, hl]
      simp only [Bool.not_eq_true', decide_eq_false_iff_not]
      exact ⟨fun h => ⟨by rw [show u = 1 by omega], h⟩, fun h => h.2⟩
    · refine R1 rfl (.bp ⟨nofun, fun e => ?_⟩)
      have := (one_iff.2 e).1
      rw [hl] at this; injection this with this; omega
  · exact R1 rfl (.bp ⟨nofun, fun e => absurd (by rw [e]; show ((dig 1).length : Int) = 1; rw [dig1]; rfl) h1⟩)
theorem quo_ok {a b : Int} (ha : (dig a.natAbs).length ≤ 549755813888) (hb : (dig b.natAbs).length ≤ 549755813888) (hb0 : b ≠ 0) : C0 138 [.d (dz a), .d (dz b)] (· = .d (dz (a.fdiv b))) := by
  refine En Tryz.func138 fun _ _ => ?_
  refine Ce rfl (R1.DivMod_ok ha hb hb0) ?_
  exact R0
theorem FromInt_ok {z : Int} (h : -9223372036854775808 ≤ z ∧ z < 9223372036854775808) : C0 67 [.d (.int .i64 z)] (· = .d (dq z)) := by
  refine En Tryz.func67 fun _ _ => ?_
  refine Ce rfl (R1.FromInt_ok h) ?_
  refine Ce rfl (R1.FromInt_ok (z := 1) (by decide)) ?_
  exact R0
theorem Make_ok {a b : Int} {p : Nat} (ha : Zs p a) (hb : Zs p b) (hp : p ≤ 8796093022208) (hb0 : b ≠ 0) : C0 97 [.d (dz a), .d (dz b)] (· = .d (dq (Rat.divInt a b))) := by
  have hla := ha.len hp
  have hlb := hb.len hp
  have hlg := (hb.gcd (x := a) hb0).len hp
  have h0 := gcd_ne (a := a) hb0
  have key : ∀ g : Int, g = (if b < 0 then -(Int.gcd a b : Int) else (Int.gcd a b : Int)) → D.st (.pr (dz (a.fdiv g)) (dz (b.fdiv g))) = dq (Rat.divInt a b) := fun g hg => by rw [hg, lowest_num hb0, lowest_den hb0]; rfl
  have hs : cmpI b 0 < 0 ↔ b < 0 := by rcases cmpI_tri b 0 with ⟨g1, g2⟩ | ⟨g1, g2⟩ | ⟨g1, g2⟩ <;> omega
  refine En Tryz.func97 fun _ _ => ?_
  refine Ce rfl (R1.GCD_ok (by omega) (by omega)) ?_
  refine Ce rfl (R1.Sign_ok (by omega)) ?_
  refine By rfl (fun h => ?_) fun h => ?_
  · refine Ce rfl (R1.Neg_ok (by omega)) ?_
    refine Dw rfl ?_
    refine Ce rfl (quo_ok (by omega) (by rw [Int.natAbs_neg]; omega) (by omega)) ?_
    refine Ce rfl (quo_ok (by omega) (by rw [Int.natAbs_neg]; omega) (by omega)) ?_
    exact R1 rfl (.eq (key _ (by rw [if_pos (hs.1 h)])))
  · refine Dw rfl ?_
    refine Ce rfl (quo_ok (by omega) (by omega) (by omega)) ?_
    refine Ce rfl (quo_ok (by omega) (by omega) (by omega)) ?_
    exact R1 rfl (.eq (key _ (by rw [if_neg (mt hs.2 h)])))
theorem Frac_ok {a b : Int} (ha : -9223372036854775808 ≤ a ∧ a < 9223372036854775808) (hb : -9223372036854775808 ≤ b ∧ b < 9223372036854775808) (hb0 : b ≠ 0) : C0 41 [.d (.int .i64 a), .d (.int .i64 b)] (· = .d (dq (Rat.divInt a b))) := by
  refine En Tryz.func41 fun _ _ => ?_
  refine No rfl hb0 ?_
  refine Ce rfl (R1.FromInt_ok ha) ?_
  refine Ce rfl (R1.FromInt_ok hb) ?_
  refine Ce rfl (Make_ok (p := 64) (by unfold Zs; omega) (by unfold Zs; omega) (by decide) hb0) ?_
  exact R0
theorem Valid_ok {x : Rat} {p : Nat} (hx : Qs p x) (hp : p ≤ 8796093022208) : C0 135 [.d (dq x)] (· = .b true) := by
  have h1 := hx.n.len hp
  have h2 := hx.d.len hp
  refine En Tryz.func135 fun _ _ => ?_
  refine Ce rfl (iValid_ok (z := x.num) (by omega)) ?_
  refine Yes rfl rfl ?_
  refine Ce rfl (iValid_ok (z := x.den) (by omega)) ?_
  refine Yes rfl rfl ?_
  refine Ce rfl (R1.Sign_ok (by omega)) ?_
  refine Yes rfl (cmpI_gt.2 (by have := x.den_pos; omega)) ?_
  refine Ce rfl (R1.GCD_ok (by omega) (by omega)) ?_
  refine Ce rfl one_ok ?_
  refine R1 rfl (by exact (show dc ((Int.gcd x.num x.den : Int) = 1) = true by rw [dc_iff]; exact congrArg Nat.cast (show Int.gcd x.num x.den = 1 from x.reduced)) ▸ .rf rfl)
theorem Sign_ok {x : Rat} {p : Nat} (hx : Qs p x) (hp : p ≤ 8796093022208) : C0 142 [.d (dq x)] (· = .d (.int .i64 (cmpI x.num 0))) := by
  have := hx.n.len hp
  refine En Tryz.func142 fun _ _ => ?_
  refine Ce rfl (R1.Sign_ok (by omega)) ?_
  exact R0
theorem Neg_ok {x : Rat} {p : Nat} (hx : Qs p x) (hp : p ≤ 8796093022208) : C0 140 [.d (dq x)] (· = .d (dq (-x))) := by
  have := hx.n.len hp
  refine En Tryz.func140 fun _ _ => ?_
  refine Dw rfl ?_
  refine Ce rfl (R1.Neg_ok (by omega)) ?_
  exact R1 rfl (.eq (show D.st (.pr (dz (-x.num)) (dz x.den)) = dq (-x) by unfold dq; rw [Rat.neg_num, Rat.neg_den]))
theorem zero_of {x : Rat} (h : ((List.map wd (dig x.num.natAbs)).length : Int) = 0) : x = 0 := by
  simp only [lw] at h
  have := len0.1 (by omega : (dig x.num.natAbs).length = 0)
  exact Rat.num_eq_zero.1 (by omega)
theorem Mul_ok {x y : Rat} {p q : Nat} (hx : Qs p x) (hy : Qs q y) (hp : p + q + 1 ≤ 8796093022208) : C0 64 [.d (dq x), .d (dq y)] (· = .d (dq (x * y))) := by
  have h1 := hx.n.len (by omega)
  have h2 := hx.d.len (by omega)
  have h3 := hy.n.len (by omega)
  have h4 := hy.d.len (by omega)
  have g1 := hy.d.gcd (x := x.num) (den_ne y)
  have g2 := hx.d.gcd (x := y.num) (den_ne x)
  have l1 := g1.len (by omega)
  have l2 := g2.len (by omega)
  have k1 := @gcd_neZ x.num y.den (den_ne y)
  have k2 := @gcd_neZ y.num x.den (den_ne x)
  have q1 := (hx.n.fdv (g := (Int.gcd x.num y.den : Int)) (by omega)).len (by omega)
  have q2 := (hy.n.fdv (g := (Int.gcd y.num x.den : Int)) (by omega)).len (by omega)
  have q3 := (hx.d.fdv (g := (Int.gcd y.num x.den : Int)) (by omega)).len (by omega)
  have q4 := (hy.d.fdv (g := (Int.gcd x.num y.den : Int)) (by omega)).len (by omega)
  refine En Tryz.func64 fun _ _ => ?_
  refine Cu (some 1) (fun (b : Bool) => [(2, .ptr 2 0), (3, .ptr 3 0), (4, .ptr 4 0), (18, .b b)]) (fun _ => [(2, .var (.d (dq x))), (3, .var (.d (dq y))), (4, .var q0)]) (fun b => b = true → x * y = 0) rfl ?_ fun b hb => ?_
  · refine By rfl (fun h => ?_) fun h => ?_
    · exact Jn true [] rfl fun _ => by rw [zero_of h, Rat.zero_mul]
    · exact Jn (dc _) [] rfl fun e => by rw [zero_of (x := y) (dc_iff.1 e), Rat.mul_zero]
  refine By rfl (fun h => ?_) fun h => ?_
  · refine Ce rfl (FromInt_ok (z := 0) (by decide)) ?_
    exact R1 rfl (.eq (show dq _ = dq _ by rw [hb h]; rfl))
  refine Cu (some 3) (fun (b : Bool) => [(2, .ptr 2 0), (3, .ptr 3 0), (4, .ptr 4 0), (27, .b b)]) (fun _ => [(2, .var (.d (dq x))), (3, .var (.d (dq y))), (4, .var q0)]) (fun b => b = true → (x.den : Int) = 1 ∧ (y.den : Int) = 1) rfl ?_ fun b hb => ?_
  · refine Ce rfl one_ok ?_
    refine By rfl (fun h => ?_) fun h => ?_
    · refine Ce rfl one_ok ?_
      exact Jn (dc _) [] rfl fun e => ⟨h, dc_iff.1 e⟩
    · exact Jn false [] rfl nofun
  refine By rfl (fun h => ?_) fun h => ?_
  · obtain ⟨d1, d2⟩ := hb h
    refine Dw rfl ?_
    refine Ce rfl (R1.Mul_ok (by omega) (by omega)) ?_
    exact R1 rfl (.eq (show D.st (.pr (dz (x.num * y.num)) (dz x.den)) = dq _ by rw [den1_mul d1 d2, d1]; rfl))
  · refine Dw rfl ?_
    refine Ce rfl (R1.GCD_ok (by omega) (by omega)) ?_
    refine Ce rfl (R1.GCD_ok (by omega) (by omega)) ?_
    refine Dw rfl ?_
    refine Ce rfl (quo_ok (by omega) (by omega) k1) ?_
    refine Ce rfl (quo_ok (by omega) (by omega) k2) ?_
    refine Ce rfl (R1.Mul_ok (by omega) (by omega)) ?_
    refine Ce rfl (quo_ok (by omega) (by omega) k2) ?_
    refine Ce rfl (quo_ok (by omega) (by omega) k1) ?_
    refine Ce rfl (R1.Mul_ok (by omega) (by omega)) ?_
    exact R1 rfl (.eq (show D.st (.pr (dz _) (dz _)) = dq (x * y) by unfold dq; rw [num_mulq, den_mulq]))
theorem Add_ok {x y : Rat} {p q : Nat} (hx : Qs p x) (hy : Qs q y) (hp : p + q + 1 ≤ 8796093022208) : C0 139 [.d (dq x), .d (dq y)] (· = .d (dq (x + y))) := by
  have h1 := hx.n.len (by omega)
  have h2 := hx.d.len (by omega)
  have h3 := hy.n.len (by omega)
  have h4 := hy.d.len (by omega)
  have h5 := (hx.n.mul hy.d).len (by omega)
  have h6 := (hy.n.mul hx.d).len (by omega)
  have hg := hy.d.gcd (x := (x.den : Int)) (den_ne y)
  have k := @gcd_neZ (x.den : Int) y.den (den_ne y)
  have hdx := hx.d.fdv (g := (Int.gcd x.den y.den : Int)) (by omega)
  have hdy := hy.d.fdv (g := (Int.gcd x.den y.den : Int)) (by omega)
  have hn : Zs (p + q + 1) (x.num * (y.den : Int).fdiv (Int.gcd x.den y.den : Int) + y.num * (x.den : Int).fdiv (Int.gcd x.den y.den : Int)) := ((hx.n.mul hdy).add (hy.n.mul hdx)).mono (by omega)
  have ht := hg.gcd (x := x.num * (y.den : Int).fdiv (Int.gcd x.den y.den : Int) + y.num * (x.den : Int).fdiv (Int.gcd x.den y.den : Int)) k
  have kt := @gcd_neZ (x.num * (y.den : Int).fdiv (Int.gcd x.den y.den : Int) + y.num * (x.den : Int).fdiv (Int.gcd x.den y.den : Int)) _ k
  have l1 := hg.len (by omega)
  have l2 := hdx.len (by omega)
  have l3 := hdy.len (by omega)
  have l4 := hn.len (by omega)
  have l5 := ht.len (by omega)
  have l6 := (hx.n.mul hdy).len (by omega)
  have l7 := (hy.n.mul hdx).len (by omega)
  have l8 := (hy.d.fdv (g := (Int.gcd (x.num * (y.den : Int).fdiv (Int.gcd x.den y.den : Int) + y.num * (x.den : Int).fdiv (Int.gcd x.den y.den : Int)) (Int.gcd x.den y.den : Int) : Int)) (by omega)).len (by omega)
  refine En Tryz.func139 fun _ _ => ?_
  refine By rfl (fun h => ?_) fun h => ?_
  · exact R1 rfl (.eq (by rw [zero_of h, Rat.zero_add]; rfl))
  refine By rfl (fun h => ?_) fun h => ?_
  · exact R1 rfl (.eq (by rw [zero_of h, Rat.add_zero]; rfl))
  refine Cu (some 5) (fun (b : Bool) => [(2, .ptr 2 0), (3, .ptr 3 0), (4, .ptr 4 0), (30, .b b)]) (fun _ => [(2, .var (.d (dq x))), (3, .var (.d (dq y))), (4, .var q0)]) (fun b => b = true → (x.den : Int) = 1 ∧ (y.den : Int) = 1) rfl ?_ fun b hb => ?_
  · refine Ce rfl one_ok ?_
    refine By rfl (fun h => ?_) fun h => ?_
    · refine Ce rfl one_ok ?_
      exact Jn (dc _) [] rfl fun e => ⟨h, dc_iff.1 e⟩
    · exact Jn false [] rfl nofun
  refine By rfl (fun h => ?_) fun h => ?_
  · obtain ⟨d1, d2⟩ := hb h
    refine Dw rfl ?_
    refine Ce rfl (R1.Add_ok (by omega) (by omega)) ?_
    exact R1 rfl (.eq (show D.st (.pr (dz (x.num + y.num)) (dz x.den)) = dq _ by rw [den1_add d1 d2, d1]; rfl))
  refine Ce rfl (R1.GCD_ok (by omega) (by omega)) ?_
  refine Ce rfl one_ok ?_
  refine By rfl (fun h => ?_) fun h => ?_
  · refine Dw rfl ?_
    refine Ce rfl (R1.Mul_ok (by omega) (by omega)) ?_
    refine Ce rfl (R1.Mul_ok (by omega) (by omega)) ?_
    refine Ce rfl (R1.Add_ok (by omega) (by omega)) ?_
    refine Dw rfl ?_
    refine Ce rfl (R1.Mul_ok (by omega) (by omega)) ?_
    exact R1 rfl (.eq (show D.st (.pr (dz _) (dz _)) = dq (x + y) by unfold dq; rw [(num_addc h).1, (num_addc h).2, Int.natCast_mul]))
  · refine Dw rfl ?_
    refine Ce rfl (quo_ok (by omega) (by omega) k) ?_
    refine Ce rfl (quo_ok (by omega) (by omega) k) ?_
    refine Dw rfl ?_
    refine Ce rfl (R1.Mul_ok (by omega) (by omega)) ?_
    refine Ce rfl (R1.Mul_ok (by omega) (by omega)) ?_
    refine Ce rfl (R1.Add_ok (by omega) (by omega)) ?_
    refine Ce rfl (R1.GCD_ok (by omega) (by omega)) ?_
    refine Dw rfl ?_
    refine Ce rfl (quo_ok (by omega) (by omega) kt) ?_
    refine Ce rfl (quo_ok (by omega) (by omega) kt) ?_
    refine Ce rfl (R1.Mul_ok (by omega) (by omega)) ?_
    exact R1 rfl (.eq (show D.st (.pr (dz _) (dz _)) = dq (x + y) by unfold dq; rw [(num_addg h).1, (num_addg h).2]))
theorem Sub_ok {x y : Rat} {p q : Nat} (hx : Qs p x) (hy : Qs q y) (hp : p + q + 1 ≤ 8796093022208) : C0 65 [.d (dq x), .d (dq y)] (· = .d (dq (x - y))) := by
  refine En Tryz.func65 fun _ _ => ?_
  refine Dw rfl ?_
  refine Ce rfl (Neg_ok hy (by omega)) ?_
  refine Ce rfl (Add_ok hx hy.neg hp) ?_
  exact R1 rfl (.eq (by rw [Rat.sub_eq_add_neg]))
theorem inv_dq {x : Rat} (h0 : x ≠ 0) : dq x⁻¹ = if x.num < 0 then D.st (.pr (dz (-x.den)) (dz (-x.num))) else D.st (.pr (dz x.den) (dz x.num)) := by
  have hn : x.num ≠ 0 := fun e => h0 (Rat.num_eq_zero.1 e)
  unfold dq
  rw [Rat.num_inv, Rat.den_inv, if_neg hn]
  split
  · rename_i h
    rw [Int.sign_eq_neg_one_of_neg h, show (-1 * (x.den : Int)) = -x.den by omega, show ((x.num.natAbs : Nat) : Int) = -x.num by omega]
  · rename_i h
    rw [Int.sign_eq_one_of_pos (by omega), show (1 * (x.den : Int)) = x.den by omega, show ((x.num.natAbs : Nat) : Int) = x.num by omega]
theorem Qs.inv {x : Rat} {p : Nat} (hx : Qs p x) (h0 : x ≠ 0) : Qs p x⁻¹ := by
  have hn : x.num ≠ 0 := fun e => h0 (Rat.num_eq_zero.1 e)
  have h1 := hx.n
  have h2 := hx.d
  unfold Zs at h1 h2
  rw [Int.natAbs_natCast] at h2
  constructor <;> unfold Zs
  · rw [Rat.num_inv, Int.natAbs_mul, Int.natAbs_sign_of_ne_zero hn, Int.natAbs_natCast]; omega
  · rw [Rat.den_inv, if_neg hn, Int.natAbs_natCast]; exact h1
theorem Inv_ok {x : Rat} {p : Nat} (hx : Qs p x) (hp : p ≤ 8796093022208) (h0 : x ≠ 0) : C0 112 [.d (dq x)] (· = .d (dq x⁻¹)) := by
  have h1 := hx.n.len hp
  have h2 := hx.d.len hp
  have e := inv_dq h0
  refine En Tryz.func112 fun _ _ => ?_
  refine By rfl (fun h => ?_) fun h => ?_
  · rw [if_pos h] at e
    refine Dw rfl ?_
    refine Ce rfl (R1.Neg_ok (by omega)) ?_
    refine Ce rfl (R1.Neg_ok (by omega)) ?_
    exact R1 rfl (.eq e.symm)
  · rw [if_neg h] at e
    exact R1 rfl (.eq e.symm)
theorem Div_ok {x y : Rat} {p q : Nat} (hx : Qs p x) (hy : Qs q y) (hp : p + q + 1 ≤ 8796093022208) (h0 : y ≠ 0) : C0 148 [.d (dq x), .d (dq y)] (· = .tup (.pr (.d (dq (x / y))) (.d (.int .i64 0)))) := by
  refine En Tryz.func148 fun _ _ => ?_
  refine No rfl (fun h => h0 (zero_of h)) ?_
  refine Dw rfl ?_
  refine Ce rfl (Inv_ok hy (by omega) h0) ?_
  refine Ce rfl (Mul_ok hx (Qs.inv hy h0) hp) ?_
  exact RTt rfl (.cons (.eq (by rw [Rat.div_def])) (.one (.rf rfl) (fun _ _ e => by cases e) (fun _ _ e => by cases e)))
theorem Cmp_ok {x y : Rat} {p q : Nat} (hx : Qs p x) (hy : Qs q y) (hp : p + q ≤ 8796093022208) : C0 40 [.d (dq x), .d (dq y)] (· = .d (.int .i64 (cmpQ x y))) := by
  have h1 := hx.n.len (by omega)
  have h2 := hx.d.len (by omega)
  have h3 := hy.n.len (by omega)
  have h4 := hy.d.len (by omega)
  have h5 := (hx.n.mul hy.d).len (by omega)
  have h6 := (hy.n.mul hx.d).len (by omega)
  refine En Tryz.func40 fun _ _ => ?_
  refine Dw rfl ?_
  refine Ce rfl (R1.Mul_ok (by omega) (by omega)) ?_
  refine Ce rfl (R1.Mul_ok (by omega) (by omega)) ?_
  refine Ce rfl (R1.Cmp_ok (by omega) (by omega)) ?_
  exact R1 rfl (.eq (by rw [cmpQ_mul]))
theorem SameInt_ok {z w : Int} (hz : (dig z.natAbs).length ≤ 549755813888) : C0 315 [.d (dz z), .d (dz w)] (· = .b (dc (z = w))) := by
  refine En Tryz.func315 fun _ _ => ?_
  refine By rfl (fun h => ?_) fun h => ?_
  · exact R1 rfl (.bp ⟨nofun, fun e => absurd (by rw [e]) h⟩)
  have h : (z < 0 ↔ w < 0) := by simpa using h
  refine By rfl (fun h1 => ?_) fun h1 => ?_ <;> simp only [lw] at h1
  · exact R1 rfl (.bp ⟨nofun, fun e => absurd (by rw [e]) h1⟩)
  refine Lo (fun k : Nat => [(2, .ptr 2 0), (3, .ptr 3 0), (5, .d (.int .i64 k))]) (fun _ => [(2, .var (.d (dz z))), (3, .var (.d (dz w)))]) (fun k => k ≤ (dig z.natAbs).length ∧ (dig z.natAbs).take k = (dig w.natAbs).take k) (fun k => (dig z.natAbs).length - k) 0 [] rfl ⟨by omega, rfl⟩ fun k ⟨hk, ht⟩ => ?_
  refine By rfl (fun h2 => ?_) fun h2 => ?_ <;> simp only [lw] at h2
  · obtain ⟨u, hu⟩ := xat (l := dig z.natAbs) (k := k) (by omega)
    obtain ⟨v, hv⟩ := xat (l := dig w.natAbs) (k := k) (by omega)
    refine Dw rfl ?_
    refine Ix k rfl (mp hu) ?_
    refine Ix k rfl (mp hv) ?_
    refine By rfl (fun h3 => ?_) fun h3 => ?_
    · exact R1 rfl (.bp ⟨nofun, fun e => by subst e; rw [hu] at hv; injection hv with hv; omega⟩)
    · refine Ar (k + 1 : Nat) rfl ?_
      refine Bk (k + 1) [] rfl ⟨by omega, ?_⟩ (by show _ - (k + 1) < _ - k; omega)
      have h1 := (List.getElem?_eq_some_iff.1 hu).1
      have h2 := (List.getElem?_eq_some_iff.1 hv).1
      rw [List.take_add_one, List.take_add_one, hu, hv, ht, show u = v by omega]
  · refine R1 rfl (.bp ⟨fun _ => ?_, fun _ => rfl⟩)
    rw [List.take_of_length_le (by omega), List.take_of_length_le (by omega)] at ht
    have := val_dig z.natAbs
    rw [ht, val_dig] at this
    omega
end Go.Proofs.YtfmgfaeheljpcaaGreat.R2
