/- rational numbers: the program's. -/
import Derived.Test.YtfmgfaeheljpcaaGreatYIF
import Derived.Test.YtfmgfaeheljpcaaGreatYUQ
set_option linter.unusedVariables false
set_option linter.unusedSimpArgs false
set_option maxRecDepth 10000
namespace Go.Proofs.YtfmgfaeheljpcaaGreat
open Go Go.Vm Go.Num
/-- a rational number -/
def dq (x : Rat) : D := .st (.pr (dz x.num) (dz x.den))
theorem len0 {n : Nat} : (dig n).length = 0 ↔ n = 0 := ⟨fun h => dig_eq_nil.1 (List.eq_nil_of_length_eq_zero h), fun h => by rw [h, dig_zero]; rfl⟩
theorem fst {g : Hp} {K : Hpl} {a : AV} {x : D} (h : Fit g K a (.d x)) : Fit g K (.st a) (.d (.st x)) := .sd h
theorem one_ok : C0 118 [] (· = .d (dz 1)) := by
  refine En Tryz.func118 fun _ _ => ?_
  refine Ce rfl (FromInt_ok (z := 1) (by decide)) ?_
  exact R0
theorem one_iff {z : Int} : (dig z.natAbs = [1] ∧ ¬ z < 0) ↔ z = 1 := by
  constructor
  · rintro ⟨h1, h2⟩
    have := val_dig z.natAbs
    rw [h1] at this
    simp [val] at this
    omega
  · rintro rfl
    exact ⟨dig1, by decide⟩
theorem len1 {l : List Nat} {u : Nat} (h : l.length = 1) (hu : l[0]? = some u) : l = [u] := by
  match l, h, hu with
  | [a], _, hu => simp at hu; rw [hu]
theorem isOne_ok {z : Int} : C0 119 [.d (dz z)] (· = .b (dc (z = 1))) := by
  refine En Tryz.func119 fun _ _ => ?_
  refine By rfl (fun h => ?_) fun h => ?_
  · refine By rfl (fun h1 => ?_) fun h1 => ?_ <;> simp only [lw] at h1
    · obtain ⟨u, hu⟩ := xat (l := dig z.natAbs) (k := 0) (by omega)
      have hl := len1 (by omega) hu
      refine Ix 0 rfl (mp hu) ?_
      refine R1 rfl (.bp ?_)
      refine dc_iff.trans (Iff.trans ?_ one_iff)
      rw [hl]
      constructor
      · intro e; exact ⟨by rw [show u = 1 by omega], h⟩
      · rintro ⟨e, _⟩; injection e with e; omega
    · exact R1 rfl (.bp ⟨nofun, fun e => absurd (by rw [e]; show ((dig 1).length : Int) = 1; rw [dig1]; rfl) h1⟩)
  · exact R1 rfl (.bp ⟨nofun, fun e => absurd (by rw [e]; decide) h⟩)
theorem isZero_ok {z : Int} : C0 193 [.d (dz z)] (· = .b (dc (z = 0))) := by
  refine En Tryz.func193 fun _ _ => ?_
  refine R1 rfl (.bp ?_)
  simp only [dc_iff, lw]
  rw [show ((dig z.natAbs).length : Int) = 0 ↔ (dig z.natAbs).length = 0 by omega, len0]; omega
theorem quo_ok {a b : Int} (ha : (dig a.natAbs).length ≤ 549755813888) (hb : (dig b.natAbs).length ≤ 549755813888) (hb0 : b ≠ 0) : C0 191 [.d (dz a), .d (dz b)] (· = .d (dz (a.fdiv b))) := by
  refine En Tryz.func191 fun _ _ => ?_
  refine Ce rfl isOne_ok ?_
  refine By rfl (fun h => ?_) fun h => ?_
  · exact R1 rfl (.eq (show dz a = dz (a.fdiv b) by rw [h, fdiv_one]))
  · refine Ce rfl (DivMod_ok ha hb hb0) ?_
    exact R0
theorem lowest_ok {a b : Int} {p : Nat} (ha : Zs p a) (hb : Zs p b) (hp : p ≤ 8796093022208) (hb0 : b ≠ 0) : C0 121 [.d (dz a), .d (dz b)] (· = .d (dq (Rat.divInt a b))) := by
  have hg : Zs p (Int.gcd a b : Int) := hb.gcd hb0
  have hla := ha.len hp
  have hlb := hb.len hp
  have hlg := hg.len hp
  refine En Tryz.func121 fun _ _ => ?_
  refine Ce rfl (GCD_ok (by omega) (by omega)) ?_
  have h0 := gcd_ne (a := a) hb0
  have key : ∀ g : Int, g = (if b < 0 then -(Int.gcd a b : Int) else (Int.gcd a b : Int)) → D.st (.pr (dz (a.fdiv g)) (dz (b.fdiv g))) = dq (Rat.divInt a b) := fun g hg => by rw [hg, lowest_num hb0, lowest_den hb0]; rfl
  refine By rfl (fun h => ?_) fun h => ?_
  · refine Ce rfl (Neg_ok (by omega)) ?_
    refine Dw rfl ?_
    refine Ce rfl (quo_ok (by omega) (by rw [Int.natAbs_neg]; omega) (by omega)) ?_
    refine Ce rfl (quo_ok (by omega) (by rw [Int.natAbs_neg]; omega) (by omega)) ?_
    exact R1 rfl (.eq (key _ (by rw [if_pos h])))
  · refine Dw rfl ?_
    refine Ce rfl (quo_ok (by omega) (by omega) (by omega)) ?_
    refine Ce rfl (quo_ok (by omega) (by omega) (by omega)) ?_
    exact R1 rfl (.eq (key _ (by rw [if_neg h])))
theorem Make_ok {a b : Int} {p : Nat} (ha : Zs p a) (hb : Zs p b) (hp : p ≤ 8796093022208) (hb0 : b ≠ 0) : C0 122 [.d (dz a), .d (dz b)] (· = .tup (.pr (.d (dq (Rat.divInt a b))) (.d (.int .i64 0)))) := by
  have hla := ha.len hp
  have hlb := hb.len hp
  refine En Tryz.func122 fun _ _ => ?_
  refine Dw rfl ?_
  refine Ce rfl (Norm_ok (by omega)) ?_
  refine Ce rfl (Norm_ok (by omega)) ?_
  refine Ce rfl isZero_ok ?_
  refine No rfl hb0 ?_
  refine Ce rfl (lowest_ok ha hb hp hb0) ?_
  exact R0t
theorem qFromInt_ok {z : Int} (h : -9223372036854775808 ≤ z ∧ z < 9223372036854775808) : C0 54 [.d (.int .i64 z)] (· = .d (dq z)) := by
  refine En Tryz.func54 fun _ _ => ?_
  refine Ce rfl (FromInt_ok h) ?_
  refine Ce rfl one_ok ?_
  exact R0
theorem qFrac_ok {a b : Int} (ha : -9223372036854775808 ≤ a ∧ a < 9223372036854775808) (hb : 0 < b ∧ b < 9223372036854775808) : C0 56 [.d (.int .i64 a), .d (.int .i64 b)] (· = .d (dq (Rat.divInt a b))) := by
  refine En Tryz.func56 fun _ _ => ?_
  refine Ce rfl (FromInt_ok ha) ?_
  refine Ce rfl (FromInt_ok (by omega)) ?_
  refine Ce rfl (Make_ok (p := 64) (by unfold Zs; omega) (by unfold Zs; omega) (by decide) (by omega)) ?_
  refine No rfl (by decide) ?_
  exact R0
theorem qSign_ok {x : Rat} {p : Nat} (hx : Qs p x) (hp : p ≤ 8796093022208) : C0 132 [.d (dq x)] (· = .d (.int .i64 (cmpI x.num 0))) := by
  have := hx.n.len hp
  refine En Tryz.func132 fun _ _ => ?_
  refine Ce rfl (Sign_ok (by omega)) ?_
  exact R0
theorem qNeg_ok {x : Rat} {p : Nat} (hx : Qs p x) (hp : p ≤ 8796093022208) : C0 201 [.d (dq x)] (· = .d (dq (-x))) := by
  have := hx.n.len hp
  refine En Tryz.func201 fun _ _ => ?_
  refine Dw rfl ?_
  refine Ce rfl (Neg_ok (by omega)) ?_
  exact R1 rfl (.eq (show D.st (.pr (dz (-x.num)) (dz x.den)) = dq (-x) by unfold dq; rw [Rat.neg_num, Rat.neg_den]))
/-- a rational number that is not set yet -/
abbrev q0 : AV := .st (.pr (.st (.pr (.b false) .nil)) (.st (.pr (.b false) .nil)))
theorem qMul_ok {x y : Rat} {p q : Nat} (hx : Qs p x) (hy : Qs q y) (hp : p + q ≤ 8796093022208) : C0 55 [.d (dq x), .d (dq y)] (· = .d (dq (x * y))) := by
  have h1 := hx.n.len (by omega)
  have h2 := hx.d.len (by omega)
  have h3 := hy.n.len (by omega)
  have h4 := hy.d.len (by omega)
  refine En Tryz.func55 fun _ _ => ?_
  refine Cu (some 1) (fun (b : Bool) => [(2, .ptr 2 0), (3, .ptr 3 0), (4, .ptr 4 0), (12, .b b)]) (fun _ => [(2, .var (.d (dq x))), (3, .var (.d (dq y))), (4, .var q0)]) (fun b => b = true → (x.den : Int) = 1 ∧ (y.den : Int) = 1) rfl ?_ fun b hb => ?_
  · refine Ce rfl isOne_ok ?_
    refine By rfl (fun h => ?_) fun h => ?_
    · refine Ce rfl isOne_ok ?_
      exact Jn (dc _) [] rfl fun e => ⟨h, dc_iff.1 e⟩
    · exact Jn false [] rfl nofun
  refine By rfl (fun h => ?_) fun h => ?_
  · obtain ⟨d1, d2⟩ := hb h
    refine Ce rfl (Mul_ok (by omega) (by omega)) ?_
    refine Ce rfl one_ok ?_
    exact R1 rfl (.eq (show _ = dq _ by rw [den1_mul d1 d2]; rfl))
  · refine Dw rfl ?_
    refine Ce rfl (Mul_ok (by omega) (by omega)) ?_
    refine Ce rfl (Mul_ok (by omega) (by omega)) ?_
    refine Ce rfl (lowest_ok (hx.n.mul hy.n) (hx.d.mul hy.d) hp (Int.mul_ne_zero (den_ne x) (den_ne y))) ?_
    exact R1 rfl (.eq (by rw [mul_divInt]))
theorem qAdd_ok {x y : Rat} {p q : Nat} (hx : Qs p x) (hy : Qs q y) (hp : p + q + 1 ≤ 8796093022208) : C0 128 [.d (dq x), .d (dq y)] (· = .d (dq (x + y))) := by
  have h1 := hx.n.len (by omega)
  have h2 := hx.d.len (by omega)
  have h3 := hy.n.len (by omega)
  have h4 := hy.d.len (by omega)
  have h5 := (hx.n.mul hy.d).len (by omega)
  have h6 := (hy.n.mul hx.d).len (by omega)
  refine En Tryz.func128 fun _ _ => ?_
  refine Cu (some 1) (fun (b : Bool) => [(2, .ptr 2 0), (3, .ptr 3 0), (4, .ptr 4 0), (13, .b b)]) (fun _ => [(2, .var (.d (dq x))), (3, .var (.d (dq y))), (4, .var q0)]) (fun b => b = true → (x.den : Int) = 1 ∧ (y.den : Int) = 1) rfl ?_ fun b hb => ?_
  · refine Ce rfl isOne_ok ?_
    refine By rfl (fun h => ?_) fun h => ?_
    · refine Ce rfl isOne_ok ?_
      exact Jn (dc _) [] rfl fun e => ⟨h, dc_iff.1 e⟩
    · exact Jn false [] rfl nofun
  refine By rfl (fun h => ?_) fun h => ?_
  · obtain ⟨d1, d2⟩ := hb h
    refine Ce rfl (Add_ok (by omega) (by omega)) ?_
    refine Ce rfl one_ok ?_
    exact R1 rfl (.eq (show _ = dq _ by rw [den1_add d1 d2]; rfl))
  · refine Dw rfl ?_
    refine Ce rfl (Mul_ok (by omega) (by omega)) ?_
    refine Ce rfl (Mul_ok (by omega) (by omega)) ?_
    refine Ce rfl (Add_ok (by omega) (by omega)) ?_
    refine Dw rfl ?_
    refine Ce rfl (Mul_ok (by omega) (by omega)) ?_
    refine Ce rfl (lowest_ok (p := p + q + 1) (Qs.addNum hx hy) ((hx.d.mul hy.d).mono (by omega)) hp (Int.mul_ne_zero (den_ne x) (den_ne y))) ?_
    exact R1 rfl (.eq (by rw [add_divInt]))
theorem qSub_ok {x y : Rat} {p q : Nat} (hx : Qs p x) (hy : Qs q y) (hp : p + q + 1 ≤ 8796093022208) : C0 134 [.d (dq x), .d (dq y)] (· = .d (dq (x - y))) := by
  refine En Tryz.func134 fun _ _ => ?_
  refine Dw rfl ?_
  refine Ce rfl (qNeg_ok hy (by omega)) ?_
  refine Ce rfl (qAdd_ok hx hy.neg hp) ?_
  exact R1 rfl (.eq (by rw [Rat.sub_eq_add_neg]))
theorem qDiv_ok {x y : Rat} {p q : Nat} (hx : Qs p x) (hy : Qs q y) (hp : p + q ≤ 8796093022208) (h0 : y ≠ 0) : C0 198 [.d (dq x), .d (dq y)] (· = .tup (.pr (.d (dq (x / y))) (.d (.int .i64 0)))) := by
  have h1 := hx.n.len (by omega)
  have h2 := hx.d.len (by omega)
  have h3 := hy.n.len (by omega)
  have h4 := hy.d.len (by omega)
  have hn : y.num ≠ 0 := fun e => h0 (Rat.num_eq_zero.1 e)
  refine En Tryz.func198 fun _ _ => ?_
  refine Ce rfl isZero_ok ?_
  refine No rfl hn ?_
  refine Dw rfl ?_
  refine Ce rfl (Mul_ok (by omega) (by omega)) ?_
  refine Ce rfl (Mul_ok (by omega) (by omega)) ?_
  refine Ce rfl (lowest_ok (hx.n.mul hy.d) (hx.d.mul hy.n) hp (Int.mul_ne_zero (den_ne x) hn)) ?_
  exact RTt rfl (.cons (.eq (by rw [div_divInt _ _ h0])) (.one (.rf rfl) (fun _ _ e => by cases e) (fun _ _ e => by cases e)))
/-- a number that is not set yet -/
def rz : D := .st (.pr (.st (.pr (.bool false) (.sl 1 []))) (.st (.pr (.bool false) (.sl 1 []))))
theorem fit_rz {g : Hp} {K : Hpl} : Fit g K q0 (.d rz) := .sd (.pd (.sd (.pd (.bd rfl) (.nil rfl))) (.sd (.pd (.bd rfl) (.nil rfl))))
theorem qDiv0_ok {x y : Rat} (h0 : y = 0) : C0 198 [.d (dq x), .d (dq y)] (· = .tup (.pr (.d rz) (.d (.int .i64 6)))) := by
  refine En Tryz.func198 fun _ _ => ?_
  refine Ce rfl isZero_ok ?_
  refine Yes rfl (by rw [h0]; rfl) ?_
  exact RTt rfl (.cons fit_rz (.one (.rf rfl) (fun _ _ e => by cases e) (fun _ _ e => by cases e)))
theorem qCmp_ok {x y : Rat} {p q : Nat} (hx : Qs p x) (hy : Qs q y) (hp : p + q ≤ 8796093022208) : C0 61 [.d (dq x), .d (dq y)] (· = .d (.int .i64 (cmpQ x y))) := by
  have h1 := hx.n.len (by omega)
  have h2 := hx.d.len (by omega)
  have h3 := hy.n.len (by omega)
  have h4 := hy.d.len (by omega)
  have h5 := (hx.n.mul hy.d).len (by omega)
  have h6 := (hy.n.mul hx.d).len (by omega)
  refine En Tryz.func61 fun _ _ => ?_
  refine Dw rfl ?_
  refine Ce rfl (qSign_ok hx (by omega)) ?_
  refine Ce rfl (qSign_ok hy (by omega)) ?_
  refine By rfl (fun h => ?_) fun h => ?_
  · refine By rfl (fun h1 => ?_) fun h1 => ?_
    · exact R1 rfl (.eq (by rw [cmpQ_sign h1]))
    · exact R1 rfl (.eq (by rw [cmpQ_swap, cmpQ_sign (by omega)]; rfl))
  · refine Dw rfl ?_
    refine Ce rfl (Mul_ok (by omega) (by omega)) ?_
    refine Ce rfl (Mul_ok (by omega) (by omega)) ?_
    refine Ce rfl (Cmp_ok (by omega) (by omega)) ?_
    exact R1 rfl (.eq (by rw [cmpQ_mul]))
theorem iValid_ok {z : Int} (h : (dig z.natAbs).length ≤ 549755813888) : C0 307 [.d (dz z)] (· = .b true) := by
  refine En Tryz.func307 fun _ _ => ?_
  refine By rfl (fun h1 => ?_) fun h1 => ?_ <;> simp only [lw] at h1
  · have h0 := len0.1 (by omega : (dig z.natAbs).length = 0)
    refine Yes rfl (show ¬ z < 0 by omega) ?_
    exact R0
  · refine Yes rfl (by simp only [lw]; omega) ?_
    rcases trim_dig z.natAbs with h2 | ⟨t, h2, h3⟩
    · rw [h2] at h1; exact absurd rfl h1
    refine Ar ((dig z.natAbs).length - 1 : Nat) rfl ?_ (wr (by simp only [lw]; omega) (by simp only [inK]; omega))
    refine Ix ((dig z.natAbs).length - 1) rfl (mp h2) ?_
    refine R1 rfl (by exact (show dc ((t : Int) ≠ 0) = true by rw [dc_iff]; omega) ▸ .rf rfl)
theorem cmpI_gt {z : Int} : cmpI z 0 > 0 ↔ z > 0 := cmpI_pos
theorem qValid_ok {x : Rat} {p : Nat} (hx : Qs p x) (hp : p ≤ 8796093022208) : C0 281 [.d (dq x)] (· = .b true) := by
  have h1 := hx.n.len hp
  have h2 := hx.d.len hp
  refine En Tryz.func281 fun _ _ => ?_
  refine Ce rfl (iValid_ok (z := x.num) (by omega)) ?_
  refine Yes rfl rfl ?_
  refine Ce rfl (iValid_ok (z := x.den) (by omega)) ?_
  refine Yes rfl rfl ?_
  refine Ce rfl (Sign_ok (by omega)) ?_
  refine Yes rfl (cmpI_gt.2 (by have := x.den_pos; omega)) ?_
  refine Ce rfl (GCD_ok (by omega) (by omega)) ?_
  refine Ce rfl isOne_ok ?_
  refine R1 rfl (by exact (show dc ((Int.gcd x.num x.den : Int) = 1) = true by rw [dc_iff]; exact congrArg Nat.cast (show Int.gcd x.num x.den = 1 from x.reduced)) ▸ .rf rfl)
end Go.Proofs.YtfmgfaeheljpcaaGreat
