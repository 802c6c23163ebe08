/- square roots in towers: the reference. -/
import Derived.Test.YtfmgfaeheljpcaaGreatYLA
set_option linter.unusedVariables false
set_option linter.unusedSimpArgs false
set_option maxRecDepth 10000
namespace Go.Num
theorem Zs.len2 {p : Nat} {z : Int} (h : Zs p z) (hp : p ≤ 4398046511104) : (dig z.natAbs).length ≤ 137438953473 := by
  have h1 : z.natAbs < 4294967296 ^ (p / 32 + 1) := by
    rw [show 4294967296 = 2 ^ 32 from rfl, ← Nat.pow_mul]
    exact Nat.lt_of_lt_of_le h (Nat.pow_le_pow_right (by decide) (by omega))
  have := dig_len_le h1
  omega
end Go.Num
namespace Go.Proofs.YtfmgfaeheljpcaaGreat.R2
open Go Go.Vm Go.Num Go.Proofs.YtfmgfaeheljpcaaGreat
/-- a rational number as it lies -/
def dR (b : Bool) (l : List Nat) (b' : Bool) (l' : List Nat) : D := .st (.pr (dS b l) (dS b' l'))
theorem Sqrt_ok {x : Rat} {p : Nat} (hx : Qs p x) (hp : p ≤ 4398046511104) : C0 303 [.d (dq x)] fun v => ∃ b l b' l', v = .tup (.pr (.d (dR b l b' l')) (.b (dc (∃ y : Rat, y * y = x)))) ∧ ((∃ y : Rat, y * y = x) → ∃ y : Rat, y * y = x ∧ dR b l b' l' = dq y) := by
  have h1 := hx.n.len2 hp
  have h2 := hx.d.len2 hp
  have hi := sqQ_iff (q := x)
  have no : ¬ (∃ y : Rat, y * y = x) → ∀ {g K}, FitT g K (.b false) (.b (dc (∃ y : Rat, y * y = x))) := fun h _ _ => .one (by exact .bp (c := false) ⟨nofun, fun e => absurd e h⟩) (fun _ _ e => by cases e) (fun _ _ e => by cases e)
  refine En Tryz.func303 fun _ _ => ?_
  refine By rfl (fun h => ?_) fun h => ?_
  · exact Rt rfl (.tup (.cons (.sd (.pd (.sd (.pd (.bd rfl) (.nil rfl))) (.sd (.pd (.bd rfl) (.nil rfl)))))  (no fun e => by have := (hi.1 e).1; omega))) ⟨false, [], false, [], rfl, fun e => by have := (hi.1 e).1; omega⟩
  have hn : ((x.num.natAbs : Nat) : Int) = x.num := by omega
  have hs := R1.Sqrt_ok (a := x.num.natAbs) (by omega)
  rw [hn] at hs
  have hd := R1.Sqrt_ok (a := x.den) (by rw [Int.natAbs_natCast] at h2; omega)
  have hr : ∀ n : Nat, n < 2 ^ p → Zs p (rt n : Int) ∧ Zs p ((rt n : Int) * (rt n : Int)) := fun n hn => by
    have := (rt_spec n).1
    have h3 : rt n ≤ rt n * rt n := Nat.le_mul_self _
    unfold Zs
    rw [Int.natAbs_mul, Int.natAbs_natCast]
    omega
  obtain ⟨r1, r2⟩ := hr _ (show x.num.natAbs < 2 ^ p from hx.n)
  obtain ⟨r3, r4⟩ := hr x.den (by have := hx.d; unfold Zs at this; rwa [Int.natAbs_natCast] at this)
  have r1 := r1.len2 hp
  have r2 := r2.len2 hp
  have r3 := r3.len2 hp
  have r4 := r4.len2 hp
  refine Ce rfl hs ?_
  refine Ce rfl hd ?_
  refine Dw rfl ?_
  refine Ce rfl (R1.Mul_ok (by omega) (by omega)) ?_
  refine Ce rfl (SameInt_ok (by omega)) ?_
  refine By rfl (fun h => ?_) fun h => ?_
  · have hno : ¬ ∃ y : Rat, y * y = x := fun e => by
      have h3 := (hi.1 e).2.1
      unfold sqN at h3
      have h4 : ¬ (rt x.num.natAbs : Int) * (rt x.num.natAbs : Int) = x.num := by simpa [dc_not, dc_iff] using h
      exact h4 (by rw [← Int.natCast_mul, h3, hn])
    exact Rt rfl (.tup (.cons (.sd (.pd (.sd (.pd (.bd rfl) (.nil rfl))) (.sd (.pd (.bd rfl) (.nil rfl))))) (no hno))) ⟨false, [], false, [], rfl, fun e => absurd e hno⟩
  have k1 : (rt x.num.natAbs : Int) * (rt x.num.natAbs : Int) = x.num := by simpa [dc_not, dc_iff] using h
  refine Ce rfl (R1.Mul_ok (by omega) (by omega)) ?_
  refine Ce rfl (SameInt_ok (by omega)) ?_
  refine By rfl (fun h => ?_) fun h => ?_
  · have hno : ¬ ∃ y : Rat, y * y = x := fun e => by
      have h3 := (hi.1 e).2.2
      unfold sqN at h3
      have h4 : ¬ (rt x.den : Int) * (rt x.den : Int) = x.den := by simpa [dc_not, dc_iff] using h
      exact h4 (by rw [← Int.natCast_mul, h3])
    exact Rt rfl (.tup (.cons (.sd (.pd (.sd (.pd (.bd rfl) (.nil rfl))) (.sd (.pd (.bd rfl) (.nil rfl))))) (no hno))) ⟨false, [], false, [], rfl, fun e => absurd e hno⟩
  have k2 : (rt x.den : Int) * (rt x.den : Int) = x.den := by simpa [dc_not, dc_iff] using h
  obtain ⟨y, y1, y2, y3⟩ := sqQ_some (q := x) (by omega) (by unfold sqN; omega) (by unfold sqN; omega)
  refine Rt rfl (.tup (.cons (.rf rfl) (.one (by exact .bp (c := true) ⟨fun _ => ⟨y, y3⟩, fun _ => rfl⟩) (fun _ _ e => by cases e) (fun _ _ e => by cases e)))) ⟨_, _, _, _, rfl, fun _ => ⟨y, y3, ?_⟩⟩
  show D.st (.pr (dz _) (dz _)) = D.st (.pr (dz _) (dz _))
  rw [y1, y2]
end Go.Proofs.YtfmgfaeheljpcaaGreat.R2
