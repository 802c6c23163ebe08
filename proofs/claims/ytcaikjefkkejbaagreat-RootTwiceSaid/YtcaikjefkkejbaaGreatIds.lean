/- The types of this seat, as instances. Written by mkids.py. -/
import Derived.Test.YtcaikjefkkejbaaGreatRz
import Derived.Test.YtcaikjefkkejbaaGreatChecked
import Derived.KernelRfl
set_option linter.unusedVariables false
namespace Go.Proofs.YtcaikjefkkejbaaGreat
open Go Go.Rx
theorem inf2 : (Tryz.prog.info? 2).map (fun i => (i.size, i.bytes, i.zero)) = some (1, 8, some (.int .i64 0)) := by kernel_rfl
theorem inf4 : (Tryz.prog.info? 4).map (fun i => (i.size, i.bytes, i.zero)) = some (1, 1, some (.bool false)) := by kernel_rfl
theorem inf23 : (Tryz.prog.info? 23).map (fun i => (i.size, i.bytes, i.zero)) = some (1, 24, some (.slice none 0 0)) := by kernel_rfl
theorem inf47 : (Tryz.prog.info? 47).map (fun i => (i.size, i.bytes, i.zero)) = some (1, 24, some (.slice none 0 0)) := by kernel_rfl
theorem inf49 : (Tryz.prog.info? 49).map (fun i => (i.size, i.bytes, i.zero)) = some (2, 32, some (.agg #[.bool false, .slice none 0 0])) := by kernel_rfl
theorem inf51 : (Tryz.prog.info? 51).map (fun i => (i.size, i.bytes, i.zero)) = some (4, 64, some (.agg #[.bool false, .slice none 0 0, .bool false, .slice none 0 0])) := by kernel_rfl
theorem inf82 : (Tryz.prog.info? 82).map (fun i => (i.size, i.bytes, i.zero)) = some (1, 4, some (.int .u32 0)) := by kernel_rfl
theorem Ids.sl {P : Program} {E sz by' : Nat} {v : Value} {z : List Value} (h : (P.info? E).map (fun i => (i.size, i.bytes, i.zero)) = some (sz, by', some v)) (hz : v.cells.toList = z) :
    ∃ i v, P.info? E = some i ∧ i.size = sz ∧ i.bytes = by' ∧ i.zero = some v ∧ v.cells.toList = z := by
  cases hi : P.info? E with
  | none => rw [hi] at h; cases h
  | some i => rw [hi] at h; simp at h; exact ⟨i, v, rfl, h.1, h.2.1, h.2.2, hz⟩
theorem Ids.vr {P : Program} {E sz by' : Nat} {v : Value} {z : List Value} (h : (P.info? E).map (fun i => (i.size, i.bytes, i.zero)) = some (sz, by', some v)) (hz : v.cells.toList = z) :
    ∃ i v, P.info? E = some i ∧ i.size = sz ∧ i.zero = some v ∧ v.cells.toList = z := by
  obtain ⟨i, v, h1, h2, h3, h4, h5⟩ := Ids.sl h hz
  exact ⟨i, v, h1, h2, h4, h5⟩
theorem Ids.fl {P : Program} {E sz by' : Nat} {v : Value} (h : (P.info? E).map (fun i => (i.size, i.bytes, i.zero)) = some (sz, by', some v)) (hz : sz ≠ 0) :
    ∃ i, P.info? E = some i ∧ i.size ≠ 0 := by
  obtain ⟨i, v, h1, h2, h3, h4, h5⟩ := Ids.sl h rfl
  exact ⟨i, h1, by rw [h2]; exact hz⟩
theorem Ids.bl {P : Program} {T n0 n1 b0 b1 b by' : Nat} {g0 g1 : Field} {v0 v1 z : Value} (u : P.underlying T = some (.struct #[g0, g1])) (h0 : g0.offset = 0) (h1 : g1.offset = n0)
    (i0 : (P.info? g0.type).map (fun i => (i.size, i.bytes, i.zero)) = some (n0, b0, some v0)) (i1 : (P.info? g1.type).map (fun i => (i.size, i.bytes, i.zero)) = some (n1, b1, some v1))
    (ii : (P.info? T).map (fun i => (i.size, i.bytes, i.zero)) = some (b, by', some z)) (hz : z.cells.size = n0 + n1) : TBld P T n0 n1 := by
  obtain ⟨x0, w0, a0, a1, a2, a3, a4⟩ := Ids.sl i0 rfl
  obtain ⟨x1, w1, c0, c1, c2, c3, c4⟩ := Ids.sl i1 rfl
  obtain ⟨x, w, d0, d1, d2, d3, d4⟩ := Ids.sl ii rfl
  have : w = z := by
    rw [d0] at ii; simp at ii
    have := d3.symm.trans ii.2.2
    injection this
  subst this
  exact ⟨_, g0, g1, x0, x1, x, w, u, rfl, h0, h1, a0, c0, a1, c1, d0, d3, hz⟩
instance : Mx Tryz.prog := ⟨Checked.mixed Tryz.checked⟩
instance : TInt Tryz.prog 2 .i64 := ⟨Tryz.underlying2⟩
instance : TInt Tryz.prog 3 .i64 := ⟨Tryz.underlying3⟩
instance : TInt Tryz.prog 5 .u8 := ⟨Tryz.underlying5⟩
instance : TInt Tryz.prog 82 .u32 := ⟨Tryz.underlying82⟩
instance : TInt Tryz.prog 90 .u64 := ⟨Tryz.underlying90⟩
instance : TStr Tryz.prog 9 := ⟨Tryz.underlying9⟩
instance : TBool Tryz.prog 4 := ⟨Tryz.underlying4⟩
instance : TSl Tryz.prog 22 23 1 24 [.slice none 0 0] := ⟨Tryz.underlying22, Ids.sl inf23 rfl⟩
instance : TSl Tryz.prog 23 51 4 64 [.bool false, .slice none 0 0, .bool false, .slice none 0 0] := ⟨Tryz.underlying23, Ids.sl inf51 rfl⟩
instance : TSl Tryz.prog 47 82 1 4 [.int .u32 0] := ⟨Tryz.underlying47, Ids.sl inf82 rfl⟩
instance : TSl Tryz.prog 60 2 1 8 [.int .i64 0] := ⟨Tryz.underlying60, Ids.sl inf2 rfl⟩
instance : TVar Tryz.prog 2 1 false [.int .i64 0] := ⟨⟨_, Tryz.underlying2, rfl⟩, Ids.vr inf2 rfl⟩
instance : TVar Tryz.prog 4 1 false [.bool false] := ⟨⟨_, Tryz.underlying4, rfl⟩, Ids.vr inf4 rfl⟩
instance : TVar Tryz.prog 23 1 false [.slice none 0 0] := ⟨⟨_, Tryz.underlying23, rfl⟩, Ids.vr inf23 rfl⟩
instance : TVar Tryz.prog 47 1 false [.slice none 0 0] := ⟨⟨_, Tryz.underlying47, rfl⟩, Ids.vr inf47 rfl⟩
instance : TVar Tryz.prog 49 2 true [.bool false, .slice none 0 0] := ⟨⟨_, Tryz.underlying49, rfl⟩, Ids.vr inf49 rfl⟩
instance : TVar Tryz.prog 51 4 true [.bool false, .slice none 0 0, .bool false, .slice none 0 0] := ⟨⟨_, Tryz.underlying51, rfl⟩, Ids.vr inf51 rfl⟩
instance : TVar Tryz.prog 82 1 false [.int .u32 0] := ⟨⟨_, Tryz.underlying82, rfl⟩, Ids.vr inf82 rfl⟩
instance : TFld Tryz.prog 49 0 0 := ⟨_, _, Tryz.underlying49, rfl, rfl, Ids.fl inf4 (by decide)⟩
instance : TFld Tryz.prog 49 1 1 := ⟨_, _, Tryz.underlying49, rfl, rfl, Ids.fl inf47 (by decide)⟩
instance : TFld Tryz.prog 51 0 0 := ⟨_, _, Tryz.underlying51, rfl, rfl, Ids.fl inf49 (by decide)⟩
instance : TFld Tryz.prog 51 1 2 := ⟨_, _, Tryz.underlying51, rfl, rfl, Ids.fl inf49 (by decide)⟩
instance : TBld Tryz.prog 49 1 1 := Ids.bl Tryz.underlying49 rfl rfl inf4 inf47 inf49 rfl
instance : TBld Tryz.prog 51 2 2 := Ids.bl Tryz.underlying51 rfl rfl inf49 inf49 inf51 rfl
end Go.Proofs.YtcaikjefkkejbaaGreat
