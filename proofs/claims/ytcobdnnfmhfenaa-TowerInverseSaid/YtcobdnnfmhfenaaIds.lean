/- The types of this seat, as instances. Written by mkids.py. -/
import Derived.Test.YtcobdnnfmhfenaaRp
import Derived.Test.YtcobdnnfmhfenaaChecked
import Derived.KernelRfl
set_option linter.unusedVariables false
namespace Go.Proofs.Ytcobdnnfmhfenaa
open Go Go.Rx
theorem inf2 : (Try.prog.info? 2).map (fun i => (i.size, i.bytes, i.zero)) = some (1, 8, some (.int .i64 0)) := by kernel_rfl
theorem inf4 : (Try.prog.info? 4).map (fun i => (i.size, i.bytes, i.zero)) = some (1, 1, some (.bool false)) := by kernel_rfl
theorem inf9 : (Try.prog.info? 9).map (fun i => (i.size, i.bytes, i.zero)) = some (1, 16, some (.string ⟨#[]⟩)) := by kernel_rfl
theorem inf22 : (Try.prog.info? 22).map (fun i => (i.size, i.bytes, i.zero)) = some (1, 24, some (.slice none 0 0)) := by kernel_rfl
theorem inf23 : (Try.prog.info? 23).map (fun i => (i.size, i.bytes, i.zero)) = some (1, 24, some (.slice none 0 0)) := by kernel_rfl
theorem inf25 : (Try.prog.info? 25).map (fun i => (i.size, i.bytes, i.zero)) = some (4, 96, some (.agg #[.slice none 0 0, .slice none 0 0, .slice none 0 0, .slice none 0 0])) := by kernel_rfl
theorem inf32 : (Try.prog.info? 32).map (fun i => (i.size, i.bytes, i.zero)) = some (1, 24, some (.slice none 0 0)) := by kernel_rfl
theorem inf34 : (Try.prog.info? 34).map (fun i => (i.size, i.bytes, i.zero)) = some (2, 32, some (.agg #[.bool false, .slice none 0 0])) := by kernel_rfl
theorem inf36 : (Try.prog.info? 36).map (fun i => (i.size, i.bytes, i.zero)) = some (4, 64, some (.agg #[.bool false, .slice none 0 0, .bool false, .slice none 0 0])) := by kernel_rfl
theorem inf76 : (Try.prog.info? 76).map (fun i => (i.size, i.bytes, i.zero)) = some (1, 4, some (.int .u32 0)) := by kernel_rfl
theorem inf81 : (Try.prog.info? 81).map (fun i => (i.size, i.bytes, i.zero)) = some (1, 8, some (.int .u64 0)) := by kernel_rfl
theorem Ids.sl {P : Program} {E sz by' : Nat} {v : Value} {z : List Value} (h : (P.info? E).map (fun i => (i.size, i.bytes, i.zero)) = some (sz, by', some v)) (hz : v.cells.toList = z) :
    ∃ i v, P.info? E = some i ∧ i.size = sz ∧ i.bytes = by' ∧ i.zero = some v ∧ v.cells.toList = z := by
  cases hi : P.info? E with
  | none => rw [hi] at h; cases h
  | some i => rw [hi] at h; simp at h; exact ⟨i, v, rfl, h.1, h.2.1, h.2.2, hz⟩
theorem Ids.vr {P : Program} {E sz by' : Nat} {v : Value} {z : List Value} (h : (P.info? E).map (fun i => (i.size, i.bytes, i.zero)) = some (sz, by', some v)) (hz : v.cells.toList = z) :
    ∃ i v, P.info? E = some i ∧ i.size = sz ∧ i.zero = some v ∧ v.cells.toList = z := by
  obtain ⟨i, v, h1, h2, h3, h4, h5⟩ := Ids.sl h hz
  exact ⟨i, v, h1, h2, h4, h5⟩
theorem Ids.fl {P : Program} {E sz by' : Nat} {v : Value} (h : (P.info? E).map (fun i => (i.size, i.bytes, i.zero)) = some (sz, by', some v)) (hz : sz ≠ 0) :
    ∃ i, P.info? E = some i ∧ i.size ≠ 0 := by
  obtain ⟨i, v, h1, h2, h3, h4, h5⟩ := Ids.sl h rfl
  exact ⟨i, h1, by rw [h2]; exact hz⟩
theorem Ids.bl {P : Program} {T n0 n1 b0 b1 b by' : Nat} {g0 g1 : Field} {v0 v1 z : Value} (u : P.underlying T = some (.struct #[g0, g1])) (h0 : g0.offset = 0) (h1 : g1.offset = n0)
    (i0 : (P.info? g0.type).map (fun i => (i.size, i.bytes, i.zero)) = some (n0, b0, some v0)) (i1 : (P.info? g1.type).map (fun i => (i.size, i.bytes, i.zero)) = some (n1, b1, some v1))
    (ii : (P.info? T).map (fun i => (i.size, i.bytes, i.zero)) = some (b, by', some z)) (hz : z.cells.size = n0 + n1) : TBld P T n0 n1 := by
  obtain ⟨x0, w0, a0, a1, a2, a3, a4⟩ := Ids.sl i0 rfl
  obtain ⟨x1, w1, c0, c1, c2, c3, c4⟩ := Ids.sl i1 rfl
  obtain ⟨x, w, d0, d1, d2, d3, d4⟩ := Ids.sl ii rfl
  have : w = z := by
    rw [d0] at ii; simp at ii
    have := d3.symm.trans ii.2.2
    injection this
  subst this
  exact ⟨_, g0, g1, x0, x1, x, w, u, rfl, h0, h1, a0, c0, a1, c1, d0, d3, hz⟩
instance : Mx Try.prog := ⟨Checked.mixed Try.checked⟩
instance : TInt Try.prog 2 .i64 := ⟨Try.underlying2⟩
instance : TInt Try.prog 3 .i64 := ⟨Try.underlying3⟩
instance : TInt Try.prog 5 .u8 := ⟨Try.underlying5⟩
instance : TInt Try.prog 76 .u32 := ⟨Try.underlying76⟩
instance : TInt Try.prog 81 .u64 := ⟨Try.underlying81⟩
instance : TStr Try.prog 9 := ⟨Try.underlying9⟩
instance : TStr Try.prog 10 := ⟨Try.underlying10⟩
instance : TStr Try.prog 11 := ⟨Try.underlying11⟩
instance : TBool Try.prog 4 := ⟨Try.underlying4⟩
instance : TSl Try.prog 22 23 1 24 [.slice none 0 0] := ⟨Try.underlying22, Ids.sl inf23 rfl⟩
instance : TSl Try.prog 23 36 4 64 [.bool false, .slice none 0 0, .bool false, .slice none 0 0] := ⟨Try.underlying23, Ids.sl inf36 rfl⟩
instance : TSl Try.prog 32 76 1 4 [.int .u32 0] := ⟨Try.underlying32, Ids.sl inf76 rfl⟩
instance : TSl Try.prog 61 2 1 8 [.int .i64 0] := ⟨Try.underlying61, Ids.sl inf2 rfl⟩
instance : TVar Try.prog 2 1 false [.int .i64 0] := ⟨⟨_, Try.underlying2, rfl⟩, Ids.vr inf2 rfl⟩
instance : TVar Try.prog 4 1 false [.bool false] := ⟨⟨_, Try.underlying4, rfl⟩, Ids.vr inf4 rfl⟩
instance : TVar Try.prog 9 1 false [.string ⟨#[]⟩] := ⟨⟨_, Try.underlying9, rfl⟩, Ids.vr inf9 rfl⟩
instance : TVar Try.prog 22 1 false [.slice none 0 0] := ⟨⟨_, Try.underlying22, rfl⟩, Ids.vr inf22 rfl⟩
instance : TVar Try.prog 23 1 false [.slice none 0 0] := ⟨⟨_, Try.underlying23, rfl⟩, Ids.vr inf23 rfl⟩
instance : TVar Try.prog 25 4 true [.slice none 0 0, .slice none 0 0, .slice none 0 0, .slice none 0 0] := ⟨⟨_, Try.underlying25, rfl⟩, Ids.vr inf25 rfl⟩
instance : TVar Try.prog 32 1 false [.slice none 0 0] := ⟨⟨_, Try.underlying32, rfl⟩, Ids.vr inf32 rfl⟩
instance : TVar Try.prog 34 2 true [.bool false, .slice none 0 0] := ⟨⟨_, Try.underlying34, rfl⟩, Ids.vr inf34 rfl⟩
instance : TVar Try.prog 36 4 true [.bool false, .slice none 0 0, .bool false, .slice none 0 0] := ⟨⟨_, Try.underlying36, rfl⟩, Ids.vr inf36 rfl⟩
instance : TVar Try.prog 76 1 false [.int .u32 0] := ⟨⟨_, Try.underlying76, rfl⟩, Ids.vr inf76 rfl⟩
instance : TVar Try.prog 81 1 false [.int .u64 0] := ⟨⟨_, Try.underlying81, rfl⟩, Ids.vr inf81 rfl⟩
instance : TFld Try.prog 25 0 0 := ⟨_, _, Try.underlying25, rfl, rfl, Ids.fl inf22 (by decide)⟩
instance : TFld Try.prog 25 1 1 := ⟨_, _, Try.underlying25, rfl, rfl, Ids.fl inf23 (by decide)⟩
instance : TFld Try.prog 25 2 2 := ⟨_, _, Try.underlying25, rfl, rfl, Ids.fl inf23 (by decide)⟩
instance : TFld Try.prog 25 3 3 := ⟨_, _, Try.underlying25, rfl, rfl, Ids.fl inf23 (by decide)⟩
instance : TFld Try.prog 34 0 0 := ⟨_, _, Try.underlying34, rfl, rfl, Ids.fl inf4 (by decide)⟩
instance : TFld Try.prog 34 1 1 := ⟨_, _, Try.underlying34, rfl, rfl, Ids.fl inf32 (by decide)⟩
instance : TFld Try.prog 36 0 0 := ⟨_, _, Try.underlying36, rfl, rfl, Ids.fl inf34 (by decide)⟩
instance : TFld Try.prog 36 1 2 := ⟨_, _, Try.underlying36, rfl, rfl, Ids.fl inf34 (by decide)⟩
instance : TBld Try.prog 34 1 1 := Ids.bl Try.underlying34 rfl rfl inf4 inf32 inf34 rfl
instance : TBld Try.prog 36 2 2 := Ids.bl Try.underlying36 rfl rfl inf34 inf34 inf36 rfl
end Go.Proofs.Ytcobdnnfmhfenaa
