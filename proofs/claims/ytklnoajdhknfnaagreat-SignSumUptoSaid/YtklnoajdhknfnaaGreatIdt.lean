/- The struct types of this seat, as instances. Written by mkids.py. -/
import Derived.Test.YtklnoajdhknfnaaGreatIds
import Derived.Test.YtklnoajdhknfnaaGreatRl
import Derived.KernelRfl
set_option linter.unusedVariables false
namespace Go.Proofs.YtklnoajdhknfnaaGreat
open Go Go.Rx
theorem Ids.st {P : Program} {T b by' : Nat} {fs : List Field} {zs : List (List Value)} {z : Value} (u : P.underlying T = some (.struct fs.toArray)) (ii : (P.info? T).map (fun i => (i.size, i.bytes, i.zero)) = some (b, by', some z))
    (hz : z.cells.toList = zs.flatten) (ho : fs.map (·.offset) = offs 0 zs) (hs : fs.map (fun f => (P.info? f.type).map (·.size)) = zs.map fun z => some z.length) : TStc P T zs := by
  cases hi : P.info? T with
  | none => rw [hi] at ii; cases ii
  | some i => rw [hi] at ii; simp at ii; exact ⟨fs, i, z, u, hi, ii.2.2, hz, ho, hs⟩
instance : TStc Tryz.prog 31 [[.bool false], [.slice none 0 0]] := Ids.st (z := .agg #[.bool false, .slice none 0 0]) (b := 2) (by' := 32) Tryz.underlying31 (by kernel_rfl) rfl rfl (by kernel_rfl)
end Go.Proofs.YtklnoajdhknfnaaGreat
