/-
  No cell of these rows narrows 'for every input' (looked for: loops, veiled, ifaces, maps, wideKeys, modest, calm, conditions, laid).
  DERIVED. THE GIVEN ROWS OF THIS SEAT. 5 by the template 'for every input the law returns true; each argument reads behind the call as it read before'; 0 by the template 'total and deterministic' (their statements: YtcobdnnfmhfenaaGreatTotals.lean).
  GIVEN WITH THE SEED: the statements are not yours to turn. If you find one false, say at which input.
  Laid BY PROGRAM, IN A SANDBOX (cutbox-rows.mjs): the forced cells as the released guide's own fill.sh prints them over the translation f76eb3235174cb66… (all of the seat's roots in one cut). By AI agents, Wed Nov 11 2026. No macro, syntax, notation, axiom, sorry.
-/
import Derived.Test.YtcobdnnfmhfenaaGreatChecked
import GoSem.Claim
import GoSem.ClaimJoined
import GoSem.ClaimMapViews
import Derived.JoinedTies
import Derived.KernelRfl
namespace Go.Proofs.YtcobdnnfmhfenaaGreat
/- THE CELL 'sum', in the pinned program and in every row, IS THE sha256 OF THE DUMP (.gsa) THAT YtcobdnnfmhfenaaGreatProg.lean LOADS. Nothing in Lean hashes anything: it is a label: what it is worth is what the hold of that sum in a sandbox is worth. -/
noncomputable def Tryz.pinned : Pinned := { name := "ytcobdnnfmhfenaagreat", sum := "f76eb3235174cb6613022d1a97c471c4dfb142406519d8a4db353a66ea4b6975", checked := Tryz.checked }
namespace Rows
def none {H : Type} : Left H := { results := [], args := [] }

/-- 'setsquarelaw06.TowerConjugate': WHATEVER THE INPUT: true; the input reads as it did. -/
def towerConjugateSpec : ChangeSpec := { name := "towerConjugate", fn := fun _ => fun
  | [d1, d2] => { results := [.lit (.bool true)], args := [d1, d2] }
  | _ => none }
def towerConjugateRow : OpenClaim := { program := "ytcobdnnfmhfenaagreat", sum := "f76eb3235174cb6613022d1a97c471c4dfb142406519d8a4db353a66ea4b6975", func := "setsquare/setsquarelaw06.TowerConjugate", spec := "towerConjugate", unfollowed := true, recurses := true, apart := false }
def TowerConjugateSaid : Prop := towerConjugateRow.holds Tryz.pinned (OpenSpec.ofChange towerConjugateSpec)

/-- ITS FALSE NEIGHBOUR: 'it returns false'. Refute it at one input. -/
def towerConjugateWrong : ChangeSpec := { name := "towerConjugate", fn := fun _ => fun
  | [d1, d2] => { results := [.lit (.bool false)], args := [d1, d2] }
  | _ => none }
def TowerConjugateWrongFalsely : Prop := towerConjugateRow.holds Tryz.pinned (OpenSpec.ofChange towerConjugateWrong)

/-- 'setsquarelaw06.TowerNorm': WHATEVER THE INPUT: true; the input reads as it did. -/
def towerNormSpec : ChangeSpec := { name := "towerNorm", fn := fun _ => fun
  | [d] => { results := [.lit (.bool true)], args := [d] }
  | _ => none }
def towerNormRow : OpenClaim := { program := "ytcobdnnfmhfenaagreat", sum := "f76eb3235174cb6613022d1a97c471c4dfb142406519d8a4db353a66ea4b6975", func := "setsquare/setsquarelaw06.TowerNorm", spec := "towerNorm", unfollowed := true, recurses := true, apart := false }
def TowerNormSaid : Prop := towerNormRow.holds Tryz.pinned (OpenSpec.ofChange towerNormSpec)

/-- ITS FALSE NEIGHBOUR: 'it returns false'. Refute it at one input. -/
def towerNormWrong : ChangeSpec := { name := "towerNorm", fn := fun _ => fun
  | [d] => { results := [.lit (.bool false)], args := [d] }
  | _ => none }
def TowerNormWrongFalsely : Prop := towerNormRow.holds Tryz.pinned (OpenSpec.ofChange towerNormWrong)

/-- 'setsquarelaw06.TowerSingle': WHATEVER THE INPUT: true; the input reads as it did. -/
def towerSingleSpec : ChangeSpec := { name := "towerSingle", fn := fun _ => fun
  | [d1, d2] => { results := [.lit (.bool true)], args := [d1, d2] }
  | _ => none }
def towerSingleRow : OpenClaim := { program := "ytcobdnnfmhfenaagreat", sum := "f76eb3235174cb6613022d1a97c471c4dfb142406519d8a4db353a66ea4b6975", func := "setsquare/setsquarelaw06.TowerSingle", spec := "towerSingle", unfollowed := true, recurses := true, apart := false }
def TowerSingleSaid : Prop := towerSingleRow.holds Tryz.pinned (OpenSpec.ofChange towerSingleSpec)

/-- ITS FALSE NEIGHBOUR: 'it returns false'. Refute it at one input. -/
def towerSingleWrong : ChangeSpec := { name := "towerSingle", fn := fun _ => fun
  | [d1, d2] => { results := [.lit (.bool false)], args := [d1, d2] }
  | _ => none }
def TowerSingleWrongFalsely : Prop := towerSingleRow.holds Tryz.pinned (OpenSpec.ofChange towerSingleWrong)

/-- 'setsquarelaw06.TowerFormed': WHATEVER THE INPUT: true; the input reads as it did. -/
def towerFormedSpec : ChangeSpec := { name := "towerFormed", fn := fun _ => fun
  | [d1, d2] => { results := [.lit (.bool true)], args := [d1, d2] }
  | _ => none }
def towerFormedRow : OpenClaim := { program := "ytcobdnnfmhfenaagreat", sum := "f76eb3235174cb6613022d1a97c471c4dfb142406519d8a4db353a66ea4b6975", func := "setsquare/setsquarelaw06.TowerFormed", spec := "towerFormed", unfollowed := true, recurses := true, apart := false }
def TowerFormedSaid : Prop := towerFormedRow.holds Tryz.pinned (OpenSpec.ofChange towerFormedSpec)

/-- ITS FALSE NEIGHBOUR: 'it returns false'. Refute it at one input. -/
def towerFormedWrong : ChangeSpec := { name := "towerFormed", fn := fun _ => fun
  | [d1, d2] => { results := [.lit (.bool false)], args := [d1, d2] }
  | _ => none }
def TowerFormedWrongFalsely : Prop := towerFormedRow.holds Tryz.pinned (OpenSpec.ofChange towerFormedWrong)

/-- 'setsquarelaw06.TowerRing': WHATEVER THE INPUT: true; the input reads as it did. -/
def towerRingSpec : ChangeSpec := { name := "towerRing", fn := fun _ => fun
  | [d] => { results := [.lit (.bool true)], args := [d] }
  | _ => none }
def towerRingRow : OpenClaim := { program := "ytcobdnnfmhfenaagreat", sum := "f76eb3235174cb6613022d1a97c471c4dfb142406519d8a4db353a66ea4b6975", func := "setsquare/setsquarelaw06.TowerRing", spec := "towerRing", unfollowed := true, recurses := true, apart := false }
def TowerRingSaid : Prop := towerRingRow.holds Tryz.pinned (OpenSpec.ofChange towerRingSpec)

/-- ITS FALSE NEIGHBOUR: 'it returns false'. Refute it at one input. -/
def towerRingWrong : ChangeSpec := { name := "towerRing", fn := fun _ => fun
  | [d] => { results := [.lit (.bool false)], args := [d] }
  | _ => none }
def TowerRingWrongFalsely : Prop := towerRingRow.holds Tryz.pinned (OpenSpec.ofChange towerRingWrong)

/- THE SECOND FORM. 'bulk': how many values and letters a reading holds, each counted each time it is reached (what is shared counts as often as it is met; a slice's spare places count too). A statement '..UptoSaid' is the law's where the arguments, and the package variables that the reading takes, are together of bulk at most 1048576: NARROWER than '..Said'. Prove '..Said' where nothing that the law and all that it calls make is longer than what came in: it says more and counts as full. Else prove '..UptoSaid'. A law counts once. -/
mutual
def uptoBulk {H : Type} : DataW H → Nat
  | .lit (.string bytes) => bytes.length + 1
  | .lit _ => 1
  | .nil => 1
  | .ptr d => uptoBulk d + 1
  | .slice elems spare => uptoBulkAll elems + uptoBulkAll spare + 1
  | .agg parts => uptoBulkAll parts + 1
  | .iface _ d => uptoBulk d + 1
  | .map entries => uptoBulkEntries entries + 1
  | .held _ => 1
def uptoBulkAll {H : Type} : List (DataW H) → Nat
  | [] => 0
  | d :: r => uptoBulk d + uptoBulkAll r
def uptoBulkEntries {H : Type} : List (Lit × DataW H) → Nat
  | [] => 0
  | x :: r => uptoBulkEntry x + uptoBulkEntries r
def uptoBulkEntry {H : Type} : Lit × DataW H → Nat
  | (.string bytes, d) => bytes.length + uptoBulk d + 1
  | (_, d) => uptoBulk d + 1
 end
def uptoSmall : (H : Type) → List (DataW H) → Bool := fun _ ds => decide (uptoBulkAll ds ≤ 1048576)
def OpenSpec.upto (s : _root_.Go.ChangeSpec) : _root_.Go.OpenSpec := { _root_.Go.OpenSpec.ofChange s with cond := some uptoSmall }

/-- 'setsquarelaw06.TowerConjugate', WHERE WHAT IT READS IS OF BULK AT MOST 1048576: true; the input reads as it did. -/
def towerConjugateUptoRow : OpenClaim := { program := "ytcobdnnfmhfenaagreat", sum := "f76eb3235174cb6613022d1a97c471c4dfb142406519d8a4db353a66ea4b6975", func := "setsquare/setsquarelaw06.TowerConjugate", spec := "towerConjugate", unfollowed := true, recurses := true, apart := false, narrowed := true }
def TowerConjugateUptoSaid : Prop := towerConjugateUptoRow.holds Tryz.pinned (OpenSpec.upto towerConjugateSpec)

/-- 'setsquarelaw06.TowerNorm', WHERE WHAT IT READS IS OF BULK AT MOST 1048576: true; the input reads as it did. -/
def towerNormUptoRow : OpenClaim := { program := "ytcobdnnfmhfenaagreat", sum := "f76eb3235174cb6613022d1a97c471c4dfb142406519d8a4db353a66ea4b6975", func := "setsquare/setsquarelaw06.TowerNorm", spec := "towerNorm", unfollowed := true, recurses := true, apart := false, narrowed := true }
def TowerNormUptoSaid : Prop := towerNormUptoRow.holds Tryz.pinned (OpenSpec.upto towerNormSpec)

/-- 'setsquarelaw06.TowerSingle', WHERE WHAT IT READS IS OF BULK AT MOST 1048576: true; the input reads as it did. -/
def towerSingleUptoRow : OpenClaim := { program := "ytcobdnnfmhfenaagreat", sum := "f76eb3235174cb6613022d1a97c471c4dfb142406519d8a4db353a66ea4b6975", func := "setsquare/setsquarelaw06.TowerSingle", spec := "towerSingle", unfollowed := true, recurses := true, apart := false, narrowed := true }
def TowerSingleUptoSaid : Prop := towerSingleUptoRow.holds Tryz.pinned (OpenSpec.upto towerSingleSpec)

/-- 'setsquarelaw06.TowerFormed', WHERE WHAT IT READS IS OF BULK AT MOST 1048576: true; the input reads as it did. -/
def towerFormedUptoRow : OpenClaim := { program := "ytcobdnnfmhfenaagreat", sum := "f76eb3235174cb6613022d1a97c471c4dfb142406519d8a4db353a66ea4b6975", func := "setsquare/setsquarelaw06.TowerFormed", spec := "towerFormed", unfollowed := true, recurses := true, apart := false, narrowed := true }
def TowerFormedUptoSaid : Prop := towerFormedUptoRow.holds Tryz.pinned (OpenSpec.upto towerFormedSpec)

/-- 'setsquarelaw06.TowerRing', WHERE WHAT IT READS IS OF BULK AT MOST 1048576: true; the input reads as it did. -/
def towerRingUptoRow : OpenClaim := { program := "ytcobdnnfmhfenaagreat", sum := "f76eb3235174cb6613022d1a97c471c4dfb142406519d8a4db353a66ea4b6975", func := "setsquare/setsquarelaw06.TowerRing", spec := "towerRing", unfollowed := true, recurses := true, apart := false, narrowed := true }
def TowerRingUptoSaid : Prop := towerRingUptoRow.holds Tryz.pinned (OpenSpec.upto towerRingSpec)

end Rows
end Go.Proofs.YtcobdnnfmhfenaaGreat
