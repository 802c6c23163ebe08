/-
  No cell of these rows narrows 'for every input' (looked for: loops, veiled, ifaces, maps, wideKeys, modest, calm, conditions, laid).
  DERIVED. THE GIVEN ROWS OF THIS SEAT. 3 by the template 'for every input the law returns true; each argument reads behind the call as it read before'; 0 by the template 'total and deterministic' (their statements: YtcobdnnfmhfenaaTotals.lean).
  GIVEN WITH THE SEED: the statements are not yours to turn. If you find one false, say at which input.
  Laid BY PROGRAM, IN A SANDBOX (cutbox-rows.mjs): the forced cells as the released guide's own fill.sh prints them over the translation 231bfd0f26121dad… (all of the seat's roots in one cut). By AI agents, Wed Nov 11 2026. No macro, syntax, notation, axiom, sorry.
-/
import Derived.Test.YtcobdnnfmhfenaaChecked
import GoSem.Claim
import GoSem.ClaimJoined
import GoSem.ClaimMapViews
import Derived.JoinedTies
import Derived.KernelRfl
namespace Go.Proofs.Ytcobdnnfmhfenaa
/- THE CELL 'sum', in the pinned program and in every row, IS THE sha256 OF THE DUMP (.gsa) THAT YtcobdnnfmhfenaaProg.lean LOADS. Nothing in Lean hashes anything: it is a label: what it is worth is what the hold of that sum in a sandbox is worth. -/
noncomputable def Try.pinned : Pinned := { name := "ytcobdnnfmhfenaa", sum := "231bfd0f26121dad3f057cd759d4a50c8f71fbe0a425411d93c5f5c5e9622c50", checked := Try.checked }
namespace Rows
def none {H : Type} : Left H := { results := [], args := [] }

/-- 'setsquarelaw06.TowerRoots': WHATEVER THE INPUT: true; the input reads as it did. -/
def towerRootsSpec : ChangeSpec := { name := "towerRoots", fn := fun _ => fun
  | [d] => { results := [.lit (.bool true)], args := [d] }
  | _ => none }
def towerRootsRow : OpenClaim := { program := "ytcobdnnfmhfenaa", sum := "231bfd0f26121dad3f057cd759d4a50c8f71fbe0a425411d93c5f5c5e9622c50", func := "setsquare/setsquarelaw06.TowerRoots", spec := "towerRoots", unfollowed := true, recurses := true, apart := false }
def TowerRootsSaid : Prop := towerRootsRow.holds Try.pinned (OpenSpec.ofChange towerRootsSpec)

/-- ITS FALSE NEIGHBOUR: 'it returns false'. Refute it at one input. -/
def towerRootsWrong : ChangeSpec := { name := "towerRoots", fn := fun _ => fun
  | [d] => { results := [.lit (.bool false)], args := [d] }
  | _ => none }
def TowerRootsWrongFalsely : Prop := towerRootsRow.holds Try.pinned (OpenSpec.ofChange towerRootsWrong)

/-- 'setsquarelaw06.TowerRational': WHATEVER THE INPUT: true; the input reads as it did. -/
def towerRationalSpec : ChangeSpec := { name := "towerRational", fn := fun _ => fun
  | [d] => { results := [.lit (.bool true)], args := [d] }
  | _ => none }
def towerRationalRow : OpenClaim := { program := "ytcobdnnfmhfenaa", sum := "231bfd0f26121dad3f057cd759d4a50c8f71fbe0a425411d93c5f5c5e9622c50", func := "setsquare/setsquarelaw06.TowerRational", spec := "towerRational", unfollowed := true, recurses := true, apart := false }
def TowerRationalSaid : Prop := towerRationalRow.holds Try.pinned (OpenSpec.ofChange towerRationalSpec)

/-- ITS FALSE NEIGHBOUR: 'it returns false'. Refute it at one input. -/
def towerRationalWrong : ChangeSpec := { name := "towerRational", fn := fun _ => fun
  | [d] => { results := [.lit (.bool false)], args := [d] }
  | _ => none }
def TowerRationalWrongFalsely : Prop := towerRationalRow.holds Try.pinned (OpenSpec.ofChange towerRationalWrong)

/-- 'setsquarelaw06.TowerInverse': WHATEVER THE INPUT: true; the input reads as it did. -/
def towerInverseSpec : ChangeSpec := { name := "towerInverse", fn := fun _ => fun
  | [d] => { results := [.lit (.bool true)], args := [d] }
  | _ => none }
def towerInverseRow : OpenClaim := { program := "ytcobdnnfmhfenaa", sum := "231bfd0f26121dad3f057cd759d4a50c8f71fbe0a425411d93c5f5c5e9622c50", func := "setsquare/setsquarelaw06.TowerInverse", spec := "towerInverse", unfollowed := true, recurses := true, apart := false }
def TowerInverseSaid : Prop := towerInverseRow.holds Try.pinned (OpenSpec.ofChange towerInverseSpec)

/-- ITS FALSE NEIGHBOUR: 'it returns false'. Refute it at one input. -/
def towerInverseWrong : ChangeSpec := { name := "towerInverse", fn := fun _ => fun
  | [d] => { results := [.lit (.bool false)], args := [d] }
  | _ => none }
def TowerInverseWrongFalsely : Prop := towerInverseRow.holds Try.pinned (OpenSpec.ofChange towerInverseWrong)

/- THE SECOND FORM. 'bulk': how many values and letters a reading holds, each counted each time it is reached (what is shared counts as often as it is met; a slice's spare places count too). A statement '..UptoSaid' is the law's where the arguments, and the package variables that the reading takes, are together of bulk at most 1048576: NARROWER than '..Said'. Prove '..Said' where nothing that the law and all that it calls make is longer than what came in: it says more and counts as full. Else prove '..UptoSaid'. A law counts once. -/
mutual
def uptoBulk {H : Type} : DataW H → Nat
  | .lit (.string bytes) => bytes.length + 1
  | .lit _ => 1
  | .nil => 1
  | .ptr d => uptoBulk d + 1
  | .slice elems spare => uptoBulkAll elems + uptoBulkAll spare + 1
  | .agg parts => uptoBulkAll parts + 1
  | .iface _ d => uptoBulk d + 1
  | .map entries => uptoBulkEntries entries + 1
  | .held _ => 1
def uptoBulkAll {H : Type} : List (DataW H) → Nat
  | [] => 0
  | d :: r => uptoBulk d + uptoBulkAll r
def uptoBulkEntries {H : Type} : List (Lit × DataW H) → Nat
  | [] => 0
  | x :: r => uptoBulkEntry x + uptoBulkEntries r
def uptoBulkEntry {H : Type} : Lit × DataW H → Nat
  | (.string bytes, d) => bytes.length + uptoBulk d + 1
  | (_, d) => uptoBulk d + 1
 end
def uptoSmall : (H : Type) → List (DataW H) → Bool := fun _ ds => decide (uptoBulkAll ds ≤ 1048576)
def OpenSpec.upto (s : _root_.Go.ChangeSpec) : _root_.Go.OpenSpec := { _root_.Go.OpenSpec.ofChange s with cond := some uptoSmall }

/-- 'setsquarelaw06.TowerRoots', WHERE WHAT IT READS IS OF BULK AT MOST 1048576: true; the input reads as it did. -/
def towerRootsUptoRow : OpenClaim := { program := "ytcobdnnfmhfenaa", sum := "231bfd0f26121dad3f057cd759d4a50c8f71fbe0a425411d93c5f5c5e9622c50", func := "setsquare/setsquarelaw06.TowerRoots", spec := "towerRoots", unfollowed := true, recurses := true, apart := false, narrowed := true }
def TowerRootsUptoSaid : Prop := towerRootsUptoRow.holds Try.pinned (OpenSpec.upto towerRootsSpec)

/-- 'setsquarelaw06.TowerRational', WHERE WHAT IT READS IS OF BULK AT MOST 1048576: true; the input reads as it did. -/
def towerRationalUptoRow : OpenClaim := { program := "ytcobdnnfmhfenaa", sum := "231bfd0f26121dad3f057cd759d4a50c8f71fbe0a425411d93c5f5c5e9622c50", func := "setsquare/setsquarelaw06.TowerRational", spec := "towerRational", unfollowed := true, recurses := true, apart := false, narrowed := true }
def TowerRationalUptoSaid : Prop := towerRationalUptoRow.holds Try.pinned (OpenSpec.upto towerRationalSpec)

/-- 'setsquarelaw06.TowerInverse', WHERE WHAT IT READS IS OF BULK AT MOST 1048576: true; the input reads as it did. -/
def towerInverseUptoRow : OpenClaim := { program := "ytcobdnnfmhfenaa", sum := "231bfd0f26121dad3f057cd759d4a50c8f71fbe0a425411d93c5f5c5e9622c50", func := "setsquare/setsquarelaw06.TowerInverse", spec := "towerInverse", unfollowed := true, recurses := true, apart := false, narrowed := true }
def TowerInverseUptoSaid : Prop := towerInverseUptoRow.holds Try.pinned (OpenSpec.upto towerInverseSpec)

end Rows
end Go.Proofs.Ytcobdnnfmhfenaa
