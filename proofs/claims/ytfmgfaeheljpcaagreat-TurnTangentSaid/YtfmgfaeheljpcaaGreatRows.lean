/-
  No cell of these rows narrows 'for every input' (looked for: loops, veiled, ifaces, maps, wideKeys, modest, calm, conditions, laid).
  DERIVED. THE GIVEN ROWS OF THIS SEAT. 7 by the template 'for every input the law returns true; each argument reads behind the call as it read before'; 0 by the template 'total and deterministic' (their statements: YtfmgfaeheljpcaaGreatTotals.lean).
  GIVEN WITH THE SEED: the statements are not yours to turn. If you find one false, say at which input.
  Laid BY PROGRAM, IN A SANDBOX (cutbox-rows.mjs): the forced cells as the released guide's own fill.sh prints them over the translation 8aac60c5fc5b5ea1… (all of the seat's roots in one cut). By AI agents, Wed Nov 11 2026. No macro, syntax, notation, axiom, sorry.
-/
import Derived.Test.YtfmgfaeheljpcaaGreatChecked
import GoSem.Claim
import GoSem.ClaimJoined
import GoSem.ClaimMapViews
import Derived.JoinedTies
import Derived.KernelRfl
namespace Go.Proofs.YtfmgfaeheljpcaaGreat
/- THE CELL 'sum', in the pinned program and in every row, IS THE sha256 OF THE DUMP (.gsa) THAT YtfmgfaeheljpcaaGreatProg.lean LOADS. Nothing in Lean hashes anything: it is a label: what it is worth is what the hold of that sum in a sandbox is worth. -/
noncomputable def Tryz.pinned : Pinned := { name := "ytfmgfaeheljpcaagreat", sum := "8aac60c5fc5b5ea12cc474599a4b4d5f031234324c774530a3e5bfd15118b5d2", checked := Tryz.checked }
namespace Rows
def none {H : Type} : Left H := { results := [], args := [] }

/-- 'setsquarelaw19.TurnTangent': WHATEVER THE INPUT: true; the input reads as it did. -/
def turnTangentSpec : ChangeSpec := { name := "turnTangent", fn := fun _ => fun
  | [d] => { results := [.lit (.bool true)], args := [d] }
  | _ => none }
def turnTangentRow : OpenClaim := { program := "ytfmgfaeheljpcaagreat", sum := "8aac60c5fc5b5ea12cc474599a4b4d5f031234324c774530a3e5bfd15118b5d2", func := "setsquare/setsquarelaw19.TurnTangent", spec := "turnTangent", unfollowed := true, recurses := true, apart := false }
def TurnTangentSaid : Prop := turnTangentRow.holds Tryz.pinned (OpenSpec.ofChange turnTangentSpec)

/-- ITS FALSE NEIGHBOUR: 'it returns false'. Refute it at one input. -/
def turnTangentWrong : ChangeSpec := { name := "turnTangent", fn := fun _ => fun
  | [d] => { results := [.lit (.bool false)], args := [d] }
  | _ => none }
def TurnTangentWrongFalsely : Prop := turnTangentRow.holds Tryz.pinned (OpenSpec.ofChange turnTangentWrong)

/-- 'setsquarelaw19.TurnRadians': WHATEVER THE INPUT: true; the input reads as it did. -/
def turnRadiansSpec : ChangeSpec := { name := "turnRadians", fn := fun _ => fun
  | [d1, d2] => { results := [.lit (.bool true)], args := [d1, d2] }
  | _ => none }
def turnRadiansRow : OpenClaim := { program := "ytfmgfaeheljpcaagreat", sum := "8aac60c5fc5b5ea12cc474599a4b4d5f031234324c774530a3e5bfd15118b5d2", func := "setsquare/setsquarelaw19.TurnRadians", spec := "turnRadians", unfollowed := true, recurses := true, apart := false }
def TurnRadiansSaid : Prop := turnRadiansRow.holds Tryz.pinned (OpenSpec.ofChange turnRadiansSpec)

/-- ITS FALSE NEIGHBOUR: 'it returns false'. Refute it at one input. -/
def turnRadiansWrong : ChangeSpec := { name := "turnRadians", fn := fun _ => fun
  | [d1, d2] => { results := [.lit (.bool false)], args := [d1, d2] }
  | _ => none }
def TurnRadiansWrongFalsely : Prop := turnRadiansRow.holds Tryz.pinned (OpenSpec.ofChange turnRadiansWrong)

/-- 'setsquarelaw19.TurnAdd': WHATEVER THE INPUT: true; the input reads as it did. -/
def turnAddSpec : ChangeSpec := { name := "turnAdd", fn := fun _ => fun
  | [d] => { results := [.lit (.bool true)], args := [d] }
  | _ => none }
def turnAddRow : OpenClaim := { program := "ytfmgfaeheljpcaagreat", sum := "8aac60c5fc5b5ea12cc474599a4b4d5f031234324c774530a3e5bfd15118b5d2", func := "setsquare/setsquarelaw19.TurnAdd", spec := "turnAdd", unfollowed := true, recurses := true, apart := false }
def TurnAddSaid : Prop := turnAddRow.holds Tryz.pinned (OpenSpec.ofChange turnAddSpec)

/-- ITS FALSE NEIGHBOUR: 'it returns false'. Refute it at one input. -/
def turnAddWrong : ChangeSpec := { name := "turnAdd", fn := fun _ => fun
  | [d] => { results := [.lit (.bool false)], args := [d] }
  | _ => none }
def TurnAddWrongFalsely : Prop := turnAddRow.holds Tryz.pinned (OpenSpec.ofChange turnAddWrong)

/-- 'setsquarelaw19.TurnGroup': WHATEVER THE INPUT: true; the input reads as it did. -/
def turnGroupSpec : ChangeSpec := { name := "turnGroup", fn := fun _ => fun
  | [d] => { results := [.lit (.bool true)], args := [d] }
  | _ => none }
def turnGroupRow : OpenClaim := { program := "ytfmgfaeheljpcaagreat", sum := "8aac60c5fc5b5ea12cc474599a4b4d5f031234324c774530a3e5bfd15118b5d2", func := "setsquare/setsquarelaw19.TurnGroup", spec := "turnGroup", unfollowed := true, recurses := true, apart := false }
def TurnGroupSaid : Prop := turnGroupRow.holds Tryz.pinned (OpenSpec.ofChange turnGroupSpec)

/-- ITS FALSE NEIGHBOUR: 'it returns false'. Refute it at one input. -/
def turnGroupWrong : ChangeSpec := { name := "turnGroup", fn := fun _ => fun
  | [d] => { results := [.lit (.bool false)], args := [d] }
  | _ => none }
def TurnGroupWrongFalsely : Prop := turnGroupRow.holds Tryz.pinned (OpenSpec.ofChange turnGroupWrong)

/-- 'setsquarelaw19.TurnOf': WHATEVER THE INPUT: true; the input reads as it did. -/
def turnOfSpec : ChangeSpec := { name := "turnOf", fn := fun _ => fun
  | [d] => { results := [.lit (.bool true)], args := [d] }
  | _ => none }
def turnOfRow : OpenClaim := { program := "ytfmgfaeheljpcaagreat", sum := "8aac60c5fc5b5ea12cc474599a4b4d5f031234324c774530a3e5bfd15118b5d2", func := "setsquare/setsquarelaw19.TurnOf", spec := "turnOf", unfollowed := true, recurses := true, apart := false }
def TurnOfSaid : Prop := turnOfRow.holds Tryz.pinned (OpenSpec.ofChange turnOfSpec)

/-- ITS FALSE NEIGHBOUR: 'it returns false'. Refute it at one input. -/
def turnOfWrong : ChangeSpec := { name := "turnOf", fn := fun _ => fun
  | [d] => { results := [.lit (.bool false)], args := [d] }
  | _ => none }
def TurnOfWrongFalsely : Prop := turnOfRow.holds Tryz.pinned (OpenSpec.ofChange turnOfWrong)

/-- 'setsquarelaw19.TurnCmp': WHATEVER THE INPUT: true; the input reads as it did. -/
def turnCmpSpec : ChangeSpec := { name := "turnCmp", fn := fun _ => fun
  | [d] => { results := [.lit (.bool true)], args := [d] }
  | _ => none }
def turnCmpRow : OpenClaim := { program := "ytfmgfaeheljpcaagreat", sum := "8aac60c5fc5b5ea12cc474599a4b4d5f031234324c774530a3e5bfd15118b5d2", func := "setsquare/setsquarelaw19.TurnCmp", spec := "turnCmp", unfollowed := true, recurses := true, apart := false }
def TurnCmpSaid : Prop := turnCmpRow.holds Tryz.pinned (OpenSpec.ofChange turnCmpSpec)

/-- ITS FALSE NEIGHBOUR: 'it returns false'. Refute it at one input. -/
def turnCmpWrong : ChangeSpec := { name := "turnCmp", fn := fun _ => fun
  | [d] => { results := [.lit (.bool false)], args := [d] }
  | _ => none }
def TurnCmpWrongFalsely : Prop := turnCmpRow.holds Tryz.pinned (OpenSpec.ofChange turnCmpWrong)

/-- 'setsquarelaw19.TurnAround': WHATEVER THE INPUT: true; the input reads as it did. -/
def turnAroundSpec : ChangeSpec := { name := "turnAround", fn := fun _ => fun
  | [d] => { results := [.lit (.bool true)], args := [d] }
  | _ => none }
def turnAroundRow : OpenClaim := { program := "ytfmgfaeheljpcaagreat", sum := "8aac60c5fc5b5ea12cc474599a4b4d5f031234324c774530a3e5bfd15118b5d2", func := "setsquare/setsquarelaw19.TurnAround", spec := "turnAround", unfollowed := true, recurses := true, apart := false }
def TurnAroundSaid : Prop := turnAroundRow.holds Tryz.pinned (OpenSpec.ofChange turnAroundSpec)

/-- ITS FALSE NEIGHBOUR: 'it returns false'. Refute it at one input. -/
def turnAroundWrong : ChangeSpec := { name := "turnAround", fn := fun _ => fun
  | [d] => { results := [.lit (.bool false)], args := [d] }
  | _ => none }
def TurnAroundWrongFalsely : Prop := turnAroundRow.holds Tryz.pinned (OpenSpec.ofChange turnAroundWrong)

/- THE SECOND FORM. 'bulk': how many values and letters a reading holds, each counted each time it is reached (what is shared counts as often as it is met; a slice's spare places count too). A statement '..UptoSaid' is the law's where the arguments, and the package variables that the reading takes, are together of bulk at most 1048576: NARROWER than '..Said'. Prove '..Said' where nothing that the law and all that it calls make is longer than what came in: it says more and counts as full. Else prove '..UptoSaid'. A law counts once. -/
mutual
def uptoBulk {H : Type} : DataW H → Nat
  | .lit (.string bytes) => bytes.length + 1
  | .lit _ => 1
  | .nil => 1
  | .ptr d => uptoBulk d + 1
  | .slice elems spare => uptoBulkAll elems + uptoBulkAll spare + 1
  | .agg parts => uptoBulkAll parts + 1
  | .iface _ d => uptoBulk d + 1
  | .map entries => uptoBulkEntries entries + 1
  | .held _ => 1
def uptoBulkAll {H : Type} : List (DataW H) → Nat
  | [] => 0
  | d :: r => uptoBulk d + uptoBulkAll r
def uptoBulkEntries {H : Type} : List (Lit × DataW H) → Nat
  | [] => 0
  | x :: r => uptoBulkEntry x + uptoBulkEntries r
def uptoBulkEntry {H : Type} : Lit × DataW H → Nat
  | (.string bytes, d) => bytes.length + uptoBulk d + 1
  | (_, d) => uptoBulk d + 1
 end
def uptoSmall : (H : Type) → List (DataW H) → Bool := fun _ ds => decide (uptoBulkAll ds ≤ 1048576)
def OpenSpec.upto (s : _root_.Go.ChangeSpec) : _root_.Go.OpenSpec := { _root_.Go.OpenSpec.ofChange s with cond := some uptoSmall }

/-- 'setsquarelaw19.TurnTangent', WHERE WHAT IT READS IS OF BULK AT MOST 1048576: true; the input reads as it did. -/
def turnTangentUptoRow : OpenClaim := { program := "ytfmgfaeheljpcaagreat", sum := "8aac60c5fc5b5ea12cc474599a4b4d5f031234324c774530a3e5bfd15118b5d2", func := "setsquare/setsquarelaw19.TurnTangent", spec := "turnTangent", unfollowed := true, recurses := true, apart := false, narrowed := true }
def TurnTangentUptoSaid : Prop := turnTangentUptoRow.holds Tryz.pinned (OpenSpec.upto turnTangentSpec)

/-- 'setsquarelaw19.TurnRadians', WHERE WHAT IT READS IS OF BULK AT MOST 1048576: true; the input reads as it did. -/
def turnRadiansUptoRow : OpenClaim := { program := "ytfmgfaeheljpcaagreat", sum := "8aac60c5fc5b5ea12cc474599a4b4d5f031234324c774530a3e5bfd15118b5d2", func := "setsquare/setsquarelaw19.TurnRadians", spec := "turnRadians", unfollowed := true, recurses := true, apart := false, narrowed := true }
def TurnRadiansUptoSaid : Prop := turnRadiansUptoRow.holds Tryz.pinned (OpenSpec.upto turnRadiansSpec)

/-- 'setsquarelaw19.TurnAdd', WHERE WHAT IT READS IS OF BULK AT MOST 1048576: true; the input reads as it did. -/
def turnAddUptoRow : OpenClaim := { program := "ytfmgfaeheljpcaagreat", sum := "8aac60c5fc5b5ea12cc474599a4b4d5f031234324c774530a3e5bfd15118b5d2", func := "setsquare/setsquarelaw19.TurnAdd", spec := "turnAdd", unfollowed := true, recurses := true, apart := false, narrowed := true }
def TurnAddUptoSaid : Prop := turnAddUptoRow.holds Tryz.pinned (OpenSpec.upto turnAddSpec)

/-- 'setsquarelaw19.TurnGroup', WHERE WHAT IT READS IS OF BULK AT MOST 1048576: true; the input reads as it did. -/
def turnGroupUptoRow : OpenClaim := { program := "ytfmgfaeheljpcaagreat", sum := "8aac60c5fc5b5ea12cc474599a4b4d5f031234324c774530a3e5bfd15118b5d2", func := "setsquare/setsquarelaw19.TurnGroup", spec := "turnGroup", unfollowed := true, recurses := true, apart := false, narrowed := true }
def TurnGroupUptoSaid : Prop := turnGroupUptoRow.holds Tryz.pinned (OpenSpec.upto turnGroupSpec)

/-- 'setsquarelaw19.TurnOf', WHERE WHAT IT READS IS OF BULK AT MOST 1048576: true; the input reads as it did. -/
def turnOfUptoRow : OpenClaim := { program := "ytfmgfaeheljpcaagreat", sum := "8aac60c5fc5b5ea12cc474599a4b4d5f031234324c774530a3e5bfd15118b5d2", func := "setsquare/setsquarelaw19.TurnOf", spec := "turnOf", unfollowed := true, recurses := true, apart := false, narrowed := true }
def TurnOfUptoSaid : Prop := turnOfUptoRow.holds Tryz.pinned (OpenSpec.upto turnOfSpec)

/-- 'setsquarelaw19.TurnCmp', WHERE WHAT IT READS IS OF BULK AT MOST 1048576: true; the input reads as it did. -/
def turnCmpUptoRow : OpenClaim := { program := "ytfmgfaeheljpcaagreat", sum := "8aac60c5fc5b5ea12cc474599a4b4d5f031234324c774530a3e5bfd15118b5d2", func := "setsquare/setsquarelaw19.TurnCmp", spec := "turnCmp", unfollowed := true, recurses := true, apart := false, narrowed := true }
def TurnCmpUptoSaid : Prop := turnCmpUptoRow.holds Tryz.pinned (OpenSpec.upto turnCmpSpec)

/-- 'setsquarelaw19.TurnAround', WHERE WHAT IT READS IS OF BULK AT MOST 1048576: true; the input reads as it did. -/
def turnAroundUptoRow : OpenClaim := { program := "ytfmgfaeheljpcaagreat", sum := "8aac60c5fc5b5ea12cc474599a4b4d5f031234324c774530a3e5bfd15118b5d2", func := "setsquare/setsquarelaw19.TurnAround", spec := "turnAround", unfollowed := true, recurses := true, apart := false, narrowed := true }
def TurnAroundUptoSaid : Prop := turnAroundUptoRow.holds Tryz.pinned (OpenSpec.upto turnAroundSpec)

end Rows
end Go.Proofs.YtfmgfaeheljpcaaGreat
