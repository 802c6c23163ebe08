/-
  No cell of these rows narrows 'for every input' (looked for: loops, veiled, ifaces, maps, wideKeys, modest, calm, conditions, laid).
  DERIVED. THE GIVEN ROWS OF THIS SEAT. 8 by the template 'for every input the law returns true; each argument reads behind the call as it read before'; 0 by the template 'total and deterministic' (their statements: YtklnoajdhknfnaaGreatTotals.lean).
  GIVEN WITH THE SEED: the statements are not yours to turn. If you find one false, say at which input.
  Laid BY PROGRAM, IN A SANDBOX (cutbox-rows.mjs): the forced cells as the released guide's own fill.sh prints them over the translation 3c33e60ce917ed7f… (all of the seat's roots in one cut). By AI agents, Wed Nov 11 2026. No macro, syntax, notation, axiom, sorry.
-/
import Derived.Test.YtklnoajdhknfnaaGreatChecked
import GoSem.Claim
import GoSem.ClaimJoined
import GoSem.ClaimMapViews
import Derived.JoinedTies
import Derived.KernelRfl
namespace Go.Proofs.YtklnoajdhknfnaaGreat
/- THE CELL 'sum', in the pinned program and in every row, IS THE sha256 OF THE DUMP (.gsa) THAT YtklnoajdhknfnaaGreatProg.lean LOADS. Nothing in Lean hashes anything: it is a label: what it is worth is what the hold of that sum in a sandbox is worth. -/
noncomputable def Tryz.pinned : Pinned := { name := "ytklnoajdhknfnaagreat", sum := "3c33e60ce917ed7fde22a065fc913f9b680673d783fd9f69c8d85786a24dec4f", checked := Tryz.checked }
namespace Rows
def none {H : Type} : Left H := { results := [], args := [] }

/-- 'setsquarelaw07.SignReal': WHATEVER THE INPUT: true; the input reads as it did. -/
def signRealSpec : ChangeSpec := { name := "signReal", fn := fun _ => fun
  | [d] => { results := [.lit (.bool true)], args := [d] }
  | _ => none }
def signRealRow : OpenClaim := { program := "ytklnoajdhknfnaagreat", sum := "3c33e60ce917ed7fde22a065fc913f9b680673d783fd9f69c8d85786a24dec4f", func := "setsquare/setsquarelaw07.SignReal", spec := "signReal", unfollowed := true, recurses := true, apart := false }
def SignRealSaid : Prop := signRealRow.holds Tryz.pinned (OpenSpec.ofChange signRealSpec)

/-- ITS FALSE NEIGHBOUR: 'it returns false'. Refute it at one input. -/
def signRealWrong : ChangeSpec := { name := "signReal", fn := fun _ => fun
  | [d] => { results := [.lit (.bool false)], args := [d] }
  | _ => none }
def SignRealWrongFalsely : Prop := signRealRow.holds Tryz.pinned (OpenSpec.ofChange signRealWrong)

/-- 'setsquarelaw07.SignEnclose': WHATEVER THE INPUT: true; the input reads as it did. -/
def signEncloseSpec : ChangeSpec := { name := "signEnclose", fn := fun _ => fun
  | [d1, d2] => { results := [.lit (.bool true)], args := [d1, d2] }
  | _ => none }
def signEncloseRow : OpenClaim := { program := "ytklnoajdhknfnaagreat", sum := "3c33e60ce917ed7fde22a065fc913f9b680673d783fd9f69c8d85786a24dec4f", func := "setsquare/setsquarelaw07.SignEnclose", spec := "signEnclose", unfollowed := true, recurses := true, apart := false }
def SignEncloseSaid : Prop := signEncloseRow.holds Tryz.pinned (OpenSpec.ofChange signEncloseSpec)

/-- ITS FALSE NEIGHBOUR: 'it returns false'. Refute it at one input. -/
def signEncloseWrong : ChangeSpec := { name := "signEnclose", fn := fun _ => fun
  | [d1, d2] => { results := [.lit (.bool false)], args := [d1, d2] }
  | _ => none }
def SignEncloseWrongFalsely : Prop := signEncloseRow.holds Tryz.pinned (OpenSpec.ofChange signEncloseWrong)

/-- 'setsquarelaw07.SignFloor': WHATEVER THE INPUT: true; the input reads as it did. -/
def signFloorSpec : ChangeSpec := { name := "signFloor", fn := fun _ => fun
  | [d] => { results := [.lit (.bool true)], args := [d] }
  | _ => none }
def signFloorRow : OpenClaim := { program := "ytklnoajdhknfnaagreat", sum := "3c33e60ce917ed7fde22a065fc913f9b680673d783fd9f69c8d85786a24dec4f", func := "setsquare/setsquarelaw07.SignFloor", spec := "signFloor", unfollowed := true, recurses := true, apart := false }
def SignFloorSaid : Prop := signFloorRow.holds Tryz.pinned (OpenSpec.ofChange signFloorSpec)

/-- ITS FALSE NEIGHBOUR: 'it returns false'. Refute it at one input. -/
def signFloorWrong : ChangeSpec := { name := "signFloor", fn := fun _ => fun
  | [d] => { results := [.lit (.bool false)], args := [d] }
  | _ => none }
def SignFloorWrongFalsely : Prop := signFloorRow.holds Tryz.pinned (OpenSpec.ofChange signFloorWrong)

/-- 'setsquarelaw07.SignProduct': WHATEVER THE INPUT: true; the input reads as it did. -/
def signProductSpec : ChangeSpec := { name := "signProduct", fn := fun _ => fun
  | [d] => { results := [.lit (.bool true)], args := [d] }
  | _ => none }
def signProductRow : OpenClaim := { program := "ytklnoajdhknfnaagreat", sum := "3c33e60ce917ed7fde22a065fc913f9b680673d783fd9f69c8d85786a24dec4f", func := "setsquare/setsquarelaw07.SignProduct", spec := "signProduct", unfollowed := true, recurses := true, apart := false }
def SignProductSaid : Prop := signProductRow.holds Tryz.pinned (OpenSpec.ofChange signProductSpec)

/-- ITS FALSE NEIGHBOUR: 'it returns false'. Refute it at one input. -/
def signProductWrong : ChangeSpec := { name := "signProduct", fn := fun _ => fun
  | [d] => { results := [.lit (.bool false)], args := [d] }
  | _ => none }
def SignProductWrongFalsely : Prop := signProductRow.holds Tryz.pinned (OpenSpec.ofChange signProductWrong)

/-- 'setsquarelaw07.SignSum': WHATEVER THE INPUT: true; the input reads as it did. -/
def signSumSpec : ChangeSpec := { name := "signSum", fn := fun _ => fun
  | [d] => { results := [.lit (.bool true)], args := [d] }
  | _ => none }
def signSumRow : OpenClaim := { program := "ytklnoajdhknfnaagreat", sum := "3c33e60ce917ed7fde22a065fc913f9b680673d783fd9f69c8d85786a24dec4f", func := "setsquare/setsquarelaw07.SignSum", spec := "signSum", unfollowed := true, recurses := true, apart := false }
def SignSumSaid : Prop := signSumRow.holds Tryz.pinned (OpenSpec.ofChange signSumSpec)

/-- ITS FALSE NEIGHBOUR: 'it returns false'. Refute it at one input. -/
def signSumWrong : ChangeSpec := { name := "signSum", fn := fun _ => fun
  | [d] => { results := [.lit (.bool false)], args := [d] }
  | _ => none }
def SignSumWrongFalsely : Prop := signSumRow.holds Tryz.pinned (OpenSpec.ofChange signSumWrong)

/-- 'setsquarelaw07.SignUnreduced': WHATEVER THE INPUT: true; the input reads as it did. -/
def signUnreducedSpec : ChangeSpec := { name := "signUnreduced", fn := fun _ => fun
  | [d] => { results := [.lit (.bool true)], args := [d] }
  | _ => none }
def signUnreducedRow : OpenClaim := { program := "ytklnoajdhknfnaagreat", sum := "3c33e60ce917ed7fde22a065fc913f9b680673d783fd9f69c8d85786a24dec4f", func := "setsquare/setsquarelaw07.SignUnreduced", spec := "signUnreduced", unfollowed := true, recurses := true, apart := false }
def SignUnreducedSaid : Prop := signUnreducedRow.holds Tryz.pinned (OpenSpec.ofChange signUnreducedSpec)

/-- ITS FALSE NEIGHBOUR: 'it returns false'. Refute it at one input. -/
def signUnreducedWrong : ChangeSpec := { name := "signUnreduced", fn := fun _ => fun
  | [d] => { results := [.lit (.bool false)], args := [d] }
  | _ => none }
def SignUnreducedWrongFalsely : Prop := signUnreducedRow.holds Tryz.pinned (OpenSpec.ofChange signUnreducedWrong)

/-- 'setsquarelaw07.SignLift': WHATEVER THE INPUT: true; the input reads as it did. -/
def signLiftSpec : ChangeSpec := { name := "signLift", fn := fun _ => fun
  | [d] => { results := [.lit (.bool true)], args := [d] }
  | _ => none }
def signLiftRow : OpenClaim := { program := "ytklnoajdhknfnaagreat", sum := "3c33e60ce917ed7fde22a065fc913f9b680673d783fd9f69c8d85786a24dec4f", func := "setsquare/setsquarelaw07.SignLift", spec := "signLift", unfollowed := true, recurses := true, apart := false }
def SignLiftSaid : Prop := signLiftRow.holds Tryz.pinned (OpenSpec.ofChange signLiftSpec)

/-- ITS FALSE NEIGHBOUR: 'it returns false'. Refute it at one input. -/
def signLiftWrong : ChangeSpec := { name := "signLift", fn := fun _ => fun
  | [d] => { results := [.lit (.bool false)], args := [d] }
  | _ => none }
def SignLiftWrongFalsely : Prop := signLiftRow.holds Tryz.pinned (OpenSpec.ofChange signLiftWrong)

/-- 'setsquarelaw07.SignSign': WHATEVER THE INPUT: true; the input reads as it did. -/
def signSignSpec : ChangeSpec := { name := "signSign", fn := fun _ => fun
  | [d] => { results := [.lit (.bool true)], args := [d] }
  | _ => none }
def signSignRow : OpenClaim := { program := "ytklnoajdhknfnaagreat", sum := "3c33e60ce917ed7fde22a065fc913f9b680673d783fd9f69c8d85786a24dec4f", func := "setsquare/setsquarelaw07.SignSign", spec := "signSign", unfollowed := true, recurses := true, apart := false }
def SignSignSaid : Prop := signSignRow.holds Tryz.pinned (OpenSpec.ofChange signSignSpec)

/-- ITS FALSE NEIGHBOUR: 'it returns false'. Refute it at one input. -/
def signSignWrong : ChangeSpec := { name := "signSign", fn := fun _ => fun
  | [d] => { results := [.lit (.bool false)], args := [d] }
  | _ => none }
def SignSignWrongFalsely : Prop := signSignRow.holds Tryz.pinned (OpenSpec.ofChange signSignWrong)

/- THE SECOND FORM. 'bulk': how many values and letters a reading holds, each counted each time it is reached (what is shared counts as often as it is met; a slice's spare places count too). A statement '..UptoSaid' is the law's where the arguments, and the package variables that the reading takes, are together of bulk at most 1048576: NARROWER than '..Said'. Prove '..Said' where nothing that the law and all that it calls make is longer than what came in: it says more and counts as full. Else prove '..UptoSaid'. A law counts once. -/
mutual
def uptoBulk {H : Type} : DataW H → Nat
  | .lit (.string bytes) => bytes.length + 1
  | .lit _ => 1
  | .nil => 1
  | .ptr d => uptoBulk d + 1
  | .slice elems spare => uptoBulkAll elems + uptoBulkAll spare + 1
  | .agg parts => uptoBulkAll parts + 1
  | .iface _ d => uptoBulk d + 1
  | .map entries => uptoBulkEntries entries + 1
  | .held _ => 1
def uptoBulkAll {H : Type} : List (DataW H) → Nat
  | [] => 0
  | d :: r => uptoBulk d + uptoBulkAll r
def uptoBulkEntries {H : Type} : List (Lit × DataW H) → Nat
  | [] => 0
  | x :: r => uptoBulkEntry x + uptoBulkEntries r
def uptoBulkEntry {H : Type} : Lit × DataW H → Nat
  | (.string bytes, d) => bytes.length + uptoBulk d + 1
  | (_, d) => uptoBulk d + 1
 end
def uptoSmall : (H : Type) → List (DataW H) → Bool := fun _ ds => decide (uptoBulkAll ds ≤ 1048576)
def OpenSpec.upto (s : _root_.Go.ChangeSpec) : _root_.Go.OpenSpec := { _root_.Go.OpenSpec.ofChange s with cond := some uptoSmall }

/-- 'setsquarelaw07.SignReal', WHERE WHAT IT READS IS OF BULK AT MOST 1048576: true; the input reads as it did. -/
def signRealUptoRow : OpenClaim := { program := "ytklnoajdhknfnaagreat", sum := "3c33e60ce917ed7fde22a065fc913f9b680673d783fd9f69c8d85786a24dec4f", func := "setsquare/setsquarelaw07.SignReal", spec := "signReal", unfollowed := true, recurses := true, apart := false, narrowed := true }
def SignRealUptoSaid : Prop := signRealUptoRow.holds Tryz.pinned (OpenSpec.upto signRealSpec)

/-- 'setsquarelaw07.SignEnclose', WHERE WHAT IT READS IS OF BULK AT MOST 1048576: true; the input reads as it did. -/
def signEncloseUptoRow : OpenClaim := { program := "ytklnoajdhknfnaagreat", sum := "3c33e60ce917ed7fde22a065fc913f9b680673d783fd9f69c8d85786a24dec4f", func := "setsquare/setsquarelaw07.SignEnclose", spec := "signEnclose", unfollowed := true, recurses := true, apart := false, narrowed := true }
def SignEncloseUptoSaid : Prop := signEncloseUptoRow.holds Tryz.pinned (OpenSpec.upto signEncloseSpec)

/-- 'setsquarelaw07.SignFloor', WHERE WHAT IT READS IS OF BULK AT MOST 1048576: true; the input reads as it did. -/
def signFloorUptoRow : OpenClaim := { program := "ytklnoajdhknfnaagreat", sum := "3c33e60ce917ed7fde22a065fc913f9b680673d783fd9f69c8d85786a24dec4f", func := "setsquare/setsquarelaw07.SignFloor", spec := "signFloor", unfollowed := true, recurses := true, apart := false, narrowed := true }
def SignFloorUptoSaid : Prop := signFloorUptoRow.holds Tryz.pinned (OpenSpec.upto signFloorSpec)

/-- 'setsquarelaw07.SignProduct', WHERE WHAT IT READS IS OF BULK AT MOST 1048576: true; the input reads as it did. -/
def signProductUptoRow : OpenClaim := { program := "ytklnoajdhknfnaagreat", sum := "3c33e60ce917ed7fde22a065fc913f9b680673d783fd9f69c8d85786a24dec4f", func := "setsquare/setsquarelaw07.SignProduct", spec := "signProduct", unfollowed := true, recurses := true, apart := false, narrowed := true }
def SignProductUptoSaid : Prop := signProductUptoRow.holds Tryz.pinned (OpenSpec.upto signProductSpec)

/-- 'setsquarelaw07.SignSum', WHERE WHAT IT READS IS OF BULK AT MOST 1048576: true; the input reads as it did. -/
def signSumUptoRow : OpenClaim := { program := "ytklnoajdhknfnaagreat", sum := "3c33e60ce917ed7fde22a065fc913f9b680673d783fd9f69c8d85786a24dec4f", func := "setsquare/setsquarelaw07.SignSum", spec := "signSum", unfollowed := true, recurses := true, apart := false, narrowed := true }
def SignSumUptoSaid : Prop := signSumUptoRow.holds Tryz.pinned (OpenSpec.upto signSumSpec)

/-- 'setsquarelaw07.SignUnreduced', WHERE WHAT IT READS IS OF BULK AT MOST 1048576: true; the input reads as it did. -/
def signUnreducedUptoRow : OpenClaim := { program := "ytklnoajdhknfnaagreat", sum := "3c33e60ce917ed7fde22a065fc913f9b680673d783fd9f69c8d85786a24dec4f", func := "setsquare/setsquarelaw07.SignUnreduced", spec := "signUnreduced", unfollowed := true, recurses := true, apart := false, narrowed := true }
def SignUnreducedUptoSaid : Prop := signUnreducedUptoRow.holds Tryz.pinned (OpenSpec.upto signUnreducedSpec)

/-- 'setsquarelaw07.SignLift', WHERE WHAT IT READS IS OF BULK AT MOST 1048576: true; the input reads as it did. -/
def signLiftUptoRow : OpenClaim := { program := "ytklnoajdhknfnaagreat", sum := "3c33e60ce917ed7fde22a065fc913f9b680673d783fd9f69c8d85786a24dec4f", func := "setsquare/setsquarelaw07.SignLift", spec := "signLift", unfollowed := true, recurses := true, apart := false, narrowed := true }
def SignLiftUptoSaid : Prop := signLiftUptoRow.holds Tryz.pinned (OpenSpec.upto signLiftSpec)

/-- 'setsquarelaw07.SignSign', WHERE WHAT IT READS IS OF BULK AT MOST 1048576: true; the input reads as it did. -/
def signSignUptoRow : OpenClaim := { program := "ytklnoajdhknfnaagreat", sum := "3c33e60ce917ed7fde22a065fc913f9b680673d783fd9f69c8d85786a24dec4f", func := "setsquare/setsquarelaw07.SignSign", spec := "signSign", unfollowed := true, recurses := true, apart := false, narrowed := true }
def SignSignUptoSaid : Prop := signSignUptoRow.holds Tryz.pinned (OpenSpec.upto signSignSpec)

end Rows
end Go.Proofs.YtklnoajdhknfnaaGreat
