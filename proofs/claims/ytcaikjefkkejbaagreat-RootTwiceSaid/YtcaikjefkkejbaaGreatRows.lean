/-
  No cell of these rows narrows 'for every input' (looked for: loops, veiled, ifaces, maps, wideKeys, modest, calm, conditions, laid).
  DERIVED. THE GIVEN ROWS OF THIS SEAT. 8 by the template 'for every input the law returns true; each argument reads behind the call as it read before'; 0 by the template 'total and deterministic' (their statements: YtcaikjefkkejbaaGreatTotals.lean).
  GIVEN WITH THE SEED: the statements are not yours to turn. If you find one false, say at which input.
  Laid BY PROGRAM, IN A SANDBOX (cutbox-rows.mjs): the forced cells as the released guide's own fill.sh prints them over the translation 4367027f1658a222… (all of the seat's roots in one cut). By AI agents, Wed Nov 11 2026. No macro, syntax, notation, axiom, sorry.
-/
import Derived.Test.YtcaikjefkkejbaaGreatChecked
import GoSem.Claim
import GoSem.ClaimJoined
import GoSem.ClaimMapViews
import Derived.JoinedTies
import Derived.KernelRfl
namespace Go.Proofs.YtcaikjefkkejbaaGreat
/- THE CELL 'sum', in the pinned program and in every row, IS THE sha256 OF THE DUMP (.gsa) THAT YtcaikjefkkejbaaGreatProg.lean LOADS. Nothing in Lean hashes anything: it is a label: what it is worth is what the hold of that sum in a sandbox is worth. -/
noncomputable def Tryz.pinned : Pinned := { name := "ytcaikjefkkejbaagreat", sum := "4367027f1658a222a1923f5892f5471193fb28394de6124adb766adae3ba1159", checked := Tryz.checked }
namespace Rows
def none {H : Type} : Left H := { results := [], args := [] }

/-- 'setsquarelaw08.RootSquare': WHATEVER THE INPUT: true; the input reads as it did. -/
def rootSquareSpec : ChangeSpec := { name := "rootSquare", fn := fun _ => fun
  | [d1, d2] => { results := [.lit (.bool true)], args := [d1, d2] }
  | _ => none }
def rootSquareRow : OpenClaim := { program := "ytcaikjefkkejbaagreat", sum := "4367027f1658a222a1923f5892f5471193fb28394de6124adb766adae3ba1159", func := "setsquare/setsquarelaw08.RootSquare", spec := "rootSquare", unfollowed := true, recurses := true, apart := false }
def RootSquareSaid : Prop := rootSquareRow.holds Tryz.pinned (OpenSpec.ofChange rootSquareSpec)

/-- ITS FALSE NEIGHBOUR: 'it returns false'. Refute it at one input. -/
def rootSquareWrong : ChangeSpec := { name := "rootSquare", fn := fun _ => fun
  | [d1, d2] => { results := [.lit (.bool false)], args := [d1, d2] }
  | _ => none }
def RootSquareWrongFalsely : Prop := rootSquareRow.holds Tryz.pinned (OpenSpec.ofChange rootSquareWrong)

/-- 'setsquarelaw08.RootOfSquare': WHATEVER THE INPUT: true; the input reads as it did. -/
def rootOfSquareSpec : ChangeSpec := { name := "rootOfSquare", fn := fun _ => fun
  | [d1, d2] => { results := [.lit (.bool true)], args := [d1, d2] }
  | _ => none }
def rootOfSquareRow : OpenClaim := { program := "ytcaikjefkkejbaagreat", sum := "4367027f1658a222a1923f5892f5471193fb28394de6124adb766adae3ba1159", func := "setsquare/setsquarelaw08.RootOfSquare", spec := "rootOfSquare", unfollowed := true, recurses := true, apart := false }
def RootOfSquareSaid : Prop := rootOfSquareRow.holds Tryz.pinned (OpenSpec.ofChange rootOfSquareSpec)

/-- ITS FALSE NEIGHBOUR: 'it returns false'. Refute it at one input. -/
def rootOfSquareWrong : ChangeSpec := { name := "rootOfSquare", fn := fun _ => fun
  | [d1, d2] => { results := [.lit (.bool false)], args := [d1, d2] }
  | _ => none }
def RootOfSquareWrongFalsely : Prop := rootOfSquareRow.holds Tryz.pinned (OpenSpec.ofChange rootOfSquareWrong)

/-- 'setsquarelaw08.RootReduced': WHATEVER THE INPUT: true; the input reads as it did. -/
def rootReducedSpec : ChangeSpec := { name := "rootReduced", fn := fun _ => fun
  | [d] => { results := [.lit (.bool true)], args := [d] }
  | _ => none }
def rootReducedRow : OpenClaim := { program := "ytcaikjefkkejbaagreat", sum := "4367027f1658a222a1923f5892f5471193fb28394de6124adb766adae3ba1159", func := "setsquare/setsquarelaw08.RootReduced", spec := "rootReduced", unfollowed := true, recurses := true, apart := false }
def RootReducedSaid : Prop := rootReducedRow.holds Tryz.pinned (OpenSpec.ofChange rootReducedSpec)

/-- ITS FALSE NEIGHBOUR: 'it returns false'. Refute it at one input. -/
def rootReducedWrong : ChangeSpec := { name := "rootReduced", fn := fun _ => fun
  | [d] => { results := [.lit (.bool false)], args := [d] }
  | _ => none }
def RootReducedWrongFalsely : Prop := rootReducedRow.holds Tryz.pinned (OpenSpec.ofChange rootReducedWrong)

/-- 'setsquarelaw08.RootProducts': WHATEVER THE INPUT: true; the input reads as it did. -/
def rootProductsSpec : ChangeSpec := { name := "rootProducts", fn := fun _ => fun
  | [d1, d2, d3] => { results := [.lit (.bool true)], args := [d1, d2, d3] }
  | _ => none }
def rootProductsRow : OpenClaim := { program := "ytcaikjefkkejbaagreat", sum := "4367027f1658a222a1923f5892f5471193fb28394de6124adb766adae3ba1159", func := "setsquare/setsquarelaw08.RootProducts", spec := "rootProducts", unfollowed := true, recurses := true, apart := false }
def RootProductsSaid : Prop := rootProductsRow.holds Tryz.pinned (OpenSpec.ofChange rootProductsSpec)

/-- ITS FALSE NEIGHBOUR: 'it returns false'. Refute it at one input. -/
def rootProductsWrong : ChangeSpec := { name := "rootProducts", fn := fun _ => fun
  | [d1, d2, d3] => { results := [.lit (.bool false)], args := [d1, d2, d3] }
  | _ => none }
def RootProductsWrongFalsely : Prop := rootProductsRow.holds Tryz.pinned (OpenSpec.ofChange rootProductsWrong)

/-- 'setsquarelaw08.RootNorm': WHATEVER THE INPUT: true; the input reads as it did. -/
def rootNormSpec : ChangeSpec := { name := "rootNorm", fn := fun _ => fun
  | [d1, d2] => { results := [.lit (.bool true)], args := [d1, d2] }
  | _ => none }
def rootNormRow : OpenClaim := { program := "ytcaikjefkkejbaagreat", sum := "4367027f1658a222a1923f5892f5471193fb28394de6124adb766adae3ba1159", func := "setsquare/setsquarelaw08.RootNorm", spec := "rootNorm", unfollowed := true, recurses := true, apart := false }
def RootNormSaid : Prop := rootNormRow.holds Tryz.pinned (OpenSpec.ofChange rootNormSpec)

/-- ITS FALSE NEIGHBOUR: 'it returns false'. Refute it at one input. -/
def rootNormWrong : ChangeSpec := { name := "rootNorm", fn := fun _ => fun
  | [d1, d2] => { results := [.lit (.bool false)], args := [d1, d2] }
  | _ => none }
def RootNormWrongFalsely : Prop := rootNormRow.holds Tryz.pinned (OpenSpec.ofChange rootNormWrong)

/-- 'setsquarelaw08.RootLift': WHATEVER THE INPUT: true; the input reads as it did. -/
def rootLiftSpec : ChangeSpec := { name := "rootLift", fn := fun _ => fun
  | [d1, d2, d3] => { results := [.lit (.bool true)], args := [d1, d2, d3] }
  | _ => none }
def rootLiftRow : OpenClaim := { program := "ytcaikjefkkejbaagreat", sum := "4367027f1658a222a1923f5892f5471193fb28394de6124adb766adae3ba1159", func := "setsquare/setsquarelaw08.RootLift", spec := "rootLift", unfollowed := true, recurses := true, apart := false }
def RootLiftSaid : Prop := rootLiftRow.holds Tryz.pinned (OpenSpec.ofChange rootLiftSpec)

/-- ITS FALSE NEIGHBOUR: 'it returns false'. Refute it at one input. -/
def rootLiftWrong : ChangeSpec := { name := "rootLift", fn := fun _ => fun
  | [d1, d2, d3] => { results := [.lit (.bool false)], args := [d1, d2, d3] }
  | _ => none }
def RootLiftWrongFalsely : Prop := rootLiftRow.holds Tryz.pinned (OpenSpec.ofChange rootLiftWrong)

/-- 'setsquarelaw08.RootTwice': WHATEVER THE INPUT: true; the input reads as it did. -/
def rootTwiceSpec : ChangeSpec := { name := "rootTwice", fn := fun _ => fun
  | [d1, d2, d3] => { results := [.lit (.bool true)], args := [d1, d2, d3] }
  | _ => none }
def rootTwiceRow : OpenClaim := { program := "ytcaikjefkkejbaagreat", sum := "4367027f1658a222a1923f5892f5471193fb28394de6124adb766adae3ba1159", func := "setsquare/setsquarelaw08.RootTwice", spec := "rootTwice", unfollowed := true, recurses := true, apart := false }
def RootTwiceSaid : Prop := rootTwiceRow.holds Tryz.pinned (OpenSpec.ofChange rootTwiceSpec)

/-- ITS FALSE NEIGHBOUR: 'it returns false'. Refute it at one input. -/
def rootTwiceWrong : ChangeSpec := { name := "rootTwice", fn := fun _ => fun
  | [d1, d2, d3] => { results := [.lit (.bool false)], args := [d1, d2, d3] }
  | _ => none }
def RootTwiceWrongFalsely : Prop := rootTwiceRow.holds Tryz.pinned (OpenSpec.ofChange rootTwiceWrong)

/-- 'setsquarelaw08.RootAdjoin': WHATEVER THE INPUT: true; the input reads as it did. -/
def rootAdjoinSpec : ChangeSpec := { name := "rootAdjoin", fn := fun _ => fun
  | [d1, d2] => { results := [.lit (.bool true)], args := [d1, d2] }
  | _ => none }
def rootAdjoinRow : OpenClaim := { program := "ytcaikjefkkejbaagreat", sum := "4367027f1658a222a1923f5892f5471193fb28394de6124adb766adae3ba1159", func := "setsquare/setsquarelaw08.RootAdjoin", spec := "rootAdjoin", unfollowed := true, recurses := true, apart := false }
def RootAdjoinSaid : Prop := rootAdjoinRow.holds Tryz.pinned (OpenSpec.ofChange rootAdjoinSpec)

/-- ITS FALSE NEIGHBOUR: 'it returns false'. Refute it at one input. -/
def rootAdjoinWrong : ChangeSpec := { name := "rootAdjoin", fn := fun _ => fun
  | [d1, d2] => { results := [.lit (.bool false)], args := [d1, d2] }
  | _ => none }
def RootAdjoinWrongFalsely : Prop := rootAdjoinRow.holds Tryz.pinned (OpenSpec.ofChange rootAdjoinWrong)

/- THE SECOND FORM. 'bulk': how many values and letters a reading holds, each counted each time it is reached (what is shared counts as often as it is met; a slice's spare places count too). A statement '..UptoSaid' is the law's where the arguments, and the package variables that the reading takes, are together of bulk at most 1048576: NARROWER than '..Said'. Prove '..Said' where nothing that the law and all that it calls make is longer than what came in: it says more and counts as full. Else prove '..UptoSaid'. A law counts once. -/
mutual
def uptoBulk {H : Type} : DataW H → Nat
  | .lit (.string bytes) => bytes.length + 1
  | .lit _ => 1
  | .nil => 1
  | .ptr d => uptoBulk d + 1
  | .slice elems spare => uptoBulkAll elems + uptoBulkAll spare + 1
  | .agg parts => uptoBulkAll parts + 1
  | .iface _ d => uptoBulk d + 1
  | .map entries => uptoBulkEntries entries + 1
  | .held _ => 1
def uptoBulkAll {H : Type} : List (DataW H) → Nat
  | [] => 0
  | d :: r => uptoBulk d + uptoBulkAll r
def uptoBulkEntries {H : Type} : List (Lit × DataW H) → Nat
  | [] => 0
  | x :: r => uptoBulkEntry x + uptoBulkEntries r
def uptoBulkEntry {H : Type} : Lit × DataW H → Nat
  | (.string bytes, d) => bytes.length + uptoBulk d + 1
  | (_, d) => uptoBulk d + 1
 end
def uptoSmall : (H : Type) → List (DataW H) → Bool := fun _ ds => decide (uptoBulkAll ds ≤ 1048576)
def OpenSpec.upto (s : _root_.Go.ChangeSpec) : _root_.Go.OpenSpec := { _root_.Go.OpenSpec.ofChange s with cond := some uptoSmall }

/-- 'setsquarelaw08.RootSquare', WHERE WHAT IT READS IS OF BULK AT MOST 1048576: true; the input reads as it did. -/
def rootSquareUptoRow : OpenClaim := { program := "ytcaikjefkkejbaagreat", sum := "4367027f1658a222a1923f5892f5471193fb28394de6124adb766adae3ba1159", func := "setsquare/setsquarelaw08.RootSquare", spec := "rootSquare", unfollowed := true, recurses := true, apart := false, narrowed := true }
def RootSquareUptoSaid : Prop := rootSquareUptoRow.holds Tryz.pinned (OpenSpec.upto rootSquareSpec)

/-- 'setsquarelaw08.RootOfSquare', WHERE WHAT IT READS IS OF BULK AT MOST 1048576: true; the input reads as it did. -/
def rootOfSquareUptoRow : OpenClaim := { program := "ytcaikjefkkejbaagreat", sum := "4367027f1658a222a1923f5892f5471193fb28394de6124adb766adae3ba1159", func := "setsquare/setsquarelaw08.RootOfSquare", spec := "rootOfSquare", unfollowed := true, recurses := true, apart := false, narrowed := true }
def RootOfSquareUptoSaid : Prop := rootOfSquareUptoRow.holds Tryz.pinned (OpenSpec.upto rootOfSquareSpec)

/-- 'setsquarelaw08.RootReduced', WHERE WHAT IT READS IS OF BULK AT MOST 1048576: true; the input reads as it did. -/
def rootReducedUptoRow : OpenClaim := { program := "ytcaikjefkkejbaagreat", sum := "4367027f1658a222a1923f5892f5471193fb28394de6124adb766adae3ba1159", func := "setsquare/setsquarelaw08.RootReduced", spec := "rootReduced", unfollowed := true, recurses := true, apart := false, narrowed := true }
def RootReducedUptoSaid : Prop := rootReducedUptoRow.holds Tryz.pinned (OpenSpec.upto rootReducedSpec)

/-- 'setsquarelaw08.RootProducts', WHERE WHAT IT READS IS OF BULK AT MOST 1048576: true; the input reads as it did. -/
def rootProductsUptoRow : OpenClaim := { program := "ytcaikjefkkejbaagreat", sum := "4367027f1658a222a1923f5892f5471193fb28394de6124adb766adae3ba1159", func := "setsquare/setsquarelaw08.RootProducts", spec := "rootProducts", unfollowed := true, recurses := true, apart := false, narrowed := true }
def RootProductsUptoSaid : Prop := rootProductsUptoRow.holds Tryz.pinned (OpenSpec.upto rootProductsSpec)

/-- 'setsquarelaw08.RootNorm', WHERE WHAT IT READS IS OF BULK AT MOST 1048576: true; the input reads as it did. -/
def rootNormUptoRow : OpenClaim := { program := "ytcaikjefkkejbaagreat", sum := "4367027f1658a222a1923f5892f5471193fb28394de6124adb766adae3ba1159", func := "setsquare/setsquarelaw08.RootNorm", spec := "rootNorm", unfollowed := true, recurses := true, apart := false, narrowed := true }
def RootNormUptoSaid : Prop := rootNormUptoRow.holds Tryz.pinned (OpenSpec.upto rootNormSpec)

/-- 'setsquarelaw08.RootLift', WHERE WHAT IT READS IS OF BULK AT MOST 1048576: true; the input reads as it did. -/
def rootLiftUptoRow : OpenClaim := { program := "ytcaikjefkkejbaagreat", sum := "4367027f1658a222a1923f5892f5471193fb28394de6124adb766adae3ba1159", func := "setsquare/setsquarelaw08.RootLift", spec := "rootLift", unfollowed := true, recurses := true, apart := false, narrowed := true }
def RootLiftUptoSaid : Prop := rootLiftUptoRow.holds Tryz.pinned (OpenSpec.upto rootLiftSpec)

/-- 'setsquarelaw08.RootTwice', WHERE WHAT IT READS IS OF BULK AT MOST 1048576: true; the input reads as it did. -/
def rootTwiceUptoRow : OpenClaim := { program := "ytcaikjefkkejbaagreat", sum := "4367027f1658a222a1923f5892f5471193fb28394de6124adb766adae3ba1159", func := "setsquare/setsquarelaw08.RootTwice", spec := "rootTwice", unfollowed := true, recurses := true, apart := false, narrowed := true }
def RootTwiceUptoSaid : Prop := rootTwiceUptoRow.holds Tryz.pinned (OpenSpec.upto rootTwiceSpec)

/-- 'setsquarelaw08.RootAdjoin', WHERE WHAT IT READS IS OF BULK AT MOST 1048576: true; the input reads as it did. -/
def rootAdjoinUptoRow : OpenClaim := { program := "ytcaikjefkkejbaagreat", sum := "4367027f1658a222a1923f5892f5471193fb28394de6124adb766adae3ba1159", func := "setsquare/setsquarelaw08.RootAdjoin", spec := "rootAdjoin", unfollowed := true, recurses := true, apart := false, narrowed := true }
def RootAdjoinUptoSaid : Prop := rootAdjoinUptoRow.holds Tryz.pinned (OpenSpec.upto rootAdjoinSpec)

end Rows
end Go.Proofs.YtcaikjefkkejbaaGreat
