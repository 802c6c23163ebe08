/-
  DERIVED. GIVEN WITH THE SEED: THE CARDS: each row of YtooijpgmbncgbaaGreatDoorRows.lean that lists a variable, with what it lists TIED to the program's text (the seventh form; the later family's looks); each row that meets fmt, with fmt's text TOLD by the authors' own Lean function (tested against real Go, not proved from fmt's source: count such statements apart). THE CARD IS WHAT COUNTS. Prove the row's statement (the work); the ties are given (YtooijpgmbncgbaaGreatDoorTie.lean); close each card by the builder's one call (the guide's Derived/Test/ToyasCard.lean, 'card_holds'). Laid BY PROGRAM, IN A SANDBOX (cutbox-door.mjs). By AI agents, Wed Nov 11 2026. No macro, syntax, notation, axiom, sorry.
-/
import Derived.Test.YtooijpgmbncgbaaGreatDoorRows
import GoSem.ClaimSeven
namespace Go.Proofs.YtooijpgmbncgbaaGreatDoor
namespace Rows

/-- THE TIED CARD OF 'setsquarelaw55.DrawingRounding'. -/
def drawingRoundingCard : Claim7 := { stood := { row := drawingRoundingRow, standIns := [], harness := (true, "c69e3875ccee0330a9b29066f5d6c7ae0222b0238a9dc49cd82420d1b4641fa8"), looks := false }, kinds := [], alts := [], laidByText := true, laidKinds := [.data, .data, .data, .data, .pinned], laidTests := true, laidLooks := .later }
def DrawingRoundingCardSaid : Prop := Claim7.holds Tryz.pinned (.plain (OpenSpec.ofChange drawingRoundingSpec)) drawingRoundingCard

/-- THE SECOND FORM's CARD OF 'setsquarelaw55.DrawingRounding'. -/
def drawingRoundingUptoCard : Claim7 := { stood := { row := drawingRoundingUptoRow, standIns := [], harness := (true, "c69e3875ccee0330a9b29066f5d6c7ae0222b0238a9dc49cd82420d1b4641fa8"), looks := false }, kinds := [], alts := [], laidByText := true, laidKinds := [.data, .data, .data, .data, .pinned], laidTests := true, laidLooks := .later }
def DrawingRoundingUptoCardSaid : Prop := Claim7.holds Tryz.pinned (.plain (OpenSpec.upto drawingRoundingSpec)) drawingRoundingUptoCard
end Rows
end Go.Proofs.YtooijpgmbncgbaaGreatDoor
