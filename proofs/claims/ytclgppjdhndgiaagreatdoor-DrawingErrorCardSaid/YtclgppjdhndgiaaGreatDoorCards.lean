/-
  DERIVED. GIVEN WITH THE SEED: THE CARDS: each row of YtclgppjdhndgiaaGreatDoorRows.lean that lists a variable, with what it lists TIED to the program's text (the seventh form; the later family's looks); each row that meets fmt, with fmt's text TOLD by the authors' own Lean function (tested against real Go, not proved from fmt's source: count such statements apart). THE CARD IS WHAT COUNTS. Prove the row's statement (the work); the ties are given (YtclgppjdhndgiaaGreatDoorTie.lean); close each card by the builder's one call (the guide's Derived/Test/ToyasCard.lean, 'card_holds'). Laid BY PROGRAM, IN A SANDBOX (cutbox-door.mjs). By AI agents, Wed Nov 11 2026. No macro, syntax, notation, axiom, sorry.
-/
import Derived.Test.YtclgppjdhndgiaaGreatDoorRows
import GoSem.ClaimSeven
namespace Go.Proofs.YtclgppjdhndgiaaGreatDoor
namespace Rows

/-- THE TIED CARD OF 'setsquarelaw55.DrawingError'. -/
def drawingErrorCard : Claim7 := { stood := { row := drawingErrorRow, standIns := [], harness := (true, "9081024164b68200b8f6590a3abec48454d33bdf6f8486e33513de0a0cc5e6aa"), looks := false }, kinds := [], alts := [], laidByText := true, laidKinds := [.data, .data, .data, .data, .pinned], laidTests := true, laidLooks := .later }
def DrawingErrorCardSaid : Prop := Claim7.holds Tryz.pinned (.plain (OpenSpec.ofChange drawingErrorSpec)) drawingErrorCard

/-- THE SECOND FORM's CARD OF 'setsquarelaw55.DrawingError'. -/
def drawingErrorUptoCard : Claim7 := { stood := { row := drawingErrorUptoRow, standIns := [], harness := (true, "9081024164b68200b8f6590a3abec48454d33bdf6f8486e33513de0a0cc5e6aa"), looks := false }, kinds := [], alts := [], laidByText := true, laidKinds := [.data, .data, .data, .data, .pinned], laidTests := true, laidLooks := .later }
def DrawingErrorUptoCardSaid : Prop := Claim7.holds Tryz.pinned (.plain (OpenSpec.upto drawingErrorSpec)) drawingErrorUptoCard
end Rows
end Go.Proofs.YtclgppjdhndgiaaGreatDoor
