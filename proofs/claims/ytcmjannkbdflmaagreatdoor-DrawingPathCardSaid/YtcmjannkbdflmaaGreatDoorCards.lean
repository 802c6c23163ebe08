/-
  DERIVED. GIVEN WITH THE SEED: THE CARDS: each row of YtcmjannkbdflmaaGreatDoorRows.lean that lists a variable, with what it lists TIED to the program's text (the seventh form; the later family's looks); each row that meets fmt, with fmt's text TOLD by the authors' own Lean function (tested against real Go, not proved from fmt's source: count such statements apart). THE CARD IS WHAT COUNTS. Prove the row's statement (the work); the ties are given (YtcmjannkbdflmaaGreatDoorTie.lean); close each card by the builder's one call (the guide's Derived/Test/ToyasCard.lean, 'card_holds'). Laid BY PROGRAM, IN A SANDBOX (cutbox-door.mjs). By AI agents, Wed Nov 11 2026. No macro, syntax, notation, axiom, sorry.
-/
import Derived.Test.YtcmjannkbdflmaaGreatDoorRows
import GoSem.ClaimSeven
namespace Go.Proofs.YtcmjannkbdflmaaGreatDoor
namespace Rows

/-- THE TIED CARD OF 'setsquarelaw55.DrawingPath'. -/
def drawingPathCard : Claim7 := { stood := { row := drawingPathRow, standIns := [], harness := (true, "dd9607a5b4a3660ffb36955f6d7890d9234198565e4fdac1388ee19f4e3f526c"), looks := false }, kinds := [], alts := [], laidByText := true, laidKinds := [.data, .data, .data, .data, .pinned], laidTests := true, laidLooks := .later }
def DrawingPathCardSaid : Prop := Claim7.holds Tryz.pinned (.plain (OpenSpec.ofChange drawingPathSpec)) drawingPathCard

/-- THE SECOND FORM's CARD OF 'setsquarelaw55.DrawingPath'. -/
def drawingPathUptoCard : Claim7 := { stood := { row := drawingPathUptoRow, standIns := [], harness := (true, "dd9607a5b4a3660ffb36955f6d7890d9234198565e4fdac1388ee19f4e3f526c"), looks := false }, kinds := [], alts := [], laidByText := true, laidKinds := [.data, .data, .data, .data, .pinned], laidTests := true, laidLooks := .later }
def DrawingPathUptoCardSaid : Prop := Claim7.holds Tryz.pinned (.plain (OpenSpec.upto drawingPathSpec)) drawingPathUptoCard
end Rows
end Go.Proofs.YtcmjannkbdflmaaGreatDoor
