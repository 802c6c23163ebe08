/-
  DERIVED. GIVEN WITH THE SEED: THE CARDS: each row of YtdlhdemfnfpboaaGreatDoorRows.lean that lists a variable, with what it lists TIED to the program's text (the seventh form; the later family's looks); each row that meets fmt, with fmt's text TOLD by the authors' own Lean function (tested against real Go, not proved from fmt's source: count such statements apart). THE CARD IS WHAT COUNTS. Prove the row's statement (the work); the ties are given (YtdlhdemfnfpboaaGreatDoorTie.lean); close each card by the builder's one call (the guide's Derived/Test/ToyasCard.lean, 'card_holds'). Laid BY PROGRAM, IN A SANDBOX (cutbox-door.mjs). By AI agents, Wed Nov 11 2026. No macro, syntax, notation, axiom, sorry.
-/
import Derived.Test.YtdlhdemfnfpboaaGreatDoorRows
import GoSem.ClaimSeven
namespace Go.Proofs.YtdlhdemfnfpboaaGreatDoor
namespace Rows

/-- THE TIED CARD OF 'setsquarelaw55.DrawingPoints'. -/
def drawingPointsCard : Claim7 := { stood := { row := drawingPointsRow, standIns := [], harness := (true, "60bbbf6cff7e58cdb0ee093ab9b9112d2024d5c0e481b73bd894a8661ee4b27c"), looks := false }, kinds := [], alts := [], laidByText := true, laidKinds := [.data, .data, .data, .data, .pinned], laidTests := true, laidLooks := .later }
def DrawingPointsCardSaid : Prop := Claim7.holds Tryz.pinned (.plain (OpenSpec.ofChange drawingPointsSpec)) drawingPointsCard

/-- THE SECOND FORM's CARD OF 'setsquarelaw55.DrawingPoints'. -/
def drawingPointsUptoCard : Claim7 := { stood := { row := drawingPointsUptoRow, standIns := [], harness := (true, "60bbbf6cff7e58cdb0ee093ab9b9112d2024d5c0e481b73bd894a8661ee4b27c"), looks := false }, kinds := [], alts := [], laidByText := true, laidKinds := [.data, .data, .data, .data, .pinned], laidTests := true, laidLooks := .later }
def DrawingPointsUptoCardSaid : Prop := Claim7.holds Tryz.pinned (.plain (OpenSpec.upto drawingPointsSpec)) drawingPointsUptoCard
end Rows
end Go.Proofs.YtdlhdemfnfpboaaGreatDoor
