/-
  DERIVED. GIVEN WITH THE SEED: THE CARDS: each row of YtegepebhkhhhoaaGreatDoorRows.lean that lists a variable, with what it lists TIED to the program's text (the seventh form; the later family's looks); each row that meets fmt, with fmt's text TOLD by the authors' own Lean function (tested against real Go, not proved from fmt's source: count such statements apart). THE CARD IS WHAT COUNTS. Prove the row's statement (the work); the ties are given (YtegepebhkhhhoaaGreatDoorTie.lean); close each card by the builder's one call (the guide's Derived/Test/ToyasCard.lean, 'card_holds'). Laid BY PROGRAM, IN A SANDBOX (cutbox-door.mjs). By AI agents, Wed Nov 11 2026. No macro, syntax, notation, axiom, sorry.
-/
import Derived.Test.YtegepebhkhhhoaaGreatDoorRows
import GoSem.ClaimSeven
namespace Go.Proofs.YtegepebhkhhhoaaGreatDoor
namespace Rows

/-- THE TIED CARD OF 'setsquarelaw20.AreaTimes'. -/
def areaTimesCard : Claim7 := { stood := { row := areaTimesRow, standIns := [], harness := (true, "af23fa84c81abf05df532f69f57ccd52a3892d6d0dbd46fb85b92acec57541d6"), looks := false }, kinds := [], alts := [], laidByText := true, laidKinds := [.data, .data, .data], laidTests := true, laidLooks := .later }
def AreaTimesCardSaid : Prop := Claim7.holds Tryz.pinned (.plain (OpenSpec.ofChange areaTimesSpec)) areaTimesCard

/-- THE SECOND FORM's CARD OF 'setsquarelaw20.AreaTimes'. -/
def areaTimesUptoCard : Claim7 := { stood := { row := areaTimesUptoRow, standIns := [], harness := (true, "af23fa84c81abf05df532f69f57ccd52a3892d6d0dbd46fb85b92acec57541d6"), looks := false }, kinds := [], alts := [], laidByText := true, laidKinds := [.data, .data, .data], laidTests := true, laidLooks := .later }
def AreaTimesUptoCardSaid : Prop := Claim7.holds Tryz.pinned (.plain (OpenSpec.upto areaTimesSpec)) areaTimesUptoCard
end Rows
end Go.Proofs.YtegepebhkhhhoaaGreatDoor
