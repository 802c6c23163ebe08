/-
  DERIVED. GIVEN WITH THE SEED: THE CARDS: each row of YtchflpokfamkhaaGreatDoorRows.lean that lists a variable, with what it lists TIED to the program's text (the seventh form; the later family's looks); each row that meets fmt, with fmt's text TOLD by the authors' own Lean function (tested against real Go, not proved from fmt's source: count such statements apart). THE CARD IS WHAT COUNTS. Prove the row's statement (the work); the ties are given (YtchflpokfamkhaaGreatDoorTie.lean); close each card by the builder's one call (the guide's Derived/Test/ToyasCard.lean, 'card_holds'). Laid BY PROGRAM, IN A SANDBOX (cutbox-door.mjs). By AI agents, Wed Nov 11 2026. No macro, syntax, notation, axiom, sorry.
-/
import Derived.Test.YtchflpokfamkhaaGreatDoorRows
import GoSem.ClaimSeven
namespace Go.Proofs.YtchflpokfamkhaaGreatDoor
namespace Rows

/-- THE TIED CARD OF 'setsquarelaw55.DrawingContains'. -/
def drawingContainsCard : Claim7 := { stood := { row := drawingContainsRow, standIns := [], harness := (true, "917cb4ad71a9908389cc1b8a1d5666aadb8aa386a091b1b295e2b13b8d20d97f"), looks := false }, kinds := [], alts := [], laidByText := true, laidKinds := [.data, .data, .data], laidTests := true, laidLooks := .later }
def DrawingContainsCardSaid : Prop := Claim7.holds Tryz.pinned (.plain (OpenSpec.ofChange drawingContainsSpec)) drawingContainsCard

/-- THE SECOND FORM's CARD OF 'setsquarelaw55.DrawingContains'. -/
def drawingContainsUptoCard : Claim7 := { stood := { row := drawingContainsUptoRow, standIns := [], harness := (true, "917cb4ad71a9908389cc1b8a1d5666aadb8aa386a091b1b295e2b13b8d20d97f"), looks := false }, kinds := [], alts := [], laidByText := true, laidKinds := [.data, .data, .data], laidTests := true, laidLooks := .later }
def DrawingContainsUptoCardSaid : Prop := Claim7.holds Tryz.pinned (.plain (OpenSpec.upto drawingContainsSpec)) drawingContainsUptoCard
end Rows
end Go.Proofs.YtchflpokfamkhaaGreatDoor
