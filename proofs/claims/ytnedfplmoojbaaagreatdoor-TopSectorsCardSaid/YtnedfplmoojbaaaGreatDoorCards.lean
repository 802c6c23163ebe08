/-
  DERIVED. GIVEN WITH THE SEED: THE CARDS: each row of YtnedfplmoojbaaaGreatDoorRows.lean that lists a variable, with what it lists TIED to the program's text (the seventh form; the later family's looks); each row that meets fmt, with fmt's text TOLD by the authors' own Lean function (tested against real Go, not proved from fmt's source: count such statements apart). THE CARD IS WHAT COUNTS. Prove the row's statement (the work); the ties are given (YtnedfplmoojbaaaGreatDoorTie.lean); close each card by the builder's one call (the guide's Derived/Test/ToyasCard.lean, 'card_holds'). Laid BY PROGRAM, IN A SANDBOX (cutbox-door.mjs). By AI agents, Wed Nov 11 2026. No macro, syntax, notation, axiom, sorry.
-/
import Derived.Test.YtnedfplmoojbaaaGreatDoorRows
import GoSem.ClaimSeven
namespace Go.Proofs.YtnedfplmoojbaaaGreatDoor
namespace Rows

/-- THE TIED CARD OF 'setsquaretop.TopSectors'. -/
def topSectorsCard : Claim7 := { stood := { row := topSectorsRow, standIns := [], harness := (true, "9a1fa8e95941344d9e5c5550881450f9d2747623729e332677a3d6db2ba3bbaf"), looks := false }, kinds := [], alts := [], laidByText := true, laidKinds := [.data, .data, .data], laidTests := true, laidLooks := .later }
def TopSectorsCardSaid : Prop := Claim7.holds Tryz.pinned (.plain (OpenSpec.ofChange topSectorsSpec)) topSectorsCard

/-- THE SECOND FORM's CARD OF 'setsquaretop.TopSectors'. -/
def topSectorsUptoCard : Claim7 := { stood := { row := topSectorsUptoRow, standIns := [], harness := (true, "9a1fa8e95941344d9e5c5550881450f9d2747623729e332677a3d6db2ba3bbaf"), looks := false }, kinds := [], alts := [], laidByText := true, laidKinds := [.data, .data, .data], laidTests := true, laidLooks := .later }
def TopSectorsUptoCardSaid : Prop := Claim7.holds Tryz.pinned (.plain (OpenSpec.upto topSectorsSpec)) topSectorsUptoCard
end Rows
end Go.Proofs.YtnedfplmoojbaaaGreatDoor
