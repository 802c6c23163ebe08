/-
  DERIVED. GIVEN WITH THE SEED: THE CARDS: each row of YtclmecgphleeeaaGreatDoorRows.lean that lists a variable, with what it lists TIED to the program's text (the seventh form; the later family's looks); each row that meets fmt, with fmt's text TOLD by the authors' own Lean function (tested against real Go, not proved from fmt's source: count such statements apart). THE CARD IS WHAT COUNTS. Prove the row's statement (the work); the ties are given (YtclmecgphleeeaaGreatDoorTie.lean); close each card by the builder's one call (the guide's Derived/Test/ToyasCard.lean, 'card_holds'). Laid BY PROGRAM, IN A SANDBOX (cutbox-door.mjs). By AI agents, Wed Nov 11 2026. No macro, syntax, notation, axiom, sorry.
-/
import Derived.Test.YtclmecgphleeeaaGreatDoorRows
import GoSem.ClaimSeven
namespace Go.Proofs.YtclmecgphleeeaaGreatDoor
namespace Rows

/-- THE TIED CARD OF 'setsquarelaw11.DecimalOrder'. -/
def decimalOrderCard : Claim7 := { stood := { row := decimalOrderRow, standIns := [], harness := (true, "c78542d371875d32c0518522b059a8bd501d624402a46f524009ce08c2b3e60d"), looks := false }, kinds := [], alts := [], laidByText := true, laidKinds := [.data, .data, .data, .data, .pinned], laidTests := true, laidLooks := .later }
def DecimalOrderCardSaid : Prop := Claim7.holds Tryz.pinned (.plain (OpenSpec.ofChange decimalOrderSpec)) decimalOrderCard

/-- THE SECOND FORM's CARD OF 'setsquarelaw11.DecimalOrder'. -/
def decimalOrderUptoCard : Claim7 := { stood := { row := decimalOrderUptoRow, standIns := [], harness := (true, "c78542d371875d32c0518522b059a8bd501d624402a46f524009ce08c2b3e60d"), looks := false }, kinds := [], alts := [], laidByText := true, laidKinds := [.data, .data, .data, .data, .pinned], laidTests := true, laidLooks := .later }
def DecimalOrderUptoCardSaid : Prop := Claim7.holds Tryz.pinned (.plain (OpenSpec.upto decimalOrderSpec)) decimalOrderUptoCard
end Rows
end Go.Proofs.YtclmecgphleeeaaGreatDoor
