/-
  DERIVED. GIVEN WITH THE SEED: THE CARDS: each row of YtpgcfjpkilabfaaGreatDoorRows.lean that lists a variable, with what it lists TIED to the program's text (the seventh form; the later family's looks); each row that meets fmt, with fmt's text TOLD by the authors' own Lean function (tested against real Go, not proved from fmt's source: count such statements apart). THE CARD IS WHAT COUNTS. Prove the row's statement (the work); the ties are given (YtpgcfjpkilabfaaGreatDoorTie.lean); close each card by the builder's one call (the guide's Derived/Test/ToyasCard.lean, 'card_holds'). Laid BY PROGRAM, IN A SANDBOX (cutbox-door.mjs). By AI agents, Wed Nov 11 2026. No macro, syntax, notation, axiom, sorry.
-/
import Derived.Test.YtpgcfjpkilabfaaGreatDoorRows
import GoSem.ClaimSeven
namespace Go.Proofs.YtpgcfjpkilabfaaGreatDoor
namespace Rows

/-- THE TIED CARD OF 'setsquarelaw55.DrawingBounds'. -/
def drawingBoundsCard : Claim7 := { stood := { row := drawingBoundsRow, standIns := [], harness := (true, "7296a19a316c5d5c56b63c108dfc9d584e5b674ccee6e85fe7d9db99ed29f8e1"), looks := false }, kinds := [], alts := [], laidByText := true, laidKinds := [.data, .data, .data], laidTests := true, laidLooks := .later }
def DrawingBoundsCardSaid : Prop := Claim7.holds Tryz.pinned (.plain (OpenSpec.ofChange drawingBoundsSpec)) drawingBoundsCard

/-- THE TIED CARD OF 'setsquarelaw55.DrawingApart'. -/
def drawingApartCard : Claim7 := { stood := { row := drawingApartRow, standIns := [], harness := (true, "7296a19a316c5d5c56b63c108dfc9d584e5b674ccee6e85fe7d9db99ed29f8e1"), looks := false }, kinds := [], alts := [], laidByText := true, laidKinds := [.data, .data, .data], laidTests := true, laidLooks := .later }
def DrawingApartCardSaid : Prop := Claim7.holds Tryz.pinned (.plain (OpenSpec.ofChange drawingApartSpec)) drawingApartCard

/-- THE SECOND FORM's CARD OF 'setsquarelaw55.DrawingBounds'. -/
def drawingBoundsUptoCard : Claim7 := { stood := { row := drawingBoundsUptoRow, standIns := [], harness := (true, "7296a19a316c5d5c56b63c108dfc9d584e5b674ccee6e85fe7d9db99ed29f8e1"), looks := false }, kinds := [], alts := [], laidByText := true, laidKinds := [.data, .data, .data], laidTests := true, laidLooks := .later }
def DrawingBoundsUptoCardSaid : Prop := Claim7.holds Tryz.pinned (.plain (OpenSpec.upto drawingBoundsSpec)) drawingBoundsUptoCard

/-- THE SECOND FORM's CARD OF 'setsquarelaw55.DrawingApart'. -/
def drawingApartUptoCard : Claim7 := { stood := { row := drawingApartUptoRow, standIns := [], harness := (true, "7296a19a316c5d5c56b63c108dfc9d584e5b674ccee6e85fe7d9db99ed29f8e1"), looks := false }, kinds := [], alts := [], laidByText := true, laidKinds := [.data, .data, .data], laidTests := true, laidLooks := .later }
def DrawingApartUptoCardSaid : Prop := Claim7.holds Tryz.pinned (.plain (OpenSpec.upto drawingApartSpec)) drawingApartUptoCard
end Rows
end Go.Proofs.YtpgcfjpkilabfaaGreatDoor
