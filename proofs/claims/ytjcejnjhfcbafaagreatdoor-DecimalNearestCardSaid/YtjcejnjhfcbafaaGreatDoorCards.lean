/-
  DERIVED. GIVEN WITH THE SEED: THE CARDS: each row of YtjcejnjhfcbafaaGreatDoorRows.lean that lists a variable, with what it lists TIED to the program's text (the seventh form; the later family's looks); each row that meets fmt, with fmt's text TOLD by the authors' own Lean function (tested against real Go, not proved from fmt's source: count such statements apart). THE CARD IS WHAT COUNTS. Prove the row's statement (the work); the ties are given (YtjcejnjhfcbafaaGreatDoorTie.lean); close each card by the builder's one call (the guide's Derived/Test/ToyasCard.lean, 'card_holds'). Laid BY PROGRAM, IN A SANDBOX (cutbox-door.mjs). By AI agents, Wed Nov 11 2026. No macro, syntax, notation, axiom, sorry.
-/
import Derived.Test.YtjcejnjhfcbafaaGreatDoorRows
import GoSem.ClaimSeven
namespace Go.Proofs.YtjcejnjhfcbafaaGreatDoor
namespace Rows

/-- THE TIED CARD OF 'setsquarelaw11.DecimalFormat'. -/
def decimalFormatCard : Claim7 := { stood := { row := decimalFormatRow, standIns := [], harness := (true, "7d55b3514009e2bcd09a36d3585d355ef9d18bbae6dcb1250981c789a4b80c8e"), looks := false }, kinds := [], alts := [], laidByText := true, laidKinds := [.data, .data, .data, .data, .pinned], laidTests := true, laidLooks := .later }
def DecimalFormatCardSaid : Prop := Claim7.holds Tryz.pinned (.plain (OpenSpec.ofChange decimalFormatSpec)) decimalFormatCard

/-- THE TIED CARD OF 'setsquarelaw11.DecimalWithin'. -/
def decimalWithinCard : Claim7 := { stood := { row := decimalWithinRow, standIns := [], harness := (true, "7d55b3514009e2bcd09a36d3585d355ef9d18bbae6dcb1250981c789a4b80c8e"), looks := false }, kinds := [], alts := [], laidByText := true, laidKinds := [.data, .data, .data, .data, .pinned], laidTests := true, laidLooks := .later }
def DecimalWithinCardSaid : Prop := Claim7.holds Tryz.pinned (.plain (OpenSpec.ofChange decimalWithinSpec)) decimalWithinCard

/-- THE TIED CARD OF 'setsquarelaw11.DecimalFloor'. -/
def decimalFloorCard : Claim7 := { stood := { row := decimalFloorRow, standIns := [], harness := (true, "7d55b3514009e2bcd09a36d3585d355ef9d18bbae6dcb1250981c789a4b80c8e"), looks := false }, kinds := [], alts := [], laidByText := true, laidKinds := [.data, .data, .data, .data, .pinned], laidTests := true, laidLooks := .later }
def DecimalFloorCardSaid : Prop := Claim7.holds Tryz.pinned (.plain (OpenSpec.ofChange decimalFloorSpec)) decimalFloorCard

/-- THE TIED CARD OF 'setsquarelaw11.DecimalOrder'. -/
def decimalOrderCard : Claim7 := { stood := { row := decimalOrderRow, standIns := [], harness := (true, "7d55b3514009e2bcd09a36d3585d355ef9d18bbae6dcb1250981c789a4b80c8e"), looks := false }, kinds := [], alts := [], laidByText := true, laidKinds := [.data, .data, .data, .data, .pinned], laidTests := true, laidLooks := .later }
def DecimalOrderCardSaid : Prop := Claim7.holds Tryz.pinned (.plain (OpenSpec.ofChange decimalOrderSpec)) decimalOrderCard

/-- THE TIED CARD OF 'setsquarelaw11.DecimalParse'. -/
def decimalParseCard : Claim7 := { stood := { row := decimalParseRow, standIns := [], harness := (true, "7d55b3514009e2bcd09a36d3585d355ef9d18bbae6dcb1250981c789a4b80c8e"), looks := false }, kinds := [], alts := [], laidByText := true, laidKinds := [.data, .data, .data, .data, .pinned], laidTests := true, laidLooks := .later }
def DecimalParseCardSaid : Prop := Claim7.holds Tryz.pinned (.plain (OpenSpec.ofChange decimalParseSpec)) decimalParseCard

/-- THE TIED CARD OF 'setsquarelaw11.DecimalNearest'. -/
def decimalNearestCard : Claim7 := { stood := { row := decimalNearestRow, standIns := [], harness := (true, "7d55b3514009e2bcd09a36d3585d355ef9d18bbae6dcb1250981c789a4b80c8e"), looks := false }, kinds := [], alts := [], laidByText := true, laidKinds := [.data, .data, .data, .data, .pinned], laidTests := true, laidLooks := .later }
def DecimalNearestCardSaid : Prop := Claim7.holds Tryz.pinned (.plain (OpenSpec.ofChange decimalNearestSpec)) decimalNearestCard

/-- THE TIED CARD OF 'setsquarelaw11.DecimalRestores'. -/
def decimalRestoresCard : Claim7 := { stood := { row := decimalRestoresRow, standIns := [], harness := (true, "7d55b3514009e2bcd09a36d3585d355ef9d18bbae6dcb1250981c789a4b80c8e"), looks := false }, kinds := [], alts := [], laidByText := true, laidKinds := [.data, .data, .data, .data, .pinned], laidTests := true, laidLooks := .later }
def DecimalRestoresCardSaid : Prop := Claim7.holds Tryz.pinned (.plain (OpenSpec.ofChange decimalRestoresSpec)) decimalRestoresCard

/-- THE SECOND FORM's CARD OF 'setsquarelaw11.DecimalFormat'. -/
def decimalFormatUptoCard : Claim7 := { stood := { row := decimalFormatUptoRow, standIns := [], harness := (true, "7d55b3514009e2bcd09a36d3585d355ef9d18bbae6dcb1250981c789a4b80c8e"), looks := false }, kinds := [], alts := [], laidByText := true, laidKinds := [.data, .data, .data, .data, .pinned], laidTests := true, laidLooks := .later }
def DecimalFormatUptoCardSaid : Prop := Claim7.holds Tryz.pinned (.plain (OpenSpec.upto decimalFormatSpec)) decimalFormatUptoCard

/-- THE SECOND FORM's CARD OF 'setsquarelaw11.DecimalWithin'. -/
def decimalWithinUptoCard : Claim7 := { stood := { row := decimalWithinUptoRow, standIns := [], harness := (true, "7d55b3514009e2bcd09a36d3585d355ef9d18bbae6dcb1250981c789a4b80c8e"), looks := false }, kinds := [], alts := [], laidByText := true, laidKinds := [.data, .data, .data, .data, .pinned], laidTests := true, laidLooks := .later }
def DecimalWithinUptoCardSaid : Prop := Claim7.holds Tryz.pinned (.plain (OpenSpec.upto decimalWithinSpec)) decimalWithinUptoCard

/-- THE SECOND FORM's CARD OF 'setsquarelaw11.DecimalFloor'. -/
def decimalFloorUptoCard : Claim7 := { stood := { row := decimalFloorUptoRow, standIns := [], harness := (true, "7d55b3514009e2bcd09a36d3585d355ef9d18bbae6dcb1250981c789a4b80c8e"), looks := false }, kinds := [], alts := [], laidByText := true, laidKinds := [.data, .data, .data, .data, .pinned], laidTests := true, laidLooks := .later }
def DecimalFloorUptoCardSaid : Prop := Claim7.holds Tryz.pinned (.plain (OpenSpec.upto decimalFloorSpec)) decimalFloorUptoCard

/-- THE SECOND FORM's CARD OF 'setsquarelaw11.DecimalOrder'. -/
def decimalOrderUptoCard : Claim7 := { stood := { row := decimalOrderUptoRow, standIns := [], harness := (true, "7d55b3514009e2bcd09a36d3585d355ef9d18bbae6dcb1250981c789a4b80c8e"), looks := false }, kinds := [], alts := [], laidByText := true, laidKinds := [.data, .data, .data, .data, .pinned], laidTests := true, laidLooks := .later }
def DecimalOrderUptoCardSaid : Prop := Claim7.holds Tryz.pinned (.plain (OpenSpec.upto decimalOrderSpec)) decimalOrderUptoCard

/-- THE SECOND FORM's CARD OF 'setsquarelaw11.DecimalParse'. -/
def decimalParseUptoCard : Claim7 := { stood := { row := decimalParseUptoRow, standIns := [], harness := (true, "7d55b3514009e2bcd09a36d3585d355ef9d18bbae6dcb1250981c789a4b80c8e"), looks := false }, kinds := [], alts := [], laidByText := true, laidKinds := [.data, .data, .data, .data, .pinned], laidTests := true, laidLooks := .later }
def DecimalParseUptoCardSaid : Prop := Claim7.holds Tryz.pinned (.plain (OpenSpec.upto decimalParseSpec)) decimalParseUptoCard

/-- THE SECOND FORM's CARD OF 'setsquarelaw11.DecimalNearest'. -/
def decimalNearestUptoCard : Claim7 := { stood := { row := decimalNearestUptoRow, standIns := [], harness := (true, "7d55b3514009e2bcd09a36d3585d355ef9d18bbae6dcb1250981c789a4b80c8e"), looks := false }, kinds := [], alts := [], laidByText := true, laidKinds := [.data, .data, .data, .data, .pinned], laidTests := true, laidLooks := .later }
def DecimalNearestUptoCardSaid : Prop := Claim7.holds Tryz.pinned (.plain (OpenSpec.upto decimalNearestSpec)) decimalNearestUptoCard

/-- THE SECOND FORM's CARD OF 'setsquarelaw11.DecimalRestores'. -/
def decimalRestoresUptoCard : Claim7 := { stood := { row := decimalRestoresUptoRow, standIns := [], harness := (true, "7d55b3514009e2bcd09a36d3585d355ef9d18bbae6dcb1250981c789a4b80c8e"), looks := false }, kinds := [], alts := [], laidByText := true, laidKinds := [.data, .data, .data, .data, .pinned], laidTests := true, laidLooks := .later }
def DecimalRestoresUptoCardSaid : Prop := Claim7.holds Tryz.pinned (.plain (OpenSpec.upto decimalRestoresSpec)) decimalRestoresUptoCard
end Rows
end Go.Proofs.YtjcejnjhfcbafaaGreatDoor
