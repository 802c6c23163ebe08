/-
  DERIVED. GIVEN WITH THE SEED: THE CARDS: each row of YtgpipgjbkggjpaaGreatDoorRows.lean that lists a variable, with what it lists TIED to the program's text (the seventh form; the later family's looks); each row that meets fmt, with fmt's text TOLD by the authors' own Lean function (tested against real Go, not proved from fmt's source: count such statements apart). THE CARD IS WHAT COUNTS. Prove the row's statement (the work); the ties are given (YtgpipgjbkggjpaaGreatDoorTie.lean); close each card by the builder's one call (the guide's Derived/Test/ToyasCard.lean, 'card_holds'). Laid BY PROGRAM, IN A SANDBOX (cutbox-door.mjs). By AI agents, Wed Nov 11 2026. No macro, syntax, notation, axiom, sorry.
-/
import Derived.Test.YtgpipgjbkggjpaaGreatDoorRows
import GoSem.ClaimSeven
namespace Go.Proofs.YtgpipgjbkggjpaaGreatDoor
namespace Rows

/-- THE TIED CARD OF 'setsquarelaw20.AreaSector'. -/
def areaSectorCard : Claim7 := { stood := { row := areaSectorRow, standIns := [], harness := (true, "5926309bac2e523133a83c168f2300e90da1f69e3b8123ca8c12fc9831c201a5"), looks := false }, kinds := [], alts := [], laidByText := true, laidKinds := [.data, .data, .data], laidTests := true, laidLooks := .later }
def AreaSectorCardSaid : Prop := Claim7.holds Tryz.pinned (.plain (OpenSpec.ofChange areaSectorSpec)) areaSectorCard

/-- THE TIED CARD OF 'setsquarelaw20.AreaPolygon'. -/
def areaPolygonCard : Claim7 := { stood := { row := areaPolygonRow, standIns := [], harness := (true, "5926309bac2e523133a83c168f2300e90da1f69e3b8123ca8c12fc9831c201a5"), looks := false }, kinds := [], alts := [], laidByText := true, laidKinds := [.data, .data, .data], laidTests := true, laidLooks := .later }
def AreaPolygonCardSaid : Prop := Claim7.holds Tryz.pinned (.plain (OpenSpec.ofChange areaPolygonSpec)) areaPolygonCard

/-- THE TIED CARD OF 'setsquarelaw20.AreaSplit'. -/
def areaSplitCard : Claim7 := { stood := { row := areaSplitRow, standIns := [], harness := (true, "5926309bac2e523133a83c168f2300e90da1f69e3b8123ca8c12fc9831c201a5"), looks := false }, kinds := [], alts := [], laidByText := true, laidKinds := [.data, .data, .data], laidTests := true, laidLooks := .later }
def AreaSplitCardSaid : Prop := Claim7.holds Tryz.pinned (.plain (OpenSpec.ofChange areaSplitSpec)) areaSplitCard

/-- THE SECOND FORM's CARD OF 'setsquarelaw20.AreaSector'. -/
def areaSectorUptoCard : Claim7 := { stood := { row := areaSectorUptoRow, standIns := [], harness := (true, "5926309bac2e523133a83c168f2300e90da1f69e3b8123ca8c12fc9831c201a5"), looks := false }, kinds := [], alts := [], laidByText := true, laidKinds := [.data, .data, .data], laidTests := true, laidLooks := .later }
def AreaSectorUptoCardSaid : Prop := Claim7.holds Tryz.pinned (.plain (OpenSpec.upto areaSectorSpec)) areaSectorUptoCard

/-- THE SECOND FORM's CARD OF 'setsquarelaw20.AreaPolygon'. -/
def areaPolygonUptoCard : Claim7 := { stood := { row := areaPolygonUptoRow, standIns := [], harness := (true, "5926309bac2e523133a83c168f2300e90da1f69e3b8123ca8c12fc9831c201a5"), looks := false }, kinds := [], alts := [], laidByText := true, laidKinds := [.data, .data, .data], laidTests := true, laidLooks := .later }
def AreaPolygonUptoCardSaid : Prop := Claim7.holds Tryz.pinned (.plain (OpenSpec.upto areaPolygonSpec)) areaPolygonUptoCard

/-- THE SECOND FORM's CARD OF 'setsquarelaw20.AreaSplit'. -/
def areaSplitUptoCard : Claim7 := { stood := { row := areaSplitUptoRow, standIns := [], harness := (true, "5926309bac2e523133a83c168f2300e90da1f69e3b8123ca8c12fc9831c201a5"), looks := false }, kinds := [], alts := [], laidByText := true, laidKinds := [.data, .data, .data], laidTests := true, laidLooks := .later }
def AreaSplitUptoCardSaid : Prop := Claim7.holds Tryz.pinned (.plain (OpenSpec.upto areaSplitSpec)) areaSplitUptoCard
end Rows
end Go.Proofs.YtgpipgjbkggjpaaGreatDoor
