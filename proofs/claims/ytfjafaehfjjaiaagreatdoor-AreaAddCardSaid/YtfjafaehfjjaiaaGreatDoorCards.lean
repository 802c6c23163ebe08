/-
  DERIVED. GIVEN WITH THE SEED: THE CARDS: each row of YtfjafaehfjjaiaaGreatDoorRows.lean that lists a variable, with what it lists TIED to the program's text (the seventh form; the later family's looks); each row that meets fmt, with fmt's text TOLD by the authors' own Lean function (tested against real Go, not proved from fmt's source: count such statements apart). THE CARD IS WHAT COUNTS. Prove the row's statement (the work); the ties are given (YtfjafaehfjjaiaaGreatDoorTie.lean); close each card by the builder's one call (the guide's Derived/Test/ToyasCard.lean, 'card_holds'). Laid BY PROGRAM, IN A SANDBOX (cutbox-door.mjs). By AI agents, Wed Nov 11 2026. No macro, syntax, notation, axiom, sorry.
-/
import Derived.Test.YtfjafaehfjjaiaaGreatDoorRows
import GoSem.ClaimSeven
namespace Go.Proofs.YtfjafaehfjjaiaaGreatDoor
namespace Rows

/-- THE TIED CARD OF 'setsquarelaw20.AreaAdd'. -/
def areaAddCard : Claim7 := { stood := { row := areaAddRow, standIns := [], harness := (true, "f4d9d293a6e759aa6439a44daff272396acde5430494fb9c4a75acc744668dcd"), looks := false }, kinds := [], alts := [], laidByText := true, laidKinds := [.data, .data, .data], laidTests := true, laidLooks := .later }
def AreaAddCardSaid : Prop := Claim7.holds Tryz.pinned (.plain (OpenSpec.ofChange areaAddSpec)) areaAddCard

/-- THE TIED CARD OF 'setsquarelaw20.AreaValid'. -/
def areaValidCard : Claim7 := { stood := { row := areaValidRow, standIns := [], harness := (true, "f4d9d293a6e759aa6439a44daff272396acde5430494fb9c4a75acc744668dcd"), looks := false }, kinds := [], alts := [], laidByText := true, laidKinds := [.data, .data, .data], laidTests := true, laidLooks := .later }
def AreaValidCardSaid : Prop := Claim7.holds Tryz.pinned (.plain (OpenSpec.ofChange areaValidSpec)) areaValidCard

/-- THE SECOND FORM's CARD OF 'setsquarelaw20.AreaAdd'. -/
def areaAddUptoCard : Claim7 := { stood := { row := areaAddUptoRow, standIns := [], harness := (true, "f4d9d293a6e759aa6439a44daff272396acde5430494fb9c4a75acc744668dcd"), looks := false }, kinds := [], alts := [], laidByText := true, laidKinds := [.data, .data, .data], laidTests := true, laidLooks := .later }
def AreaAddUptoCardSaid : Prop := Claim7.holds Tryz.pinned (.plain (OpenSpec.upto areaAddSpec)) areaAddUptoCard

/-- THE SECOND FORM's CARD OF 'setsquarelaw20.AreaValid'. -/
def areaValidUptoCard : Claim7 := { stood := { row := areaValidUptoRow, standIns := [], harness := (true, "f4d9d293a6e759aa6439a44daff272396acde5430494fb9c4a75acc744668dcd"), looks := false }, kinds := [], alts := [], laidByText := true, laidKinds := [.data, .data, .data], laidTests := true, laidLooks := .later }
def AreaValidUptoCardSaid : Prop := Claim7.holds Tryz.pinned (.plain (OpenSpec.upto areaValidSpec)) areaValidUptoCard
end Rows
end Go.Proofs.YtfjafaehfjjaiaaGreatDoor
