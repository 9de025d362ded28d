/-
  DERIVED. GIVEN WITH THE SEED: THE CARDS: each row of YtpmponafjhnegaaGreatDoorRows.lean that lists a variable, with what it lists TIED to the program's text (the seventh form; the later family's looks); each row that meets fmt, with fmt's text TOLD by the authors' own Lean function (tested against real Go, not proved from fmt's source: count such statements apart). THE CARD IS WHAT COUNTS. Prove the row's statement (the work); the ties are given (YtpmponafjhnegaaGreatDoorTie.lean); close each card by the builder's one call (the guide's Derived/Test/ToyasCard.lean, 'card_holds'). Laid BY PROGRAM, IN A SANDBOX (cutbox-door.mjs). By AI agents, Wed Nov 11 2026. No macro, syntax, notation, axiom, sorry.
-/
import Derived.Test.YtpmponafjhnegaaGreatDoorRows
import GoSem.ClaimSeven
namespace Go.Proofs.YtpmponafjhnegaaGreatDoor
namespace Rows

/-- THE TIED CARD OF 'antecedelaw20.TracetextParts'. -/
def tracetextPartsCard : Claim7 := { stood := { row := tracetextPartsRow, standIns := [], harness := (true, "fcd206ff7e46de063742c1111cb9024485163b8f645bc82956323ca1cf071565"), looks := true }, kinds := [], alts := [], laidByText := true, laidKinds := [.data, .data, .data, .data, .sentinel, .sentinel, .pinned], laidTests := true, laidLooks := .later }
def TracetextPartsCardSaid : Prop := Claim7.holds Tryz.pinned (.plain (OpenSpec.ofChange tracetextPartsSpec)) tracetextPartsCard

/-- THE TIED CARD OF 'antecedelaw20.TracetextParses'. -/
def tracetextParsesCard : Claim7 := { stood := { row := tracetextParsesRow, standIns := [], harness := (true, "fcd206ff7e46de063742c1111cb9024485163b8f645bc82956323ca1cf071565"), looks := true }, kinds := [], alts := [], laidByText := true, laidKinds := [.data, .data, .data, .data, .sentinel, .sentinel, .pinned], laidTests := true, laidLooks := .later }
def TracetextParsesCardSaid : Prop := Claim7.holds Tryz.pinned (.plain (OpenSpec.ofChange tracetextParsesSpec)) tracetextParsesCard

/-- THE TIED CARD OF 'antecedelaw20.TracetextPlaces'. -/
def tracetextPlacesCard : Claim7 := { stood := { row := tracetextPlacesRow, standIns := [], harness := (true, "fcd206ff7e46de063742c1111cb9024485163b8f645bc82956323ca1cf071565"), looks := true }, kinds := [], alts := [], laidByText := true, laidKinds := [.data, .data, .data, .data, .sentinel, .sentinel, .pinned], laidTests := true, laidLooks := .later }
def TracetextPlacesCardSaid : Prop := Claim7.holds Tryz.pinned (.plain (OpenSpec.ofChange tracetextPlacesSpec)) tracetextPlacesCard

/-- THE TIED CARD OF 'antecedelaw20.TracetextTexts'. -/
def tracetextTextsCard : Claim7 := { stood := { row := tracetextTextsRow, standIns := [], harness := (true, "fcd206ff7e46de063742c1111cb9024485163b8f645bc82956323ca1cf071565"), looks := true }, kinds := [], alts := [], laidByText := true, laidKinds := [.data, .data, .data, .data, .sentinel, .sentinel, .pinned], laidTests := true, laidLooks := .later }
def TracetextTextsCardSaid : Prop := Claim7.holds Tryz.pinned (.plain (OpenSpec.ofChange tracetextTextsSpec)) tracetextTextsCard

/-- THE TIED CARD OF 'antecedelaw20.TracetextBack'. -/
def tracetextBackCard : Claim7 := { stood := { row := tracetextBackRow, standIns := [], harness := (true, "fcd206ff7e46de063742c1111cb9024485163b8f645bc82956323ca1cf071565"), looks := true }, kinds := [], alts := [], laidByText := true, laidKinds := [.data, .data, .data, .data, .sentinel, .sentinel, .pinned], laidTests := true, laidLooks := .later }
def TracetextBackCardSaid : Prop := Claim7.holds Tryz.pinned (.plain (OpenSpec.ofChange tracetextBackSpec)) tracetextBackCard

/-- THE TIED CARD OF 'antecedelaw20.TracetextEvents'. -/
def tracetextEventsCard : Claim7 := { stood := { row := tracetextEventsRow, standIns := [], harness := (true, "fcd206ff7e46de063742c1111cb9024485163b8f645bc82956323ca1cf071565"), looks := true }, kinds := [], alts := [], laidByText := true, laidKinds := [.data, .data, .data, .data, .sentinel, .sentinel, .pinned], laidTests := true, laidLooks := .later }
def TracetextEventsCardSaid : Prop := Claim7.holds Tryz.pinned (.plain (OpenSpec.ofChange tracetextEventsSpec)) tracetextEventsCard

/-- THE TIED CARD OF 'antecedelaw20.TracetextNames'. -/
def tracetextNamesCard : Claim7 := { stood := { row := tracetextNamesRow, standIns := [], harness := (true, "fcd206ff7e46de063742c1111cb9024485163b8f645bc82956323ca1cf071565"), looks := true }, kinds := [], alts := [], laidByText := true, laidKinds := [.data, .data, .data, .data, .sentinel, .sentinel, .pinned], laidTests := true, laidLooks := .later }
def TracetextNamesCardSaid : Prop := Claim7.holds Tryz.pinned (.plain (OpenSpec.ofChange tracetextNamesSpec)) tracetextNamesCard

/-- THE SECOND FORM's CARD OF 'antecedelaw20.TracetextParts'. -/
def tracetextPartsUptoCard : Claim7 := { stood := { row := tracetextPartsUptoRow, standIns := [], harness := (true, "fcd206ff7e46de063742c1111cb9024485163b8f645bc82956323ca1cf071565"), looks := true }, kinds := [], alts := [], laidByText := true, laidKinds := [.data, .data, .data, .data, .sentinel, .sentinel, .pinned], laidTests := true, laidLooks := .later }
def TracetextPartsUptoCardSaid : Prop := Claim7.holds Tryz.pinned (.plain (OpenSpec.upto tracetextPartsSpec)) tracetextPartsUptoCard

/-- THE SECOND FORM's CARD OF 'antecedelaw20.TracetextParses'. -/
def tracetextParsesUptoCard : Claim7 := { stood := { row := tracetextParsesUptoRow, standIns := [], harness := (true, "fcd206ff7e46de063742c1111cb9024485163b8f645bc82956323ca1cf071565"), looks := true }, kinds := [], alts := [], laidByText := true, laidKinds := [.data, .data, .data, .data, .sentinel, .sentinel, .pinned], laidTests := true, laidLooks := .later }
def TracetextParsesUptoCardSaid : Prop := Claim7.holds Tryz.pinned (.plain (OpenSpec.upto tracetextParsesSpec)) tracetextParsesUptoCard

/-- THE SECOND FORM's CARD OF 'antecedelaw20.TracetextPlaces'. -/
def tracetextPlacesUptoCard : Claim7 := { stood := { row := tracetextPlacesUptoRow, standIns := [], harness := (true, "fcd206ff7e46de063742c1111cb9024485163b8f645bc82956323ca1cf071565"), looks := true }, kinds := [], alts := [], laidByText := true, laidKinds := [.data, .data, .data, .data, .sentinel, .sentinel, .pinned], laidTests := true, laidLooks := .later }
def TracetextPlacesUptoCardSaid : Prop := Claim7.holds Tryz.pinned (.plain (OpenSpec.upto tracetextPlacesSpec)) tracetextPlacesUptoCard

/-- THE SECOND FORM's CARD OF 'antecedelaw20.TracetextTexts'. -/
def tracetextTextsUptoCard : Claim7 := { stood := { row := tracetextTextsUptoRow, standIns := [], harness := (true, "fcd206ff7e46de063742c1111cb9024485163b8f645bc82956323ca1cf071565"), looks := true }, kinds := [], alts := [], laidByText := true, laidKinds := [.data, .data, .data, .data, .sentinel, .sentinel, .pinned], laidTests := true, laidLooks := .later }
def TracetextTextsUptoCardSaid : Prop := Claim7.holds Tryz.pinned (.plain (OpenSpec.upto tracetextTextsSpec)) tracetextTextsUptoCard

/-- THE SECOND FORM's CARD OF 'antecedelaw20.TracetextBack'. -/
def tracetextBackUptoCard : Claim7 := { stood := { row := tracetextBackUptoRow, standIns := [], harness := (true, "fcd206ff7e46de063742c1111cb9024485163b8f645bc82956323ca1cf071565"), looks := true }, kinds := [], alts := [], laidByText := true, laidKinds := [.data, .data, .data, .data, .sentinel, .sentinel, .pinned], laidTests := true, laidLooks := .later }
def TracetextBackUptoCardSaid : Prop := Claim7.holds Tryz.pinned (.plain (OpenSpec.upto tracetextBackSpec)) tracetextBackUptoCard

/-- THE SECOND FORM's CARD OF 'antecedelaw20.TracetextEvents'. -/
def tracetextEventsUptoCard : Claim7 := { stood := { row := tracetextEventsUptoRow, standIns := [], harness := (true, "fcd206ff7e46de063742c1111cb9024485163b8f645bc82956323ca1cf071565"), looks := true }, kinds := [], alts := [], laidByText := true, laidKinds := [.data, .data, .data, .data, .sentinel, .sentinel, .pinned], laidTests := true, laidLooks := .later }
def TracetextEventsUptoCardSaid : Prop := Claim7.holds Tryz.pinned (.plain (OpenSpec.upto tracetextEventsSpec)) tracetextEventsUptoCard

/-- THE SECOND FORM's CARD OF 'antecedelaw20.TracetextNames'. -/
def tracetextNamesUptoCard : Claim7 := { stood := { row := tracetextNamesUptoRow, standIns := [], harness := (true, "fcd206ff7e46de063742c1111cb9024485163b8f645bc82956323ca1cf071565"), looks := true }, kinds := [], alts := [], laidByText := true, laidKinds := [.data, .data, .data, .data, .sentinel, .sentinel, .pinned], laidTests := true, laidLooks := .later }
def TracetextNamesUptoCardSaid : Prop := Claim7.holds Tryz.pinned (.plain (OpenSpec.upto tracetextNamesSpec)) tracetextNamesUptoCard
end Rows
end Go.Proofs.YtpmponafjhnegaaGreatDoor
