/-
  DERIVED. GIVEN WITH THE SEED: THE CARDS: each row of YtjbfoanboidkbaaDoorRows.lean that lists a variable, with what it lists TIED to the program's text (the seventh form; the later family's looks); each row that meets fmt, with fmt's text TOLD by the authors' own Lean function (tested against real Go, not proved from fmt's source: count such statements apart). THE CARD IS WHAT COUNTS. Prove the row's statement (the work); the ties are given (YtjbfoanboidkbaaDoorTie.lean); close each card by the builder's one call (the guide's Derived/Test/ToyasCard.lean, 'card_holds'). Laid BY PROGRAM, IN A SANDBOX (cutbox-door.mjs). By AI agents, Wed Nov 11 2026. No macro, syntax, notation, axiom, sorry.
-/
import Derived.Test.YtjbfoanboidkbaaDoorRows
import GoSem.ClaimSeven
namespace Go.Proofs.YtjbfoanboidkbaaDoor
namespace Rows

/-- THE TIED CARD OF 'antecedelaw01.NumberParts'. -/
def numberPartsCard : Claim7 := { stood := { row := numberPartsRow, standIns := [], harness := (true, "8ecb5e8c86758c13f1b15d8ce83ddafb61772337be454816ad7a41246d8cd722"), looks := true }, kinds := [], alts := [], laidByText := true, laidKinds := [.data, .data, .data, .data, .sentinel, .sentinel, .pinned], laidTests := true, laidLooks := .later }
def NumberPartsCardSaid : Prop := Claim7.holds Tryd.pinned (.plain (OpenSpec.ofChange numberPartsSpec)) numberPartsCard

/-- THE TIED CARD OF 'antecedelaw01.NumberDivides'. -/
def numberDividesCard : Claim7 := { stood := { row := numberDividesRow, standIns := [], harness := (true, "8ecb5e8c86758c13f1b15d8ce83ddafb61772337be454816ad7a41246d8cd722"), looks := true }, kinds := [], alts := [], laidByText := true, laidKinds := [.data, .data, .data, .data, .sentinel, .sentinel, .pinned], laidTests := true, laidLooks := .later }
def NumberDividesCardSaid : Prop := Claim7.holds Tryd.pinned (.plain (OpenSpec.ofChange numberDividesSpec)) numberDividesCard

/-- THE TIED CARD OF 'antecedelaw01.NumberPascal'. -/
def numberPascalCard : Claim7 := { stood := { row := numberPascalRow, standIns := [], harness := (true, "8ecb5e8c86758c13f1b15d8ce83ddafb61772337be454816ad7a41246d8cd722"), looks := true }, kinds := [], alts := [], laidByText := true, laidKinds := [.data, .data, .data, .data, .sentinel, .sentinel, .pinned], laidTests := true, laidLooks := .later }
def NumberPascalCardSaid : Prop := Claim7.holds Tryd.pinned (.plain (OpenSpec.ofChange numberPascalSpec)) numberPascalCard

/-- THE TIED CARD OF 'antecedelaw01.NumberTexts'. -/
def numberTextsCard : Claim7 := { stood := { row := numberTextsRow, standIns := [], harness := (true, "8ecb5e8c86758c13f1b15d8ce83ddafb61772337be454816ad7a41246d8cd722"), looks := true }, kinds := [], alts := [], laidByText := true, laidKinds := [.data, .data, .data, .data, .sentinel, .sentinel, .pinned], laidTests := true, laidLooks := .later }
def NumberTextsCardSaid : Prop := Claim7.holds Tryd.pinned (.plain (OpenSpec.ofChange numberTextsSpec)) numberTextsCard

/-- THE TIED CARD OF 'antecedelaw01.NumberBack'. -/
def numberBackCard : Claim7 := { stood := { row := numberBackRow, standIns := [], harness := (true, "8ecb5e8c86758c13f1b15d8ce83ddafb61772337be454816ad7a41246d8cd722"), looks := true }, kinds := [], alts := [], laidByText := true, laidKinds := [.data, .data, .data, .data, .sentinel, .sentinel, .pinned], laidTests := true, laidLooks := .later }
def NumberBackCardSaid : Prop := Claim7.holds Tryd.pinned (.plain (OpenSpec.ofChange numberBackSpec)) numberBackCard

/-- THE TIED CARD OF 'antecedelaw01.NumberSums'. -/
def numberSumsCard : Claim7 := { stood := { row := numberSumsRow, standIns := [], harness := (true, "8ecb5e8c86758c13f1b15d8ce83ddafb61772337be454816ad7a41246d8cd722"), looks := true }, kinds := [], alts := [], laidByText := true, laidKinds := [.data, .data, .data, .data, .sentinel, .sentinel, .pinned], laidTests := true, laidLooks := .later }
def NumberSumsCardSaid : Prop := Claim7.holds Tryd.pinned (.plain (OpenSpec.ofChange numberSumsSpec)) numberSumsCard

/-- THE TIED CARD OF 'antecedelaw01.NumberRing'. -/
def numberRingCard : Claim7 := { stood := { row := numberRingRow, standIns := [], harness := (true, "8ecb5e8c86758c13f1b15d8ce83ddafb61772337be454816ad7a41246d8cd722"), looks := true }, kinds := [], alts := [], laidByText := true, laidKinds := [.data, .data, .data, .data, .sentinel, .sentinel, .pinned], laidTests := true, laidLooks := .later }
def NumberRingCardSaid : Prop := Claim7.holds Tryd.pinned (.plain (OpenSpec.ofChange numberRingSpec)) numberRingCard

/-- THE SECOND FORM's CARD OF 'antecedelaw01.NumberParts'. -/
def numberPartsUptoCard : Claim7 := { stood := { row := numberPartsUptoRow, standIns := [], harness := (true, "8ecb5e8c86758c13f1b15d8ce83ddafb61772337be454816ad7a41246d8cd722"), looks := true }, kinds := [], alts := [], laidByText := true, laidKinds := [.data, .data, .data, .data, .sentinel, .sentinel, .pinned], laidTests := true, laidLooks := .later }
def NumberPartsUptoCardSaid : Prop := Claim7.holds Tryd.pinned (.plain (OpenSpec.upto numberPartsSpec)) numberPartsUptoCard

/-- THE SECOND FORM's CARD OF 'antecedelaw01.NumberDivides'. -/
def numberDividesUptoCard : Claim7 := { stood := { row := numberDividesUptoRow, standIns := [], harness := (true, "8ecb5e8c86758c13f1b15d8ce83ddafb61772337be454816ad7a41246d8cd722"), looks := true }, kinds := [], alts := [], laidByText := true, laidKinds := [.data, .data, .data, .data, .sentinel, .sentinel, .pinned], laidTests := true, laidLooks := .later }
def NumberDividesUptoCardSaid : Prop := Claim7.holds Tryd.pinned (.plain (OpenSpec.upto numberDividesSpec)) numberDividesUptoCard

/-- THE SECOND FORM's CARD OF 'antecedelaw01.NumberPascal'. -/
def numberPascalUptoCard : Claim7 := { stood := { row := numberPascalUptoRow, standIns := [], harness := (true, "8ecb5e8c86758c13f1b15d8ce83ddafb61772337be454816ad7a41246d8cd722"), looks := true }, kinds := [], alts := [], laidByText := true, laidKinds := [.data, .data, .data, .data, .sentinel, .sentinel, .pinned], laidTests := true, laidLooks := .later }
def NumberPascalUptoCardSaid : Prop := Claim7.holds Tryd.pinned (.plain (OpenSpec.upto numberPascalSpec)) numberPascalUptoCard

/-- THE SECOND FORM's CARD OF 'antecedelaw01.NumberTexts'. -/
def numberTextsUptoCard : Claim7 := { stood := { row := numberTextsUptoRow, standIns := [], harness := (true, "8ecb5e8c86758c13f1b15d8ce83ddafb61772337be454816ad7a41246d8cd722"), looks := true }, kinds := [], alts := [], laidByText := true, laidKinds := [.data, .data, .data, .data, .sentinel, .sentinel, .pinned], laidTests := true, laidLooks := .later }
def NumberTextsUptoCardSaid : Prop := Claim7.holds Tryd.pinned (.plain (OpenSpec.upto numberTextsSpec)) numberTextsUptoCard

/-- THE SECOND FORM's CARD OF 'antecedelaw01.NumberBack'. -/
def numberBackUptoCard : Claim7 := { stood := { row := numberBackUptoRow, standIns := [], harness := (true, "8ecb5e8c86758c13f1b15d8ce83ddafb61772337be454816ad7a41246d8cd722"), looks := true }, kinds := [], alts := [], laidByText := true, laidKinds := [.data, .data, .data, .data, .sentinel, .sentinel, .pinned], laidTests := true, laidLooks := .later }
def NumberBackUptoCardSaid : Prop := Claim7.holds Tryd.pinned (.plain (OpenSpec.upto numberBackSpec)) numberBackUptoCard

/-- THE SECOND FORM's CARD OF 'antecedelaw01.NumberSums'. -/
def numberSumsUptoCard : Claim7 := { stood := { row := numberSumsUptoRow, standIns := [], harness := (true, "8ecb5e8c86758c13f1b15d8ce83ddafb61772337be454816ad7a41246d8cd722"), looks := true }, kinds := [], alts := [], laidByText := true, laidKinds := [.data, .data, .data, .data, .sentinel, .sentinel, .pinned], laidTests := true, laidLooks := .later }
def NumberSumsUptoCardSaid : Prop := Claim7.holds Tryd.pinned (.plain (OpenSpec.upto numberSumsSpec)) numberSumsUptoCard

/-- THE SECOND FORM's CARD OF 'antecedelaw01.NumberRing'. -/
def numberRingUptoCard : Claim7 := { stood := { row := numberRingUptoRow, standIns := [], harness := (true, "8ecb5e8c86758c13f1b15d8ce83ddafb61772337be454816ad7a41246d8cd722"), looks := true }, kinds := [], alts := [], laidByText := true, laidKinds := [.data, .data, .data, .data, .sentinel, .sentinel, .pinned], laidTests := true, laidLooks := .later }
def NumberRingUptoCardSaid : Prop := Claim7.holds Tryd.pinned (.plain (OpenSpec.upto numberRingSpec)) numberRingUptoCard
end Rows
end Go.Proofs.YtjbfoanboidkbaaDoor
