/-
  DERIVED. GIVEN WITH THE SEED: THE CARDS: each row of YtlkebnobcfffeaaDoorRows.lean that lists a variable, with what it lists TIED to the program's text (the seventh form; the later family's looks); each row that meets fmt, with fmt's text TOLD by the authors' own Lean function (tested against real Go, not proved from fmt's source: count such statements apart). THE CARD IS WHAT COUNTS. Prove the row's statement (the work); the ties are given (YtlkebnobcfffeaaDoorTie.lean); close each card by the builder's one call (the guide's Derived/Test/ToyasCard.lean, 'card_holds'). Laid BY PROGRAM, IN A SANDBOX (cutbox-door.mjs). By AI agents, Wed Nov 11 2026. No macro, syntax, notation, axiom, sorry.
-/
import Derived.Test.YtlkebnobcfffeaaDoorRows
import GoSem.ClaimSeven
namespace Go.Proofs.YtlkebnobcfffeaaDoor
namespace Rows

/-- THE TIED CARD OF 'antecedelaw26.PredlexWords'. -/
def predlexWordsCard : Claim7 := { stood := { row := predlexWordsRow, standIns := [], harness := (true, "a08caceea02d86a17b04fc1051e95156f83a11da417d1d2f5d2b67ed65b66883"), looks := true }, kinds := [], alts := [], laidByText := true, laidKinds := [.data, .data, .data, .sentinel, .sentinel], laidTests := true, laidLooks := .later }
def PredlexWordsCardSaid : Prop := Claim7.holds Tryd.pinned (.plain (OpenSpec.ofChange predlexWordsSpec)) predlexWordsCard

/-- THE TIED CARD OF 'antecedelaw26.PredlexPlaces'. -/
def predlexPlacesCard : Claim7 := { stood := { row := predlexPlacesRow, standIns := [], harness := (true, "a08caceea02d86a17b04fc1051e95156f83a11da417d1d2f5d2b67ed65b66883"), looks := true }, kinds := [], alts := [], laidByText := true, laidKinds := [.data, .data, .data, .sentinel, .sentinel], laidTests := true, laidLooks := .later }
def PredlexPlacesCardSaid : Prop := Claim7.holds Tryd.pinned (.plain (OpenSpec.ofChange predlexPlacesSpec)) predlexPlacesCard

/-- THE TIED CARD OF 'antecedelaw26.PredlexStands'. -/
def predlexStandsCard : Claim7 := { stood := { row := predlexStandsRow, standIns := [], harness := (true, "a08caceea02d86a17b04fc1051e95156f83a11da417d1d2f5d2b67ed65b66883"), looks := true }, kinds := [], alts := [], laidByText := true, laidKinds := [.data, .data, .data, .sentinel, .sentinel], laidTests := true, laidLooks := .later }
def PredlexStandsCardSaid : Prop := Claim7.holds Tryd.pinned (.plain (OpenSpec.ofChange predlexStandsSpec)) predlexStandsCard

/-- THE TIED CARD OF 'antecedelaw26.PredlexBlanks'. -/
def predlexBlanksCard : Claim7 := { stood := { row := predlexBlanksRow, standIns := [], harness := (true, "a08caceea02d86a17b04fc1051e95156f83a11da417d1d2f5d2b67ed65b66883"), looks := true }, kinds := [], alts := [], laidByText := true, laidKinds := [.data, .data, .data, .sentinel, .sentinel], laidTests := true, laidLooks := .later }
def PredlexBlanksCardSaid : Prop := Claim7.holds Tryd.pinned (.plain (OpenSpec.ofChange predlexBlanksSpec)) predlexBlanksCard

/-- THE TIED CARD OF 'antecedelaw26.PredlexKinds'. -/
def predlexKindsCard : Claim7 := { stood := { row := predlexKindsRow, standIns := [], harness := (true, "a08caceea02d86a17b04fc1051e95156f83a11da417d1d2f5d2b67ed65b66883"), looks := true }, kinds := [], alts := [], laidByText := true, laidKinds := [.data, .data, .data, .sentinel, .sentinel], laidTests := true, laidLooks := .later }
def PredlexKindsCardSaid : Prop := Claim7.holds Tryd.pinned (.plain (OpenSpec.ofChange predlexKindsSpec)) predlexKindsCard

/-- THE TIED CARD OF 'antecedelaw26.PredlexBack'. -/
def predlexBackCard : Claim7 := { stood := { row := predlexBackRow, standIns := [], harness := (true, "a08caceea02d86a17b04fc1051e95156f83a11da417d1d2f5d2b67ed65b66883"), looks := true }, kinds := [], alts := [], laidByText := true, laidKinds := [.data, .data, .data, .sentinel, .sentinel], laidTests := true, laidLooks := .later }
def PredlexBackCardSaid : Prop := Claim7.holds Tryd.pinned (.plain (OpenSpec.ofChange predlexBackSpec)) predlexBackCard

/-- THE SECOND FORM's CARD OF 'antecedelaw26.PredlexWords'. -/
def predlexWordsUptoCard : Claim7 := { stood := { row := predlexWordsUptoRow, standIns := [], harness := (true, "a08caceea02d86a17b04fc1051e95156f83a11da417d1d2f5d2b67ed65b66883"), looks := true }, kinds := [], alts := [], laidByText := true, laidKinds := [.data, .data, .data, .sentinel, .sentinel], laidTests := true, laidLooks := .later }
def PredlexWordsUptoCardSaid : Prop := Claim7.holds Tryd.pinned (.plain (OpenSpec.upto predlexWordsSpec)) predlexWordsUptoCard

/-- THE SECOND FORM's CARD OF 'antecedelaw26.PredlexPlaces'. -/
def predlexPlacesUptoCard : Claim7 := { stood := { row := predlexPlacesUptoRow, standIns := [], harness := (true, "a08caceea02d86a17b04fc1051e95156f83a11da417d1d2f5d2b67ed65b66883"), looks := true }, kinds := [], alts := [], laidByText := true, laidKinds := [.data, .data, .data, .sentinel, .sentinel], laidTests := true, laidLooks := .later }
def PredlexPlacesUptoCardSaid : Prop := Claim7.holds Tryd.pinned (.plain (OpenSpec.upto predlexPlacesSpec)) predlexPlacesUptoCard

/-- THE SECOND FORM's CARD OF 'antecedelaw26.PredlexStands'. -/
def predlexStandsUptoCard : Claim7 := { stood := { row := predlexStandsUptoRow, standIns := [], harness := (true, "a08caceea02d86a17b04fc1051e95156f83a11da417d1d2f5d2b67ed65b66883"), looks := true }, kinds := [], alts := [], laidByText := true, laidKinds := [.data, .data, .data, .sentinel, .sentinel], laidTests := true, laidLooks := .later }
def PredlexStandsUptoCardSaid : Prop := Claim7.holds Tryd.pinned (.plain (OpenSpec.upto predlexStandsSpec)) predlexStandsUptoCard

/-- THE SECOND FORM's CARD OF 'antecedelaw26.PredlexBlanks'. -/
def predlexBlanksUptoCard : Claim7 := { stood := { row := predlexBlanksUptoRow, standIns := [], harness := (true, "a08caceea02d86a17b04fc1051e95156f83a11da417d1d2f5d2b67ed65b66883"), looks := true }, kinds := [], alts := [], laidByText := true, laidKinds := [.data, .data, .data, .sentinel, .sentinel], laidTests := true, laidLooks := .later }
def PredlexBlanksUptoCardSaid : Prop := Claim7.holds Tryd.pinned (.plain (OpenSpec.upto predlexBlanksSpec)) predlexBlanksUptoCard

/-- THE SECOND FORM's CARD OF 'antecedelaw26.PredlexKinds'. -/
def predlexKindsUptoCard : Claim7 := { stood := { row := predlexKindsUptoRow, standIns := [], harness := (true, "a08caceea02d86a17b04fc1051e95156f83a11da417d1d2f5d2b67ed65b66883"), looks := true }, kinds := [], alts := [], laidByText := true, laidKinds := [.data, .data, .data, .sentinel, .sentinel], laidTests := true, laidLooks := .later }
def PredlexKindsUptoCardSaid : Prop := Claim7.holds Tryd.pinned (.plain (OpenSpec.upto predlexKindsSpec)) predlexKindsUptoCard

/-- THE SECOND FORM's CARD OF 'antecedelaw26.PredlexBack'. -/
def predlexBackUptoCard : Claim7 := { stood := { row := predlexBackUptoRow, standIns := [], harness := (true, "a08caceea02d86a17b04fc1051e95156f83a11da417d1d2f5d2b67ed65b66883"), looks := true }, kinds := [], alts := [], laidByText := true, laidKinds := [.data, .data, .data, .sentinel, .sentinel], laidTests := true, laidLooks := .later }
def PredlexBackUptoCardSaid : Prop := Claim7.holds Tryd.pinned (.plain (OpenSpec.upto predlexBackSpec)) predlexBackUptoCard
end Rows
end Go.Proofs.YtlkebnobcfffeaaDoor
