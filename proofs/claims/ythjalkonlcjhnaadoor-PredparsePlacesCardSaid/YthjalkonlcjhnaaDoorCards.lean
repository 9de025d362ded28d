/-
  DERIVED. GIVEN WITH THE SEED: THE CARDS: each row of YthjalkonlcjhnaaDoorRows.lean that lists a variable, with what it lists TIED to the program's text (the seventh form; the later family's looks); each row that meets fmt, with fmt's text TOLD by the authors' own Lean function (tested against real Go, not proved from fmt's source: count such statements apart). THE CARD IS WHAT COUNTS. Prove the row's statement (the work); the ties are given (YthjalkonlcjhnaaDoorTie.lean); close each card by the builder's one call (the guide's Derived/Test/ToyasCard.lean, 'card_holds'). Laid BY PROGRAM, IN A SANDBOX (cutbox-door.mjs). By AI agents, Wed Nov 11 2026. No macro, syntax, notation, axiom, sorry.
-/
import Derived.Test.YthjalkonlcjhnaaDoorRows
import GoSem.ClaimSeven
namespace Go.Proofs.YthjalkonlcjhnaaDoor
namespace Rows

/-- THE TIED CARD OF 'antecedelaw27.PredparseParens'. -/
def predparseParensCard : Claim7 := { stood := { row := predparseParensRow, standIns := [], harness := (true, "e1292b643e87b73b41054ea7b09bba7fcafa35ae7a8b147697711aa919edfecb"), looks := true }, kinds := [], alts := [], laidByText := true, laidKinds := [.data, .data, .data, .sentinel, .sentinel], laidTests := true, laidLooks := .later }
def PredparseParensCardSaid : Prop := Claim7.holds Tryd.pinned (.plain (OpenSpec.ofChange predparseParensSpec)) predparseParensCard

/-- THE TIED CARD OF 'antecedelaw27.PredparsePlaces'. -/
def predparsePlacesCard : Claim7 := { stood := { row := predparsePlacesRow, standIns := [], harness := (true, "e1292b643e87b73b41054ea7b09bba7fcafa35ae7a8b147697711aa919edfecb"), looks := true }, kinds := [], alts := [], laidByText := true, laidKinds := [.data, .data, .data, .sentinel, .sentinel], laidTests := true, laidLooks := .later }
def PredparsePlacesCardSaid : Prop := Claim7.holds Tryd.pinned (.plain (OpenSpec.ofChange predparsePlacesSpec)) predparsePlacesCard

/-- THE SECOND FORM's CARD OF 'antecedelaw27.PredparseParens'. -/
def predparseParensUptoCard : Claim7 := { stood := { row := predparseParensUptoRow, standIns := [], harness := (true, "e1292b643e87b73b41054ea7b09bba7fcafa35ae7a8b147697711aa919edfecb"), looks := true }, kinds := [], alts := [], laidByText := true, laidKinds := [.data, .data, .data, .sentinel, .sentinel], laidTests := true, laidLooks := .later }
def PredparseParensUptoCardSaid : Prop := Claim7.holds Tryd.pinned (.plain (OpenSpec.upto predparseParensSpec)) predparseParensUptoCard

/-- THE SECOND FORM's CARD OF 'antecedelaw27.PredparsePlaces'. -/
def predparsePlacesUptoCard : Claim7 := { stood := { row := predparsePlacesUptoRow, standIns := [], harness := (true, "e1292b643e87b73b41054ea7b09bba7fcafa35ae7a8b147697711aa919edfecb"), looks := true }, kinds := [], alts := [], laidByText := true, laidKinds := [.data, .data, .data, .sentinel, .sentinel], laidTests := true, laidLooks := .later }
def PredparsePlacesUptoCardSaid : Prop := Claim7.holds Tryd.pinned (.plain (OpenSpec.upto predparsePlacesSpec)) predparsePlacesUptoCard
end Rows
end Go.Proofs.YthjalkonlcjhnaaDoor
