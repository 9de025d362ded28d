/-
  DERIVED. GIVEN WITH THE SEED: THE CARDS: each row of YthjalkonlcjhnaaGreatDoorRows.lean that lists a variable, with what it lists TIED to the program's text (the seventh form; the later family's looks); each row that meets fmt, with fmt's text TOLD by the authors' own Lean function (tested against real Go, not proved from fmt's source: count such statements apart). THE CARD IS WHAT COUNTS. Prove the row's statement (the work); the ties are given (YthjalkonlcjhnaaGreatDoorTie.lean); close each card by the builder's one call (the guide's Derived/Test/ToyasCard.lean, 'card_holds'). Laid BY PROGRAM, IN A SANDBOX (cutbox-door.mjs). By AI agents, Wed Nov 11 2026. No macro, syntax, notation, axiom, sorry.
-/
import Derived.Test.YthjalkonlcjhnaaGreatDoorRows
import GoSem.ClaimSeven
namespace Go.Proofs.YthjalkonlcjhnaaGreatDoor
namespace Rows

/-- THE TIED CARD OF 'antecedelaw27.PredparseTrees'. -/
def predparseTreesCard : Claim7 := { stood := { row := predparseTreesRow, standIns := [], harness := (true, "39f570785e41f7ed51994434eeeba4a6039219bdde5b74b8c2f10aa5f654c92c"), looks := true }, kinds := [], alts := [], laidByText := true, laidKinds := [.data, .data, .data, .sentinel, .sentinel], laidTests := true, laidLooks := .later }
def PredparseTreesCardSaid : Prop := Claim7.holds Tryz.pinned (.plain (OpenSpec.ofChange predparseTreesSpec)) predparseTreesCard

/-- THE TIED CARD OF 'antecedelaw27.PredparseTexts'. -/
def predparseTextsCard : Claim7 := { stood := { row := predparseTextsRow, standIns := [], harness := (true, "39f570785e41f7ed51994434eeeba4a6039219bdde5b74b8c2f10aa5f654c92c"), looks := true }, kinds := [], alts := [], laidByText := true, laidKinds := [.data, .data, .data, .sentinel, .sentinel], laidTests := true, laidLooks := .later }
def PredparseTextsCardSaid : Prop := Claim7.holds Tryz.pinned (.plain (OpenSpec.ofChange predparseTextsSpec)) predparseTextsCard

/-- THE TIED CARD OF 'antecedelaw27.PredparseBack'. -/
def predparseBackCard : Claim7 := { stood := { row := predparseBackRow, standIns := [], harness := (true, "39f570785e41f7ed51994434eeeba4a6039219bdde5b74b8c2f10aa5f654c92c"), looks := true }, kinds := [], alts := [], laidByText := true, laidKinds := [.data, .data, .data, .sentinel, .sentinel], laidTests := true, laidLooks := .later }
def PredparseBackCardSaid : Prop := Claim7.holds Tryz.pinned (.plain (OpenSpec.ofChange predparseBackSpec)) predparseBackCard

/-- THE TIED CARD OF 'antecedelaw27.PredparseSizes'. -/
def predparseSizesCard : Claim7 := { stood := { row := predparseSizesRow, standIns := [], harness := (true, "39f570785e41f7ed51994434eeeba4a6039219bdde5b74b8c2f10aa5f654c92c"), looks := true }, kinds := [], alts := [], laidByText := true, laidKinds := [.data, .data, .data, .sentinel, .sentinel], laidTests := true, laidLooks := .later }
def PredparseSizesCardSaid : Prop := Claim7.holds Tryz.pinned (.plain (OpenSpec.ofChange predparseSizesSpec)) predparseSizesCard

/-- THE SECOND FORM's CARD OF 'antecedelaw27.PredparseTrees'. -/
def predparseTreesUptoCard : Claim7 := { stood := { row := predparseTreesUptoRow, standIns := [], harness := (true, "39f570785e41f7ed51994434eeeba4a6039219bdde5b74b8c2f10aa5f654c92c"), looks := true }, kinds := [], alts := [], laidByText := true, laidKinds := [.data, .data, .data, .sentinel, .sentinel], laidTests := true, laidLooks := .later }
def PredparseTreesUptoCardSaid : Prop := Claim7.holds Tryz.pinned (.plain (OpenSpec.upto predparseTreesSpec)) predparseTreesUptoCard

/-- THE SECOND FORM's CARD OF 'antecedelaw27.PredparseTexts'. -/
def predparseTextsUptoCard : Claim7 := { stood := { row := predparseTextsUptoRow, standIns := [], harness := (true, "39f570785e41f7ed51994434eeeba4a6039219bdde5b74b8c2f10aa5f654c92c"), looks := true }, kinds := [], alts := [], laidByText := true, laidKinds := [.data, .data, .data, .sentinel, .sentinel], laidTests := true, laidLooks := .later }
def PredparseTextsUptoCardSaid : Prop := Claim7.holds Tryz.pinned (.plain (OpenSpec.upto predparseTextsSpec)) predparseTextsUptoCard

/-- THE SECOND FORM's CARD OF 'antecedelaw27.PredparseBack'. -/
def predparseBackUptoCard : Claim7 := { stood := { row := predparseBackUptoRow, standIns := [], harness := (true, "39f570785e41f7ed51994434eeeba4a6039219bdde5b74b8c2f10aa5f654c92c"), looks := true }, kinds := [], alts := [], laidByText := true, laidKinds := [.data, .data, .data, .sentinel, .sentinel], laidTests := true, laidLooks := .later }
def PredparseBackUptoCardSaid : Prop := Claim7.holds Tryz.pinned (.plain (OpenSpec.upto predparseBackSpec)) predparseBackUptoCard

/-- THE SECOND FORM's CARD OF 'antecedelaw27.PredparseSizes'. -/
def predparseSizesUptoCard : Claim7 := { stood := { row := predparseSizesUptoRow, standIns := [], harness := (true, "39f570785e41f7ed51994434eeeba4a6039219bdde5b74b8c2f10aa5f654c92c"), looks := true }, kinds := [], alts := [], laidByText := true, laidKinds := [.data, .data, .data, .sentinel, .sentinel], laidTests := true, laidLooks := .later }
def PredparseSizesUptoCardSaid : Prop := Claim7.holds Tryz.pinned (.plain (OpenSpec.upto predparseSizesSpec)) predparseSizesUptoCard
end Rows
end Go.Proofs.YthjalkonlcjhnaaGreatDoor
