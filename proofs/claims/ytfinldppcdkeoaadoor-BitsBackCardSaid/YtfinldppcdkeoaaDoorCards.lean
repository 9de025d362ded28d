/-
  DERIVED. GIVEN WITH THE SEED: THE CARDS: each row of YtfinldppcdkeoaaDoorRows.lean that lists a variable, with what it lists TIED to the program's text (the seventh form; the later family's looks); each row that meets fmt, with fmt's text TOLD by the authors' own Lean function (tested against real Go, not proved from fmt's source: count such statements apart). THE CARD IS WHAT COUNTS. Prove the row's statement (the work); the ties are given (YtfinldppcdkeoaaDoorTie.lean); close each card by the builder's one call (the guide's Derived/Test/ToyasCard.lean, 'card_holds'). Laid BY PROGRAM, IN A SANDBOX (cutbox-door.mjs). By AI agents, Wed Nov 11 2026. No macro, syntax, notation, axiom, sorry.
-/
import Derived.Test.YtfinldppcdkeoaaDoorRows
import GoSem.ClaimSeven
namespace Go.Proofs.YtfinldppcdkeoaaDoor
namespace Rows

/-- THE TIED CARD OF 'antecedelaw02.BitsForms'. -/
def bitsFormsCard : Claim7 := { stood := { row := bitsFormsRow, standIns := [], harness := (true, "0c7e640e11c6b78af26eb0a8862865a14ec625fa7bd2b5b7a8010a41ef5535ad"), looks := false }, kinds := [], alts := [], laidByText := true, laidKinds := [.data], laidTests := true, laidLooks := .later }
def BitsFormsCardSaid : Prop := Claim7.holds Tryd.pinned (.plain (OpenSpec.ofChange bitsFormsSpec)) bitsFormsCard

/-- THE TIED CARD OF 'antecedelaw02.BitsOrders'. -/
def bitsOrdersCard : Claim7 := { stood := { row := bitsOrdersRow, standIns := [], harness := (true, "0c7e640e11c6b78af26eb0a8862865a14ec625fa7bd2b5b7a8010a41ef5535ad"), looks := false }, kinds := [], alts := [], laidByText := true, laidKinds := [.data], laidTests := true, laidLooks := .later }
def BitsOrdersCardSaid : Prop := Claim7.holds Tryd.pinned (.plain (OpenSpec.ofChange bitsOrdersSpec)) bitsOrdersCard

/-- THE TIED CARD OF 'antecedelaw02.BitsChanges'. -/
def bitsChangesCard : Claim7 := { stood := { row := bitsChangesRow, standIns := [], harness := (true, "0c7e640e11c6b78af26eb0a8862865a14ec625fa7bd2b5b7a8010a41ef5535ad"), looks := false }, kinds := [], alts := [], laidByText := true, laidKinds := [.data], laidTests := true, laidLooks := .later }
def BitsChangesCardSaid : Prop := Claim7.holds Tryd.pinned (.plain (OpenSpec.ofChange bitsChangesSpec)) bitsChangesCard

/-- THE TIED CARD OF 'antecedelaw02.BitsJoins'. -/
def bitsJoinsCard : Claim7 := { stood := { row := bitsJoinsRow, standIns := [], harness := (true, "0c7e640e11c6b78af26eb0a8862865a14ec625fa7bd2b5b7a8010a41ef5535ad"), looks := false }, kinds := [], alts := [], laidByText := true, laidKinds := [.data], laidTests := true, laidLooks := .later }
def BitsJoinsCardSaid : Prop := Claim7.holds Tryd.pinned (.plain (OpenSpec.ofChange bitsJoinsSpec)) bitsJoinsCard

/-- THE TIED CARD OF 'antecedelaw02.BitsAlgebra'. -/
def bitsAlgebraCard : Claim7 := { stood := { row := bitsAlgebraRow, standIns := [], harness := (true, "0c7e640e11c6b78af26eb0a8862865a14ec625fa7bd2b5b7a8010a41ef5535ad"), looks := false }, kinds := [], alts := [], laidByText := true, laidKinds := [.data], laidTests := true, laidLooks := .later }
def BitsAlgebraCardSaid : Prop := Claim7.holds Tryd.pinned (.plain (OpenSpec.ofChange bitsAlgebraSpec)) bitsAlgebraCard

/-- THE TIED CARD OF 'antecedelaw02.BitsSteps'. -/
def bitsStepsCard : Claim7 := { stood := { row := bitsStepsRow, standIns := [], harness := (true, "0c7e640e11c6b78af26eb0a8862865a14ec625fa7bd2b5b7a8010a41ef5535ad"), looks := false }, kinds := [], alts := [], laidByText := true, laidKinds := [.data], laidTests := true, laidLooks := .later }
def BitsStepsCardSaid : Prop := Claim7.holds Tryd.pinned (.plain (OpenSpec.ofChange bitsStepsSpec)) bitsStepsCard

/-- THE TIED CARD OF 'antecedelaw02.BitsTotal'. -/
def bitsTotalCard : Claim7 := { stood := { row := bitsTotalRow, standIns := [], harness := (true, "0c7e640e11c6b78af26eb0a8862865a14ec625fa7bd2b5b7a8010a41ef5535ad"), looks := false }, kinds := [], alts := [], laidByText := true, laidKinds := [.data], laidTests := true, laidLooks := .later }
def BitsTotalCardSaid : Prop := Claim7.holds Tryd.pinned (.plain (OpenSpec.ofChange bitsTotalSpec)) bitsTotalCard

/-- THE TIED CARD OF 'antecedelaw02.BitsBack'. -/
def bitsBackCard : Claim7 := { stood := { row := bitsBackRow, standIns := [], harness := (true, "0c7e640e11c6b78af26eb0a8862865a14ec625fa7bd2b5b7a8010a41ef5535ad"), looks := false }, kinds := [], alts := [], laidByText := true, laidKinds := [.data], laidTests := true, laidLooks := .later }
def BitsBackCardSaid : Prop := Claim7.holds Tryd.pinned (.plain (OpenSpec.ofChange bitsBackSpec)) bitsBackCard

/-- THE SECOND FORM's CARD OF 'antecedelaw02.BitsForms'. -/
def bitsFormsUptoCard : Claim7 := { stood := { row := bitsFormsUptoRow, standIns := [], harness := (true, "0c7e640e11c6b78af26eb0a8862865a14ec625fa7bd2b5b7a8010a41ef5535ad"), looks := false }, kinds := [], alts := [], laidByText := true, laidKinds := [.data], laidTests := true, laidLooks := .later }
def BitsFormsUptoCardSaid : Prop := Claim7.holds Tryd.pinned (.plain (OpenSpec.upto bitsFormsSpec)) bitsFormsUptoCard

/-- THE SECOND FORM's CARD OF 'antecedelaw02.BitsOrders'. -/
def bitsOrdersUptoCard : Claim7 := { stood := { row := bitsOrdersUptoRow, standIns := [], harness := (true, "0c7e640e11c6b78af26eb0a8862865a14ec625fa7bd2b5b7a8010a41ef5535ad"), looks := false }, kinds := [], alts := [], laidByText := true, laidKinds := [.data], laidTests := true, laidLooks := .later }
def BitsOrdersUptoCardSaid : Prop := Claim7.holds Tryd.pinned (.plain (OpenSpec.upto bitsOrdersSpec)) bitsOrdersUptoCard

/-- THE SECOND FORM's CARD OF 'antecedelaw02.BitsChanges'. -/
def bitsChangesUptoCard : Claim7 := { stood := { row := bitsChangesUptoRow, standIns := [], harness := (true, "0c7e640e11c6b78af26eb0a8862865a14ec625fa7bd2b5b7a8010a41ef5535ad"), looks := false }, kinds := [], alts := [], laidByText := true, laidKinds := [.data], laidTests := true, laidLooks := .later }
def BitsChangesUptoCardSaid : Prop := Claim7.holds Tryd.pinned (.plain (OpenSpec.upto bitsChangesSpec)) bitsChangesUptoCard

/-- THE SECOND FORM's CARD OF 'antecedelaw02.BitsJoins'. -/
def bitsJoinsUptoCard : Claim7 := { stood := { row := bitsJoinsUptoRow, standIns := [], harness := (true, "0c7e640e11c6b78af26eb0a8862865a14ec625fa7bd2b5b7a8010a41ef5535ad"), looks := false }, kinds := [], alts := [], laidByText := true, laidKinds := [.data], laidTests := true, laidLooks := .later }
def BitsJoinsUptoCardSaid : Prop := Claim7.holds Tryd.pinned (.plain (OpenSpec.upto bitsJoinsSpec)) bitsJoinsUptoCard

/-- THE SECOND FORM's CARD OF 'antecedelaw02.BitsAlgebra'. -/
def bitsAlgebraUptoCard : Claim7 := { stood := { row := bitsAlgebraUptoRow, standIns := [], harness := (true, "0c7e640e11c6b78af26eb0a8862865a14ec625fa7bd2b5b7a8010a41ef5535ad"), looks := false }, kinds := [], alts := [], laidByText := true, laidKinds := [.data], laidTests := true, laidLooks := .later }
def BitsAlgebraUptoCardSaid : Prop := Claim7.holds Tryd.pinned (.plain (OpenSpec.upto bitsAlgebraSpec)) bitsAlgebraUptoCard

/-- THE SECOND FORM's CARD OF 'antecedelaw02.BitsSteps'. -/
def bitsStepsUptoCard : Claim7 := { stood := { row := bitsStepsUptoRow, standIns := [], harness := (true, "0c7e640e11c6b78af26eb0a8862865a14ec625fa7bd2b5b7a8010a41ef5535ad"), looks := false }, kinds := [], alts := [], laidByText := true, laidKinds := [.data], laidTests := true, laidLooks := .later }
def BitsStepsUptoCardSaid : Prop := Claim7.holds Tryd.pinned (.plain (OpenSpec.upto bitsStepsSpec)) bitsStepsUptoCard

/-- THE SECOND FORM's CARD OF 'antecedelaw02.BitsTotal'. -/
def bitsTotalUptoCard : Claim7 := { stood := { row := bitsTotalUptoRow, standIns := [], harness := (true, "0c7e640e11c6b78af26eb0a8862865a14ec625fa7bd2b5b7a8010a41ef5535ad"), looks := false }, kinds := [], alts := [], laidByText := true, laidKinds := [.data], laidTests := true, laidLooks := .later }
def BitsTotalUptoCardSaid : Prop := Claim7.holds Tryd.pinned (.plain (OpenSpec.upto bitsTotalSpec)) bitsTotalUptoCard

/-- THE SECOND FORM's CARD OF 'antecedelaw02.BitsBack'. -/
def bitsBackUptoCard : Claim7 := { stood := { row := bitsBackUptoRow, standIns := [], harness := (true, "0c7e640e11c6b78af26eb0a8862865a14ec625fa7bd2b5b7a8010a41ef5535ad"), looks := false }, kinds := [], alts := [], laidByText := true, laidKinds := [.data], laidTests := true, laidLooks := .later }
def BitsBackUptoCardSaid : Prop := Claim7.holds Tryd.pinned (.plain (OpenSpec.upto bitsBackSpec)) bitsBackUptoCard
end Rows
end Go.Proofs.YtfinldppcdkeoaaDoor
