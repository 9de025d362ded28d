/-
  No cell of these rows narrows 'for every input' (looked for: loops, veiled, ifaces, maps, wideKeys, modest, calm, conditions, laid).
  DERIVED. THE GIVEN ROWS OF THIS SEAT. 7 by the template 'for every input the law returns true; each argument reads behind the call as it read before'; 0 by the template 'total and deterministic' (their statements: YtdenojfbdkdpiaaTotals.lean).
  GIVEN WITH THE SEED: the statements are not yours to turn. If you find one false, say at which input.
  Laid BY PROGRAM, IN A SANDBOX (cutbox-rows.mjs): the forced cells as the released guide's own fill.sh prints them over the translation e14bd5a7459f02bf… (all of the seat's roots in one cut). By AI agents, Wed Nov 11 2026. No macro, syntax, notation, axiom, sorry.
-/
import Derived.Test.YtdenojfbdkdpiaaChecked
import GoSem.Claim
import GoSem.ClaimJoined
import GoSem.ClaimMapViews
import Derived.JoinedTies
import Derived.KernelRfl
namespace Go.Proofs.Ytdenojfbdkdpiaa
/- THE CELL 'sum', in the pinned program and in every row, IS THE sha256 OF THE DUMP (.gsa) THAT YtdenojfbdkdpiaaProg.lean LOADS. Nothing in Lean hashes anything: it is a label: what it is worth is what the hold of that sum in a sandbox is worth. -/
noncomputable def Try.pinned : Pinned := { name := "ytdenojfbdkdpiaa", sum := "e14bd5a7459f02bf72f72d6a0875291ed5b7fb97797f66086348e63864e6b17e", checked := Try.checked }
namespace Rows
def none {H : Type} : Left H := { results := [], args := [] }

/-- 'antecedelaw46.RecoveryZigzags': WHATEVER THE INPUT: true; the input reads as it did. -/
def recoveryZigzagsSpec : ChangeSpec := { name := "recoveryZigzags", fn := fun _ => fun
  | [d1, d2, d3, d4] => { results := [.lit (.bool true)], args := [d1, d2, d3, d4] }
  | _ => none }
def recoveryZigzagsRow : OpenClaim := { program := "ytdenojfbdkdpiaa", sum := "e14bd5a7459f02bf72f72d6a0875291ed5b7fb97797f66086348e63864e6b17e", func := "antecede/antecedelaw46.RecoveryZigzags", spec := "recoveryZigzags", unfollowed := true, recurses := true, plainKeys := false, apart := false }
def RecoveryZigzagsSaid : Prop := recoveryZigzagsRow.holds Try.pinned (OpenSpec.ofChange recoveryZigzagsSpec)

/-- ITS FALSE NEIGHBOUR: 'it returns false'. Refute it at one input. -/
def recoveryZigzagsWrong : ChangeSpec := { name := "recoveryZigzags", fn := fun _ => fun
  | [d1, d2, d3, d4] => { results := [.lit (.bool false)], args := [d1, d2, d3, d4] }
  | _ => none }
def RecoveryZigzagsWrongFalsely : Prop := recoveryZigzagsRow.holds Try.pinned (OpenSpec.ofChange recoveryZigzagsWrong)

/-- 'antecedelaw46.RecoveryPairs': WHATEVER THE INPUT: true; the input reads as it did. -/
def recoveryPairsSpec : ChangeSpec := { name := "recoveryPairs", fn := fun _ => fun
  | [d1, d2, d3, d4] => { results := [.lit (.bool true)], args := [d1, d2, d3, d4] }
  | _ => none }
def recoveryPairsRow : OpenClaim := { program := "ytdenojfbdkdpiaa", sum := "e14bd5a7459f02bf72f72d6a0875291ed5b7fb97797f66086348e63864e6b17e", func := "antecede/antecedelaw46.RecoveryPairs", spec := "recoveryPairs", unfollowed := true, recurses := true, plainKeys := false, apart := false }
def RecoveryPairsSaid : Prop := recoveryPairsRow.holds Try.pinned (OpenSpec.ofChange recoveryPairsSpec)

/-- ITS FALSE NEIGHBOUR: 'it returns false'. Refute it at one input. -/
def recoveryPairsWrong : ChangeSpec := { name := "recoveryPairs", fn := fun _ => fun
  | [d1, d2, d3, d4] => { results := [.lit (.bool false)], args := [d1, d2, d3, d4] }
  | _ => none }
def RecoveryPairsWrongFalsely : Prop := recoveryPairsRow.holds Try.pinned (OpenSpec.ofChange recoveryPairsWrong)

/-- 'antecedelaw46.RecoveryLines': WHATEVER THE INPUT: true; the input reads as it did. -/
def recoveryLinesSpec : ChangeSpec := { name := "recoveryLines", fn := fun _ => fun
  | [d1, d2, d3] => { results := [.lit (.bool true)], args := [d1, d2, d3] }
  | _ => none }
def recoveryLinesRow : OpenClaim := { program := "ytdenojfbdkdpiaa", sum := "e14bd5a7459f02bf72f72d6a0875291ed5b7fb97797f66086348e63864e6b17e", func := "antecede/antecedelaw46.RecoveryLines", spec := "recoveryLines", unfollowed := true, recurses := true, plainKeys := false, apart := false }
def RecoveryLinesSaid : Prop := recoveryLinesRow.holds Try.pinned (OpenSpec.ofChange recoveryLinesSpec)

/-- ITS FALSE NEIGHBOUR: 'it returns false'. Refute it at one input. -/
def recoveryLinesWrong : ChangeSpec := { name := "recoveryLines", fn := fun _ => fun
  | [d1, d2, d3] => { results := [.lit (.bool false)], args := [d1, d2, d3] }
  | _ => none }
def RecoveryLinesWrongFalsely : Prop := recoveryLinesRow.holds Try.pinned (OpenSpec.ofChange recoveryLinesWrong)

/-- 'antecedelaw46.RecoveryNetzerXu': WHATEVER THE INPUT: true; the input reads as it did. -/
def recoveryNetzerXuSpec : ChangeSpec := { name := "recoveryNetzerXu", fn := fun _ => fun
  | [d1, d2] => { results := [.lit (.bool true)], args := [d1, d2] }
  | _ => none }
def recoveryNetzerXuRow : OpenClaim := { program := "ytdenojfbdkdpiaa", sum := "e14bd5a7459f02bf72f72d6a0875291ed5b7fb97797f66086348e63864e6b17e", func := "antecede/antecedelaw46.RecoveryNetzerXu", spec := "recoveryNetzerXu", unfollowed := true, recurses := true, plainKeys := false, apart := false }
def RecoveryNetzerXuSaid : Prop := recoveryNetzerXuRow.holds Try.pinned (OpenSpec.ofChange recoveryNetzerXuSpec)

/-- ITS FALSE NEIGHBOUR: 'it returns false'. Refute it at one input. -/
def recoveryNetzerXuWrong : ChangeSpec := { name := "recoveryNetzerXu", fn := fun _ => fun
  | [d1, d2] => { results := [.lit (.bool false)], args := [d1, d2] }
  | _ => none }
def RecoveryNetzerXuWrongFalsely : Prop := recoveryNetzerXuRow.holds Try.pinned (OpenSpec.ofChange recoveryNetzerXuWrong)

/-- 'antecedelaw46.RecoveryDomino': WHATEVER THE INPUT: true; the input reads as it did. -/
def recoveryDominoSpec : ChangeSpec := { name := "recoveryDomino", fn := fun _ => fun
  | [d] => { results := [.lit (.bool true)], args := [d] }
  | _ => none }
def recoveryDominoRow : OpenClaim := { program := "ytdenojfbdkdpiaa", sum := "e14bd5a7459f02bf72f72d6a0875291ed5b7fb97797f66086348e63864e6b17e", func := "antecede/antecedelaw46.RecoveryDomino", spec := "recoveryDomino", unfollowed := true, recurses := true, plainKeys := false, apart := false }
def RecoveryDominoSaid : Prop := recoveryDominoRow.holds Try.pinned (OpenSpec.ofChange recoveryDominoSpec)

/-- ITS FALSE NEIGHBOUR: 'it returns false'. Refute it at one input. -/
def recoveryDominoWrong : ChangeSpec := { name := "recoveryDomino", fn := fun _ => fun
  | [d] => { results := [.lit (.bool false)], args := [d] }
  | _ => none }
def RecoveryDominoWrongFalsely : Prop := recoveryDominoRow.holds Try.pinned (OpenSpec.ofChange recoveryDominoWrong)

/-- 'antecedelaw46.RecoveryMore': WHATEVER THE INPUT: true; the input reads as it did. -/
def recoveryMoreSpec : ChangeSpec := { name := "recoveryMore", fn := fun _ => fun
  | [d1, d2, d3, d4] => { results := [.lit (.bool true)], args := [d1, d2, d3, d4] }
  | _ => none }
def recoveryMoreRow : OpenClaim := { program := "ytdenojfbdkdpiaa", sum := "e14bd5a7459f02bf72f72d6a0875291ed5b7fb97797f66086348e63864e6b17e", func := "antecede/antecedelaw46.RecoveryMore", spec := "recoveryMore", unfollowed := true, recurses := true, plainKeys := false, apart := false }
def RecoveryMoreSaid : Prop := recoveryMoreRow.holds Try.pinned (OpenSpec.ofChange recoveryMoreSpec)

/-- ITS FALSE NEIGHBOUR: 'it returns false'. Refute it at one input. -/
def recoveryMoreWrong : ChangeSpec := { name := "recoveryMore", fn := fun _ => fun
  | [d1, d2, d3, d4] => { results := [.lit (.bool false)], args := [d1, d2, d3, d4] }
  | _ => none }
def RecoveryMoreWrongFalsely : Prop := recoveryMoreRow.holds Try.pinned (OpenSpec.ofChange recoveryMoreWrong)

/-- 'antecedelaw46.RecoveryGreatest': WHATEVER THE INPUT: true; the input reads as it did. -/
def recoveryGreatestSpec : ChangeSpec := { name := "recoveryGreatest", fn := fun _ => fun
  | [d1, d2, d3, d4] => { results := [.lit (.bool true)], args := [d1, d2, d3, d4] }
  | _ => none }
def recoveryGreatestRow : OpenClaim := { program := "ytdenojfbdkdpiaa", sum := "e14bd5a7459f02bf72f72d6a0875291ed5b7fb97797f66086348e63864e6b17e", func := "antecede/antecedelaw46.RecoveryGreatest", spec := "recoveryGreatest", unfollowed := true, recurses := true, plainKeys := false, apart := false }
def RecoveryGreatestSaid : Prop := recoveryGreatestRow.holds Try.pinned (OpenSpec.ofChange recoveryGreatestSpec)

/-- ITS FALSE NEIGHBOUR: 'it returns false'. Refute it at one input. -/
def recoveryGreatestWrong : ChangeSpec := { name := "recoveryGreatest", fn := fun _ => fun
  | [d1, d2, d3, d4] => { results := [.lit (.bool false)], args := [d1, d2, d3, d4] }
  | _ => none }
def RecoveryGreatestWrongFalsely : Prop := recoveryGreatestRow.holds Try.pinned (OpenSpec.ofChange recoveryGreatestWrong)

/- THE SECOND FORM. 'bulk': how many values and letters a reading holds, each counted each time it is reached (what is shared counts as often as it is met; a slice's spare places count too). A statement '..UptoSaid' is the law's where the arguments, and the package variables that the reading takes, are together of bulk at most 1048576: NARROWER than '..Said'. Prove '..Said' where nothing that the law and all that it calls make is longer than what came in: it says more and counts as full. Else prove '..UptoSaid'. A law counts once. -/
mutual
def uptoBulk {H : Type} : DataW H → Nat
  | .lit (.string bytes) => bytes.length + 1
  | .lit _ => 1
  | .nil => 1
  | .ptr d => uptoBulk d + 1
  | .slice elems spare => uptoBulkAll elems + uptoBulkAll spare + 1
  | .agg parts => uptoBulkAll parts + 1
  | .iface _ d => uptoBulk d + 1
  | .map entries => uptoBulkEntries entries + 1
  | .held _ => 1
def uptoBulkAll {H : Type} : List (DataW H) → Nat
  | [] => 0
  | d :: r => uptoBulk d + uptoBulkAll r
def uptoBulkEntries {H : Type} : List (Lit × DataW H) → Nat
  | [] => 0
  | x :: r => uptoBulkEntry x + uptoBulkEntries r
def uptoBulkEntry {H : Type} : Lit × DataW H → Nat
  | (.string bytes, d) => bytes.length + uptoBulk d + 1
  | (_, d) => uptoBulk d + 1
 end
def uptoSmall : (H : Type) → List (DataW H) → Bool := fun _ ds => decide (uptoBulkAll ds ≤ 1048576)
def OpenSpec.upto (s : _root_.Go.ChangeSpec) : _root_.Go.OpenSpec := { _root_.Go.OpenSpec.ofChange s with cond := some uptoSmall }

/-- 'antecedelaw46.RecoveryZigzags', WHERE WHAT IT READS IS OF BULK AT MOST 1048576: true; the input reads as it did. -/
def recoveryZigzagsUptoRow : OpenClaim := { program := "ytdenojfbdkdpiaa", sum := "e14bd5a7459f02bf72f72d6a0875291ed5b7fb97797f66086348e63864e6b17e", func := "antecede/antecedelaw46.RecoveryZigzags", spec := "recoveryZigzags", unfollowed := true, recurses := true, plainKeys := false, apart := false, narrowed := true }
def RecoveryZigzagsUptoSaid : Prop := recoveryZigzagsUptoRow.holds Try.pinned (OpenSpec.upto recoveryZigzagsSpec)

/-- 'antecedelaw46.RecoveryPairs', WHERE WHAT IT READS IS OF BULK AT MOST 1048576: true; the input reads as it did. -/
def recoveryPairsUptoRow : OpenClaim := { program := "ytdenojfbdkdpiaa", sum := "e14bd5a7459f02bf72f72d6a0875291ed5b7fb97797f66086348e63864e6b17e", func := "antecede/antecedelaw46.RecoveryPairs", spec := "recoveryPairs", unfollowed := true, recurses := true, plainKeys := false, apart := false, narrowed := true }
def RecoveryPairsUptoSaid : Prop := recoveryPairsUptoRow.holds Try.pinned (OpenSpec.upto recoveryPairsSpec)

/-- 'antecedelaw46.RecoveryLines', WHERE WHAT IT READS IS OF BULK AT MOST 1048576: true; the input reads as it did. -/
def recoveryLinesUptoRow : OpenClaim := { program := "ytdenojfbdkdpiaa", sum := "e14bd5a7459f02bf72f72d6a0875291ed5b7fb97797f66086348e63864e6b17e", func := "antecede/antecedelaw46.RecoveryLines", spec := "recoveryLines", unfollowed := true, recurses := true, plainKeys := false, apart := false, narrowed := true }
def RecoveryLinesUptoSaid : Prop := recoveryLinesUptoRow.holds Try.pinned (OpenSpec.upto recoveryLinesSpec)

/-- 'antecedelaw46.RecoveryNetzerXu', WHERE WHAT IT READS IS OF BULK AT MOST 1048576: true; the input reads as it did. -/
def recoveryNetzerXuUptoRow : OpenClaim := { program := "ytdenojfbdkdpiaa", sum := "e14bd5a7459f02bf72f72d6a0875291ed5b7fb97797f66086348e63864e6b17e", func := "antecede/antecedelaw46.RecoveryNetzerXu", spec := "recoveryNetzerXu", unfollowed := true, recurses := true, plainKeys := false, apart := false, narrowed := true }
def RecoveryNetzerXuUptoSaid : Prop := recoveryNetzerXuUptoRow.holds Try.pinned (OpenSpec.upto recoveryNetzerXuSpec)

/-- 'antecedelaw46.RecoveryDomino', WHERE WHAT IT READS IS OF BULK AT MOST 1048576: true; the input reads as it did. -/
def recoveryDominoUptoRow : OpenClaim := { program := "ytdenojfbdkdpiaa", sum := "e14bd5a7459f02bf72f72d6a0875291ed5b7fb97797f66086348e63864e6b17e", func := "antecede/antecedelaw46.RecoveryDomino", spec := "recoveryDomino", unfollowed := true, recurses := true, plainKeys := false, apart := false, narrowed := true }
def RecoveryDominoUptoSaid : Prop := recoveryDominoUptoRow.holds Try.pinned (OpenSpec.upto recoveryDominoSpec)

/-- 'antecedelaw46.RecoveryMore', WHERE WHAT IT READS IS OF BULK AT MOST 1048576: true; the input reads as it did. -/
def recoveryMoreUptoRow : OpenClaim := { program := "ytdenojfbdkdpiaa", sum := "e14bd5a7459f02bf72f72d6a0875291ed5b7fb97797f66086348e63864e6b17e", func := "antecede/antecedelaw46.RecoveryMore", spec := "recoveryMore", unfollowed := true, recurses := true, plainKeys := false, apart := false, narrowed := true }
def RecoveryMoreUptoSaid : Prop := recoveryMoreUptoRow.holds Try.pinned (OpenSpec.upto recoveryMoreSpec)

/-- 'antecedelaw46.RecoveryGreatest', WHERE WHAT IT READS IS OF BULK AT MOST 1048576: true; the input reads as it did. -/
def recoveryGreatestUptoRow : OpenClaim := { program := "ytdenojfbdkdpiaa", sum := "e14bd5a7459f02bf72f72d6a0875291ed5b7fb97797f66086348e63864e6b17e", func := "antecede/antecedelaw46.RecoveryGreatest", spec := "recoveryGreatest", unfollowed := true, recurses := true, plainKeys := false, apart := false, narrowed := true }
def RecoveryGreatestUptoSaid : Prop := recoveryGreatestUptoRow.holds Try.pinned (OpenSpec.upto recoveryGreatestSpec)

end Rows
end Go.Proofs.Ytdenojfbdkdpiaa
