/-
  No cell of these rows narrows 'for every input' (looked for: loops, veiled, ifaces, maps, wideKeys, modest, calm, conditions, laid).
  DERIVED. THE GIVEN ROWS OF THIS SEAT. 2 by the template 'for every input the law returns true; each argument reads behind the call as it read before'; 0 by the template 'total and deterministic' (their statements: YtdenojfbdkdpiaaGreatTotals.lean).
  GIVEN WITH THE SEED: the statements are not yours to turn. If you find one false, say at which input.
  Laid BY PROGRAM, IN A SANDBOX (cutbox-rows.mjs): the forced cells as the released guide's own fill.sh prints them over the translation 6d1994ada21d9abc… (all of the seat's roots in one cut). By AI agents, Wed Nov 11 2026. No macro, syntax, notation, axiom, sorry.
-/
import Derived.Test.YtdenojfbdkdpiaaGreatChecked
import GoSem.Claim
import GoSem.ClaimJoined
import GoSem.ClaimMapViews
import Derived.JoinedTies
import Derived.KernelRfl
namespace Go.Proofs.YtdenojfbdkdpiaaGreat
/- THE CELL 'sum', in the pinned program and in every row, IS THE sha256 OF THE DUMP (.gsa) THAT YtdenojfbdkdpiaaGreatProg.lean LOADS. Nothing in Lean hashes anything: it is a label: what it is worth is what the hold of that sum in a sandbox is worth. -/
noncomputable def Tryz.pinned : Pinned := { name := "ytdenojfbdkdpiaagreat", sum := "6d1994ada21d9abc701a3d026efc376e457f953b0e6329fec0c85580141a1e92", checked := Tryz.checked }
namespace Rows
def none {H : Type} : Left H := { results := [], args := [] }

/-- 'antecedelaw46.RecoveryLosses': WHATEVER THE INPUT: true; the input reads as it did. -/
def recoveryLossesSpec : ChangeSpec := { name := "recoveryLosses", fn := fun _ => fun
  | [d1, d2] => { results := [.lit (.bool true)], args := [d1, d2] }
  | _ => none }
def recoveryLossesRow : OpenClaim := { program := "ytdenojfbdkdpiaagreat", sum := "6d1994ada21d9abc701a3d026efc376e457f953b0e6329fec0c85580141a1e92", func := "antecede/antecedelaw46.RecoveryLosses", spec := "recoveryLosses", unfollowed := true, recurses := true, plainKeys := false, apart := false }
def RecoveryLossesSaid : Prop := recoveryLossesRow.holds Tryz.pinned (OpenSpec.ofChange recoveryLossesSpec)

/-- ITS FALSE NEIGHBOUR: 'it returns false'. Refute it at one input. -/
def recoveryLossesWrong : ChangeSpec := { name := "recoveryLosses", fn := fun _ => fun
  | [d1, d2] => { results := [.lit (.bool false)], args := [d1, d2] }
  | _ => none }
def RecoveryLossesWrongFalsely : Prop := recoveryLossesRow.holds Tryz.pinned (OpenSpec.ofChange recoveryLossesWrong)

/-- 'antecedelaw46.RecoveryForces': WHATEVER THE INPUT: true; the input reads as it did. -/
def recoveryForcesSpec : ChangeSpec := { name := "recoveryForces", fn := fun _ => fun
  | [d1, d2] => { results := [.lit (.bool true)], args := [d1, d2] }
  | _ => none }
def recoveryForcesRow : OpenClaim := { program := "ytdenojfbdkdpiaagreat", sum := "6d1994ada21d9abc701a3d026efc376e457f953b0e6329fec0c85580141a1e92", func := "antecede/antecedelaw46.RecoveryForces", spec := "recoveryForces", unfollowed := true, recurses := true, plainKeys := false, apart := false }
def RecoveryForcesSaid : Prop := recoveryForcesRow.holds Tryz.pinned (OpenSpec.ofChange recoveryForcesSpec)

/-- ITS FALSE NEIGHBOUR: 'it returns false'. Refute it at one input. -/
def recoveryForcesWrong : ChangeSpec := { name := "recoveryForces", fn := fun _ => fun
  | [d1, d2] => { results := [.lit (.bool false)], args := [d1, d2] }
  | _ => none }
def RecoveryForcesWrongFalsely : Prop := recoveryForcesRow.holds Tryz.pinned (OpenSpec.ofChange recoveryForcesWrong)

/- THE SECOND FORM. 'bulk': how many values and letters a reading holds, each counted each time it is reached (what is shared counts as often as it is met; a slice's spare places count too). A statement '..UptoSaid' is the law's where the arguments, and the package variables that the reading takes, are together of bulk at most 1048576: NARROWER than '..Said'. Prove '..Said' where nothing that the law and all that it calls make is longer than what came in: it says more and counts as full. Else prove '..UptoSaid'. A law counts once. -/
mutual
def uptoBulk {H : Type} : DataW H → Nat
  | .lit (.string bytes) => bytes.length + 1
  | .lit _ => 1
  | .nil => 1
  | .ptr d => uptoBulk d + 1
  | .slice elems spare => uptoBulkAll elems + uptoBulkAll spare + 1
  | .agg parts => uptoBulkAll parts + 1
  | .iface _ d => uptoBulk d + 1
  | .map entries => uptoBulkEntries entries + 1
  | .held _ => 1
def uptoBulkAll {H : Type} : List (DataW H) → Nat
  | [] => 0
  | d :: r => uptoBulk d + uptoBulkAll r
def uptoBulkEntries {H : Type} : List (Lit × DataW H) → Nat
  | [] => 0
  | x :: r => uptoBulkEntry x + uptoBulkEntries r
def uptoBulkEntry {H : Type} : Lit × DataW H → Nat
  | (.string bytes, d) => bytes.length + uptoBulk d + 1
  | (_, d) => uptoBulk d + 1
 end
def uptoSmall : (H : Type) → List (DataW H) → Bool := fun _ ds => decide (uptoBulkAll ds ≤ 1048576)
def OpenSpec.upto (s : _root_.Go.ChangeSpec) : _root_.Go.OpenSpec := { _root_.Go.OpenSpec.ofChange s with cond := some uptoSmall }

/-- 'antecedelaw46.RecoveryLosses', WHERE WHAT IT READS IS OF BULK AT MOST 1048576: true; the input reads as it did. -/
def recoveryLossesUptoRow : OpenClaim := { program := "ytdenojfbdkdpiaagreat", sum := "6d1994ada21d9abc701a3d026efc376e457f953b0e6329fec0c85580141a1e92", func := "antecede/antecedelaw46.RecoveryLosses", spec := "recoveryLosses", unfollowed := true, recurses := true, plainKeys := false, apart := false, narrowed := true }
def RecoveryLossesUptoSaid : Prop := recoveryLossesUptoRow.holds Tryz.pinned (OpenSpec.upto recoveryLossesSpec)

/-- 'antecedelaw46.RecoveryForces', WHERE WHAT IT READS IS OF BULK AT MOST 1048576: true; the input reads as it did. -/
def recoveryForcesUptoRow : OpenClaim := { program := "ytdenojfbdkdpiaagreat", sum := "6d1994ada21d9abc701a3d026efc376e457f953b0e6329fec0c85580141a1e92", func := "antecede/antecedelaw46.RecoveryForces", spec := "recoveryForces", unfollowed := true, recurses := true, plainKeys := false, apart := false, narrowed := true }
def RecoveryForcesUptoSaid : Prop := recoveryForcesUptoRow.holds Tryz.pinned (OpenSpec.upto recoveryForcesSpec)

end Rows
end Go.Proofs.YtdenojfbdkdpiaaGreat
