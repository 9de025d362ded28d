/-
  The reference's numbers of parts, walked.
  Conditions: none.
-/
import Derived.Test.YthjalkonlcjhnaaGreatDoorRb
import Derived.Test.YthjalkonlcjhnaaGreatDoorTc
namespace Go.Proofs.YthjalkonlcjhnaaGreatDoor
open Go.RowKit
set_option maxHeartbeats 1600000 in
theorem rParts_c (k : Int) (w : World) : Calls Tryz.prog 99 #[.int .i64 k] w (Ret w (.int .i64 (partsI k))) := by
  by_cases hk : 1 ≤ k ∧ k ≤ 21
  · have hc : k = 1 ∨ k = 2 ∨ k = 3 ∨ k = 4 ∨ k = 5 ∨ k = 6 ∨ k = 7 ∨ k = 8 ∨ k = 9 ∨ k = 10 ∨ k = 11 ∨ k = 12 ∨ k = 13 ∨ k = 14 ∨ k = 15 ∨ k = 16 ∨ k = 17 ∨ k = 18 ∨ k = 19 ∨ k = 20 ∨ k = 21 := by omega
    clear hk
    rcases hc with rfl | rfl | rfl | rfl | rfl | rfl | rfl | rfl | rfl | rfl | rfl | rfl | rfl | rfl | rfl | rfl | rfl | rfl | rfl | rfl | rfl
    all_goals
      go_enter Tryz.func99, Tryz.ntmps99
      go_wp2_with fail
      go_ret
      exact Ret.mk (by simp [partsI]) (Ex.refl _)
  · have hn : partsI k = (-1) := by unfold partsI; rw [if_neg (show ¬ (k = 1 ∨ k = 2 ∨ k = 3 ∨ k = 4 ∨ k = 13 ∨ k = 14) by omega), if_neg (show ¬ (k = 5 ∨ k = 15 ∨ k = 18 ∨ k = 19 ∨ k = 20 ∨ k = 21) by omega), if_neg (show ¬ (k = 6 ∨ k = 7 ∨ k = 8 ∨ k = 9 ∨ k = 10 ∨ k = 11 ∨ k = 12 ∨ k = 16 ∨ k = 17) by omega)]
    rw [hn]
    have b1 : (k == 1) = false := beq_eq_false_iff_ne.2 (by omega)
    have b2 : (k == 2) = false := beq_eq_false_iff_ne.2 (by omega)
    have b3 : (k == 3) = false := beq_eq_false_iff_ne.2 (by omega)
    have b4 : (k == 4) = false := beq_eq_false_iff_ne.2 (by omega)
    have b5 : (k == 13) = false := beq_eq_false_iff_ne.2 (by omega)
    have b6 : (k == 14) = false := beq_eq_false_iff_ne.2 (by omega)
    have b7 : (k == 5) = false := beq_eq_false_iff_ne.2 (by omega)
    have b8 : (k == 15) = false := beq_eq_false_iff_ne.2 (by omega)
    have b9 : (k == 18) = false := beq_eq_false_iff_ne.2 (by omega)
    have b10 : (k == 19) = false := beq_eq_false_iff_ne.2 (by omega)
    have b11 : (k == 20) = false := beq_eq_false_iff_ne.2 (by omega)
    have b12 : (k == 21) = false := beq_eq_false_iff_ne.2 (by omega)
    by_cases h1 : k < 1
    · have z1 : decide (k < 1) = true := decide_eq_true h1
      clear hk hn h1
      go_enter Tryz.func99, Tryz.ntmps99
      go_wp2_with fail
      go_ret
      exact Ret.mk rfl (Ex.refl _)
    · have z1 : decide (k < 1) = false := decide_eq_false h1
      have z2 : decide (21 < k) = true := decide_eq_true (by omega)
      clear hk hn h1
      go_enter Tryz.func99, Tryz.ntmps99
      go_wp2_with fail
      go_ret
      exact Ret.mk rfl (Ex.refl _)
end Go.Proofs.YthjalkonlcjhnaaGreatDoor
