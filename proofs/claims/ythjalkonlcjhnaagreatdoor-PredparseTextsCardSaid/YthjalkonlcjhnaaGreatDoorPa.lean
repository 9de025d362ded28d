/-
  Bytes: letters, digits, blanks, and how many of a kind a text begins with.
  Conditions: as each theorem says.
-/
import Derived.Test.YthjalkonlcjhnaaGreatDoorBase
import Derived.IntWalk
import Derived.RegionTactic
import Derived.ChangeAlike
namespace Go.Proofs.YthjalkonlcjhnaaGreatDoor
open Go.RowKit
def letB (c : UInt8) : Bool := (decide (65 ≤ c.toNat) && decide (c.toNat ≤ 90)) || (decide (97 ≤ c.toNat) && decide (c.toNat ≤ 122))
def digB (c : UInt8) : Bool := decide (48 ≤ c.toNat) && decide (c.toNat ≤ 57)
def blkB (c : UInt8) : Bool := (decide (c.toNat = 32) || decide (c.toNat = 9)) || decide (c.toNat = 10)
def partB (c : UInt8) : Bool := (letB c || digB c) || decide (c.toNat = 95)
theorem letter_c (c : UInt8) (w : World) : Calls Tryz.prog 57 #[.int .u8 (c.toNat : Int)] w (Ret w (.bool (letB c))) := by
  unfold letB
  generalize c.toNat = x
  by_cases a1 : 65 ≤ x <;> by_cases a2 : x ≤ 90 <;> by_cases a3 : 97 ≤ x <;> by_cases a4 : x ≤ 122
  all_goals
    go_enter Tryz.func57, Tryz.ntmps57
    go_wp2
    all_goals
      go_ret
      exact Ret.mk (by first | (simp [*]; done) | (simp [*]; omega)) (Ex.refl _)
theorem rLetter_c (c : UInt8) (w : World) : Calls Tryz.prog 121 #[.int .u8 (c.toNat : Int)] w (Ret w (.bool (letB c))) := by
  unfold letB
  generalize c.toNat = x
  by_cases a1 : 65 ≤ x <;> by_cases a2 : x ≤ 90 <;> by_cases a3 : 97 ≤ x <;> by_cases a4 : x ≤ 122
  all_goals
    go_enter Tryz.func121, Tryz.ntmps121
    go_wp2
    all_goals
      go_ret
      exact Ret.mk (by first | (simp [*]; done) | (simp [*]; omega)) (Ex.refl _)
theorem digit_c (c : UInt8) (w : World) : Calls Tryz.prog 87 #[.int .u8 (c.toNat : Int)] w (Ret w (.bool (digB c))) := by
  unfold digB
  generalize c.toNat = x
  by_cases a1 : 48 ≤ x <;> by_cases a2 : x ≤ 57
  all_goals
    go_enter Tryz.func87, Tryz.ntmps87
    go_wp2
    all_goals
      go_ret
      exact Ret.mk (by first | (simp [*]; done) | (simp [*]; omega)) (Ex.refl _)
theorem rDigit_c (c : UInt8) (w : World) : Calls Tryz.prog 122 #[.int .u8 (c.toNat : Int)] w (Ret w (.bool (digB c))) := by
  unfold digB
  generalize c.toNat = x
  by_cases a1 : 48 ≤ x <;> by_cases a2 : x ≤ 57
  all_goals
    go_enter Tryz.func122, Tryz.ntmps122
    go_wp2
    all_goals
      go_ret
      exact Ret.mk (by first | (simp [*]; done) | (simp [*]; omega)) (Ex.refl _)
theorem eq_nat (x k : Nat) : ((x : Int) == (k : Int)) = decide (x = k) := by rw [Bool.eq_iff_iff]; simp; omega
theorem blank_c (c : UInt8) (w : World) : Calls Tryz.prog 75 #[.int .u8 (c.toNat : Int)] w (Ret w (.bool (blkB c))) := by
  unfold blkB
  generalize c.toNat = x
  have b1 : ((x : Int) == 32) = decide (x = 32) := eq_nat x 32
  have b2 : ((x : Int) == 9) = decide (x = 9) := eq_nat x 9
  have b3 : ((x : Int) == 10) = decide (x = 10) := eq_nat x 10
  cases h1 : decide (x = 32) <;> cases h2 : decide (x = 9) <;> cases h3 : decide (x = 10) <;> rw [h1] at b1 <;> rw [h2] at b2 <;> rw [h3] at b3
  all_goals
    clear h1 h2 h3
    go_enter Tryz.func75, Tryz.ntmps75
    go_wp2
    all_goals
      go_ret
      exact Ret.mk (by simp) (Ex.refl _)
theorem rBlank_c (c : UInt8) (w : World) : Calls Tryz.prog 79 #[.int .u8 (c.toNat : Int)] w (Ret w (.bool (blkB c))) := by
  unfold blkB
  generalize c.toNat = x
  have b1 : ((x : Int) == 32) = decide (x = 32) := eq_nat x 32
  have b2 : ((x : Int) == 9) = decide (x = 9) := eq_nat x 9
  have b3 : ((x : Int) == 10) = decide (x = 10) := eq_nat x 10
  cases h1 : decide (x = 32) <;> cases h2 : decide (x = 9) <;> cases h3 : decide (x = 10) <;> rw [h1] at b1 <;> rw [h2] at b2 <;> rw [h3] at b3
  all_goals
    clear h1 h2 h3
    go_enter Tryz.func79, Tryz.ntmps79
    go_wp2
    all_goals
      go_ret
      exact Ret.mk (by simp) (Ex.refl _)
theorem part_c (c : UInt8) (w : World) : Calls Tryz.prog 59 #[.int .u8 (c.toNat : Int)] w (Ret w (.bool (partB c))) := by
  unfold partB
  have H1 := Lib.hid (letter_c c)
  have H2 := Lib.hid (digit_c c)
  generalize letB c = l at *
  generalize digB c = d at *
  generalize c.toNat = x at *
  have b1 : ((x : Int) == 95) = decide (x = 95) := eq_nat x 95
  cases h1 : decide (x = 95) <;> cases l <;> cases d <;> rw [h1] at b1
  all_goals
    clear h1
    go_enter Tryz.func59, Tryz.ntmps59
    go_wp2_with (first | (go_at_call 57; refine (H1.out _).mono ?_; rintro e w' ⟨rfl, z, rfl⟩) | (go_at_call 87; refine (H2.out _).mono ?_; rintro e w' ⟨rfl, z2, rfl⟩))
    go_ret
    exact Ret.mk (by simp) (by repeat (first | exact Ex.refl _ | apply Ex.ext))
end Go.Proofs.YthjalkonlcjhnaaGreatDoor
