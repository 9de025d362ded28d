/-
  Numbers: what the small functions of the number package and of its reference return.
  Conditions: as each theorem says.
-/
import Derived.Test.YtjbfoanboidkbaaDoorBase
import Derived.IntWalk
import Derived.RegionTactic
import Derived.ChangeAlike
namespace Go.Proofs.YtjbfoanboidkbaaDoor
open Go.RowKit
/-- the limit -/
def isB (n : Int) : Bool := decide (-1125899906842624 ≤ n) && decide (n ≤ 1125899906842624)
theorem isB_iff (n : Int) : isB n = true ↔ -1125899906842624 ≤ n ∧ n ≤ 1125899906842624 := by unfold isB; simp
theorem isB_not (n : Int) : isB n = false ↔ n < -1125899906842624 ∨ 1125899906842624 < n := by
  rw [← Bool.not_eq_true, isB_iff]; omega
theorem is_c (n : Int) (w : World) : Calls Tryd.prog 30 #[.int .i64 n] w (Ret w (.bool (isB n))) := by
  unfold isB
  cases h : decide (-1125899906842624 ≤ n)
  all_goals
    go_enter Tryd.func30, Tryd.ntmps30
    go_wp2
    go_ret
    exact Ret.mk (by simp) (Ex.refl _)
theorem rIs_c (n : Int) (w : World) : Calls Tryd.prog 14 #[.int .i64 n] w (Ret w (.bool (isB n))) := by
  unfold isB
  cases h : decide (-1125899906842624 ≤ n)
  all_goals
    go_enter Tryd.func14, Tryd.ntmps14
    go_wp2
    go_ret
    exact Ret.mk (by simp) (Ex.refl _)
theorem int_eq {k : IntKind} {a b : Int} (h : a = b) : Value.int k a = Value.int k b := by rw [h]
/-- a number and a code, handed back together -/
def Two (a b : Int) : Value := .tuple #[.int .i64 a, .int .i64 b]
def limV (n : Int) : Int := if isB n then n else 0
def limE (n : Int) : Int := if isB n then 0 else 9
theorem limited_c (n : Int) (w : World) : Calls Tryd.prog 37 #[.int .i64 n] w (Ret w (Two (limV n) (limE n))) := by
  have H1 := Lib.hid (is_c n)
  unfold limV limE Two
  cases h : isB n
  all_goals
    rw [h] at H1
    clear h
    go_enter Tryd.func37, Tryd.ntmps37
    go_wp2_with fail
    refine (H1.out _).mono ?_
    rintro e w' ⟨rfl, z, rfl⟩
    go_wp2_with fail
    go_ret2
    exact Ret.mk (by simp) ((Ex.refl _).ext _)
theorem abs_c (n : Int) (w : World) (h : isB n = true) : Calls Tryd.prog 31 #[.int .i64 n] w (Ret w (.int .i64 (n.natAbs : Int))) := by
  rw [isB_iff] at h
  go_enter Tryd.func31, Tryd.ntmps31
  go_wp2
  all_goals
    go_ret
    refine Ret.mk (int_eq ?_) (Ex.refl _)
    omega
theorem rAbs_c (n : Int) (w : World) (h : isB n = true) : Calls Tryd.prog 32 #[.int .i64 n] w (Ret w (.int .i64 (n.natAbs : Int))) := by
  rw [isB_iff] at h
  cases hd : decide (n < 0)
  all_goals
    go_enter Tryd.func32, Tryd.ntmps32
    go_wp2
    go_ret
    refine Ret.mk (int_eq ?_) (Ex.refl _)
    simp at hd
    omega
/-- the quotient, rounded down -/
def flr (a b : Int) : Int := if (a.tdiv b * b != a) && (decide (a < 0) != decide (b < 0)) then a.tdiv b - 1 else a.tdiv b
theorem tdiv_bd {a b : Int} (h1 : -1125899906842624 ≤ a ∧ a ≤ 1125899906842624) : -1125899906842624 ≤ a.tdiv b ∧ a.tdiv b ≤ 1125899906842624 := by
  have h := Int.natAbs_tdiv_le_natAbs a b
  omega
theorem tdiv_mul_bd {a b : Int} (h1 : -1125899906842624 ≤ a ∧ a ≤ 1125899906842624) : -1125899906842624 ≤ a.tdiv b * b ∧ a.tdiv b * b ≤ 1125899906842624 := by
  have h2 : (a.tdiv b * b).natAbs ≤ a.natAbs := by
    rw [Int.natAbs_mul, Int.natAbs_tdiv]
    exact Nat.div_mul_le_self _ _
  omega
theorem floor_bad (a b : Int) (w : World) (h : (isB a && (isB b && b != 0)) = false) : Calls Tryd.prog 11 #[.int .i64 a, .int .i64 b] w (Ret w (Two 0 2)) := by
  have H1 := Lib.hid (is_c a)
  have H2 := Lib.hid (is_c b)
  unfold Two
  cases ha : isB a
  · rw [ha] at H1
    clear ha h
    go_enter Tryd.func11, Tryd.ntmps11
    go_wp2_with (refine (H1.out _).mono ?_; rintro e w' ⟨rfl, z, rfl⟩)
    go_ret2
    exact Ret.mk rfl ((Ex.refl _).ext _)
  · cases hb : isB b
    · rw [ha] at H1
      rw [hb] at H2
      clear ha hb h
      go_enter Tryd.func11, Tryd.ntmps11
      go_wp2_with fail
      refine (H1.out _).mono ?_; rintro e w' ⟨rfl, z, rfl⟩
      go_wp2_with fail
      refine (H2.out _).mono ?_; rintro e w' ⟨rfl, z2, rfl⟩
      go_wp2_with fail
      go_ret2
      exact Ret.mk rfl (((Ex.refl _).ext _).ext _)
    · rw [ha] at H1
      rw [hb] at H2
      rw [ha, hb] at h
      have h0 : b = 0 := by simpa using h
      subst h0
      clear ha hb h
      go_enter Tryd.func11, Tryd.ntmps11
      go_wp2_with fail
      refine (H1.out _).mono ?_; rintro e w' ⟨rfl, z, rfl⟩
      go_wp2_with fail
      refine (H2.out _).mono ?_; rintro e w' ⟨rfl, z2, rfl⟩
      go_wp2_with fail
      go_ret2
      exact Ret.mk rfl (((Ex.refl _).ext _).ext _)
theorem floor_ok (a b : Int) (w : World) (h1 : isB a = true) (h2 : isB b = true) (h0 : b ≠ 0) : Calls Tryd.prog 11 #[.int .i64 a, .int .i64 b] w (Ret w (Two (flr a b) 0)) := by
  have H1 := Lib.hid (is_c a)
  have H2 := Lib.hid (is_c b)
  rw [h1] at H1
  rw [h2] at H2
  rw [isB_iff] at h1 h2
  have hz : (b == 0) = false := by simpa using h0
  have q1 := tdiv_bd (b := b) h1
  have q2 := tdiv_mul_bd (b := b) h1
  unfold flr Two
  cases ca : decide (a < 0) <;> cases cb : decide (b < 0) <;> cases cm : (a.tdiv b * b != a)
  all_goals
    go_enter Tryd.func11, Tryd.ntmps11
    go_wp2_with fail
    refine (H1.out _).mono ?_; rintro e w' ⟨rfl, z, rfl⟩
    go_wp2_with fail
    refine (H2.out _).mono ?_; rintro e w' ⟨rfl, z2, rfl⟩
    go_wp2_with fail
    go_ret2
    exact Ret.mk rfl (((Ex.refl _).ext _).ext _)
theorem rFloor_ok (a b : Int) (w : World) (h1 : isB a = true) (h0 : b ≠ 0) : Calls Tryd.prog 15 #[.int .i64 a, .int .i64 b] w (Ret w (.int .i64 (flr a b))) := by
  rw [isB_iff] at h1
  have hz : (b == 0) = false := by simpa using h0
  have q1 := tdiv_bd (b := b) h1
  have q2 := tdiv_mul_bd (b := b) h1
  unfold flr
  cases ca : decide (a < 0) <;> cases cb : decide (b < 0) <;> cases cm : (a.tdiv b * b != a)
  all_goals
    go_enter Tryd.func15, Tryd.ntmps15
    go_wp2_with fail
    go_ret
    exact Ret.mk rfl (Ex.refl _)
end Go.Proofs.YtjbfoanboidkbaaDoor
