/-
  The walk of the law Divides.
  Conditions: the world's tables are as laid (Env).
-/
import Derived.Test.YtjbfoanboidkbaaDoorNg
namespace Go.Proofs.YtjbfoanboidkbaaDoor
open Go.RowKit Nu Bn
theorem flr_spec (a b : Int) (hb : b ≠ 0) : (0 < b → 0 ≤ a - b * flr a b ∧ a - b * flr a b < b) ∧ (b < 0 → b < a - b * flr a b ∧ a - b * flr a b ≤ 0) := by
  have h1 := Int.mul_tdiv_add_tmod a b
  have h2 := tmod_bd a b hb
  have h3 : 0 ≤ a → 0 ≤ a.tmod b := fun h => Int.tmod_nonneg b h
  have h4 : a ≤ 0 → a.tmod b ≤ 0 := fun h => by
    have := Int.tmod_nonneg b (a := -a) (by omega)
    rw [Int.neg_tmod] at this
    omega
  have e : a.tdiv b * b = b * a.tdiv b := Int.mul_comm _ _
  have e2 : b * (a.tdiv b - 1) = b * a.tdiv b - b := by rw [Int.mul_sub, Int.mul_one]
  unfold flr
  rw [e]
  generalize hP : b * a.tdiv b = P at *
  generalize a.tmod b = m at *
  by_cases hc : P = a
  · have hn : ((P != a) && (decide (a < 0) != decide (b < 0))) = false := by simp [hc]
    rw [hn]
    simp only [Bool.false_eq_true, if_false]
    rw [hP]
    omega
  · by_cases hs : (a < 0 ↔ b < 0)
    · have hn : ((P != a) && (decide (a < 0) != decide (b < 0))) = false := by simp [hs]
      rw [hn]
      simp only [Bool.false_eq_true, if_false]
      rw [hP]
      omega
    · have hn : ((P != a) && (decide (a < 0) != decide (b < 0))) = true := by
        have : decide (a < 0) ≠ decide (b < 0) := by rw [ne_eq, decide_eq_decide]; exact hs
        simp [hc, this]
      rw [hn, if_pos rfl, e2]
      omega
theorem gcd_rem (a b q : Int) : Int.gcd b (a - b * q) = Int.gcd a b := by
  rw [Int.gcd_comm a b, Int.gcd_sub_mul_left_right]
theorem flr_bd {a b : Int} (h : isB a = true) : -1125899906842625 ≤ flr a b ∧ flr a b ≤ 1125899906842624 := by
  have := tdiv_bd (b := b) ((isB_iff a).1 h)
  unfold flr
  split <;> omega
set_option maxHeartbeats 2000000 in
theorem divides_c (a b : Int) (w : World) (hE : Env w) : Calls Tryd.prog 4 #[.int .i64 a, .int .i64 b] w (Ret w (.bool true)) := by
  have HA := Lib.hid (fun w' (hx : Ex w w') => awake_c w' (hE.ex hx))
  clear hE
  by_cases h : isB a = true ∧ isB b = true ∧ b ≠ 0
  · obtain ⟨h1, h2, h0⟩ := h
    have F1 := Lib.hid (fun w' => floor_ok a b w' h1 h2 h0)
    have hs := flr_spec a b h0
    have hq := flr_bd (b := b) h1
    have hG := gcd_rem a b (flr a b)
    have F2 := Lib.hid (fun w' => gcd_ok a b w' h1 h2)
    have b1 := (isB_iff a).1 h1
    have b2 := (isB_iff b).1 h2
    have h3 : isB (a - b * flr a b) = true := by rw [isB_iff]; omega
    have F3 := Lib.hid (fun w' => gcd_ok b (a - b * flr a b) w' h2 h3)
    rw [hG] at F3
    have g0 : 0 < Int.gcd a b := Int.gcd_pos_iff.2 (.inr h0)
    have g1 : Int.gcd a b ≤ 1125899906842624 := by
      have h5 : Nat.gcd a.natAbs b.natAbs ≤ b.natAbs := Nat.gcd_le_right _ (by omega)
      have h6 : Int.gcd a b = Nat.gcd a.natAbs b.natAbs := rfl
      omega
    have d1 : a.tmod (Int.gcd a b : Nat) = 0 := Int.tmod_eq_zero_of_dvd (Int.gcd_dvd_left a b)
    have d2 : a % (Int.gcd a b : Nat) = 0 := Int.emod_eq_zero_of_dvd (Int.gcd_dvd_left a b)
    have d3 : b.tmod (Int.gcd a b : Nat) = 0 := Int.tmod_eq_zero_of_dvd (Int.gcd_dvd_right a b)
    have d4 : b % (Int.gcd a b : Nat) = 0 := Int.emod_eq_zero_of_dvd (Int.gcd_dvd_right a b)
    clear hG h3 h1 h2
    generalize Int.gcd a b = G at *
    generalize flr a b = q at *
    obtain ⟨P, hP⟩ : ∃ P, P = b * q := ⟨_, rfl⟩
    have p1 : -9007199254740992 ≤ b * q := by omega
    have p2 : b * q ≤ 9007199254740992 := by omega
    clear hP
    obtain ⟨r, hr⟩ : ∃ r, a - b * q = r := ⟨_, rfl⟩
    rw [hr] at hs F3
    unfold Two at *
    have hz : ((G : Int) == 0) = false := by simp; omega
    rcases Int.lt_or_gt_of_ne h0 with hb | hb
    · obtain ⟨r1, r2⟩ := hs.2 hb
      clear hs
      have e1 : decide (r ≤ b) = false := by simp; omega
      have e2 : decide (b < 0) = true := by simp; omega
      have e3 : decide (0 < b) = false := by simp; omega
      have e4 : decide (r ≤ 0) = true := by simp; omega
      have hk : ((r == 0) = true ∧ (r != 0) = false ∧ decide (r < 0) = false ∧ decide (0 ≤ r) = true ∧ decide (r ≤ 0) = true) ∨ ((r == 0) = false ∧ (r != 0) = true ∧ decide (r < 0) = decide (b < 0) ∧ decide (0 ≤ r) = decide (0 < b) ∧ decide (r ≤ 0) = decide (b < 0)) := by
        by_cases h : r = 0
        · left; simp [h]
        · right
          refine ⟨by simp [h], by simp [h], ?_, ?_, ?_⟩
          · rw [decide_eq_decide]; omega
          · rw [decide_eq_decide]; omega
          · rw [decide_eq_decide]; omega
      rcases hk with ⟨k1, k2, k3, k4, k5⟩ | ⟨k1, k2, k3, k4, k5⟩
      all_goals
        go_enter Tryd.func4, Tryd.ntmps4
        go_wp2_with fail
        refine (HA.out _ (Ex.refl _)).mono ?_; rintro e w' ⟨rfl, z0, rfl⟩
        go_wp2_with fail
        refine (F1.out _).mono ?_; rintro e w' ⟨rfl, z1, rfl⟩
        go_wp2_with fail
        refine (F2.out _).mono ?_; rintro e w' ⟨rfl, z2, rfl⟩
        go_wp2_with fail
        refine (F3.out _).mono ?_; rintro e w' ⟨rfl, z3, rfl⟩
        go_wp2_with fail
        go_ret
        exact Ret.mk (by simp) (by repeat (first | exact Ex.refl _ | apply Ex.ext))
    · obtain ⟨r1, r2⟩ := hs.1 hb
      clear hs
      have e1 : decide (b ≤ r) = false := by simp; omega
      have e2 : decide (b < 0) = false := by simp; omega
      have e3 : decide (0 < b) = true := by simp; omega
      have e4 : decide (r < 0) = false := by simp; omega
      have hk : ((r == 0) = true ∧ (r != 0) = false ∧ decide (r < 0) = false ∧ decide (0 ≤ r) = true ∧ decide (r ≤ 0) = true) ∨ ((r == 0) = false ∧ (r != 0) = true ∧ decide (r < 0) = decide (b < 0) ∧ decide (0 ≤ r) = decide (0 < b) ∧ decide (r ≤ 0) = decide (b < 0)) := by
        by_cases h : r = 0
        · left; simp [h]
        · right
          refine ⟨by simp [h], by simp [h], ?_, ?_, ?_⟩
          · rw [decide_eq_decide]; omega
          · rw [decide_eq_decide]; omega
          · rw [decide_eq_decide]; omega
      rcases hk with ⟨k1, k2, k3, k4, k5⟩ | ⟨k1, k2, k3, k4, k5⟩
      all_goals
        go_enter Tryd.func4, Tryd.ntmps4
        go_wp2_with fail
        refine (HA.out _ (Ex.refl _)).mono ?_; rintro e w' ⟨rfl, z0, rfl⟩
        go_wp2_with fail
        refine (F1.out _).mono ?_; rintro e w' ⟨rfl, z1, rfl⟩
        go_wp2_with fail
        refine (F2.out _).mono ?_; rintro e w' ⟨rfl, z2, rfl⟩
        go_wp2_with fail
        refine (F3.out _).mono ?_; rintro e w' ⟨rfl, z3, rfl⟩
        go_wp2_with fail
        go_ret
        exact Ret.mk (by simp) (by repeat (first | exact Ex.refl _ | apply Ex.ext))
  · have h' : (isB a && (isB b && b != 0)) = false := by
      cases h1 : isB a
      · rfl
      · cases h2 : isB b
        · rfl
        · by_cases h3 : b = 0
          · simp [h3]
          · exact absurd ⟨h1, h2, h3⟩ h
    have F1 := Lib.hid (fun w' => floor_bad a b w' h')
    unfold Two at *
    clear h h'
    go_enter Tryd.func4, Tryd.ntmps4
    go_wp2_with fail
    refine (HA.out _ (Ex.refl _)).mono ?_; rintro e w' ⟨rfl, z0, rfl⟩
    go_wp2_with fail
    refine (F1.out _).mono ?_; rintro e w' ⟨rfl, z1, rfl⟩
    go_wp2_with fail
    go_ret
    exact Ret.mk rfl (((Ex.refl _).ext _).ext _)
end Go.Proofs.YtjbfoanboidkbaaDoor
