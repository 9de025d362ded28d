/-
  The walk of the law Pascal.
  Conditions: the world's tables are as laid (Env).
-/
import Derived.Test.YtjbfoanboidkbaaDoorNg
namespace Go.Proofs.YtjbfoanboidkbaaDoor
open Go.RowKit Nu Bn
theorem choose_val (m j : Nat) (a b : Int) (w : World) (hm : m ≤ 1000) (hj : j ≤ m) (ha : a = m) (hb : b = j) (hx : bin m j ≤ 1125899906842624) : Calls Tryd.prog 13 #[.int .i64 a, .int .i64 b] w (Ret w (Two (bin m j : Nat) 0)) := by
  subst ha hb
  have h := choose_ok m j w hm hj
  unfold choV choE at h
  rwa [if_pos hx, if_pos hx] at h
theorem pascal_none (n k V E : Int) (w : World) (hE : Env w) (hV : ∀ w', Calls Tryd.prog 13 #[.int .i64 n, .int .i64 k] w' (Ret w' (Two V E))) (h0 : V = 0) (hz : (E != 0) = true) : Calls Tryd.prog 5 #[.int .i64 n, .int .i64 k] w (Ret w (.bool true)) := by
  have HA := Lib.hid (fun w' (hx : Ex w w') => awake_c w' (hE.ex hx))
  have H1 := Lib.hid hV
  subst h0
  unfold Two at *
  clear hE hV
  go_enter Tryd.func5, Tryd.ntmps5
  go_wp2_with fail
  refine (HA.out _ (Ex.refl _)).mono ?_; rintro e w' ⟨rfl, z0, rfl⟩
  go_wp2_with fail
  refine (H1.out _).mono ?_; rintro e w' ⟨rfl, z1, rfl⟩
  go_wp2_with fail
  go_ret
  exact Ret.mk rfl (((Ex.refl _).ext _).ext _)
set_option maxHeartbeats 2000000 in
theorem pascal_ok (m j : Nat) (w : World) (hE : Env w) (hm : m ≤ 1000) (hj : j ≤ m) (hx : bin m j ≤ 1125899906842624) : Calls Tryd.prog 5 #[.int .i64 m, .int .i64 j] w (Ret w (.bool true)) := by
  have HA := Lib.hid (fun w' (hx : Ex w w') => awake_c w' (hE.ex hx))
  have hsym := bin_sym m j hj
  have H1 := Lib.hid (fun w' => choose_val m j m j w' hm hj rfl rfl hx)
  have H2 := Lib.hid (fun w' => choose_val m (m - j) m ((m : Int) - (j : Int)) w' hm (by omega) rfl (by omega) (by rw [hsym]; exact hx))
  rw [hsym] at H2
  have HL : Hid (m ≤ 49 → ∀ i : Nat, i ≤ m → ∀ w', Calls Tryd.prog 13 #[.int .i64 m, .int .i64 i] w' (Ret w' (Two (bin m i : Nat) 0))) := fun h49 i hi w' =>
    choose_val m i m i w' hm hi rfl rfl (Nat.le_trans (bin_le m i) (Nat.le_trans (Nat.pow_le_pow_right (by decide) h49) (by decide)))
  have HS : Hid (∀ k, rowSum m (k + 1) = rowSum m k + bin m k) := fun k => rfl
  have HB : Hid (m ≤ 49 → ∀ k, k ≤ m + 1 → rowSum m k ≤ 562949953421312) := fun h49 k hk => Nat.le_trans (rowSum_le m k hk) (Nat.le_trans (Nat.pow_le_pow_right (by decide) h49) (by decide))
  have HE := Lib.hid (rowSum_all m)
  clear hE hsym
  have HC : (∃ (x y : Nat) (_ : Hid (∀ w', Calls Tryd.prog 13 #[.int .i64 ((m : Int) - 1), .int .i64 ((j : Int) - 1)] w' (Ret w' (Two x 0)))) (_ : Hid (∀ w', Calls Tryd.prog 13 #[.int .i64 ((m : Int) - 1), .int .i64 j] w' (Ret w' (Two y 0)))), bin m j = x + y ∧ 0 < j ∧ j < m) ∨ (bin m j = 1 ∧ (j = 0 ∨ j = m)) := by
    by_cases hin : 0 < j ∧ j < m
    · obtain ⟨i1, i2⟩ := hin
      left
      have hp : bin m j = bin (m - 1) (j - 1) + bin (m - 1) j := by
        have h := bin_succ (m - 1) (j - 1)
        rwa [show m - 1 + 1 = m by omega, show j - 1 + 1 = j by omega] at h
      exact ⟨_, _, Lib.hid fun w' => choose_val (m - 1) (j - 1) _ _ w' (by omega) (by omega) (by omega) (by omega) (by omega), Lib.hid fun w' => choose_val (m - 1) j _ _ w' (by omega) (by omega) (by omega) rfl (by omega), hp, i1, i2⟩
    · right
      have h0 : j = 0 ∨ j = m := by omega
      refine ⟨?_, h0⟩
      rcases h0 with rfl | rfl
      · exact bin_zero _
      · exact bin_self _
  unfold Two at *
  generalize bin m j = c at *
  have hbig : decide ((49 : Int) < (m : Int)) = true ∨ (decide ((49 : Int) < (m : Int)) = false ∧ m ≤ 49) := by
    by_cases h : m ≤ 49
    · right; simp [h]; omega
    · left; simp; omega
  rcases HC with ⟨x, y, H3, H4, hc, i1, i2⟩ | ⟨rfl, hc⟩
  · have g1 : decide (0 < j) = true := by simp; omega
    have g2 : decide (j < m) = true := by simp; omega
    have g3 : decide ((0 : Int) < (j : Int)) = true := by simp; omega
    subst hc
    go_enter Tryd.func5, Tryd.ntmps5
    go_wp2_with fail
    refine (HA.out _ (Ex.refl _)).mono ?_; rintro e w' ⟨rfl, z0, rfl⟩
    go_wp2_with fail
    refine (H1.out _).mono ?_; rintro e w' ⟨rfl, z1, rfl⟩
    go_wp2_with fail
    refine (H2.out _).mono ?_; rintro e w' ⟨rfl, z2, rfl⟩
    go_wp2_with fail
    refine (H3.out _).mono ?_; rintro e w' ⟨rfl, z3, rfl⟩
    go_wp2_with fail
    refine (H4.out _).mono ?_; rintro e w' ⟨rfl, z4, rfl⟩
    rcases hbig with g4 | ⟨g4, h49⟩
    · go_wp2_with fail
      go_ret
      exact Ret.mk rfl (by repeat (first | exact Ex.refl _ | apply Ex.ext))
    · go_wp2_with fail
      go_loopw [13, 14, 15, 16, 85] (fun s _ _ _ i wr => ∃ k : Nat, i = .int .i64 k ∧ k ≤ m + 1 ∧ s = .int .i64 (rowSum m k : Nat) ∧ Ex w wr) (fun _ _ _ _ i _ => m + 1 - (intOf i).toNat)
      case atStart => exact ⟨0, rfl, by omega, rfl, by repeat (first | exact Ex.refl _ | apply Ex.ext)⟩
      case round =>
        obtain ⟨k, rfl, hk, rfl, hx⟩ := hrel
        have hb := HB.out h49 k hk
        by_cases hlt : k < m + 1
        · have hb2 := HB.out h49 (k + 1) (by omega)
          have HS' := Lib.hid (HS.out k)
          rw [HS'.out] at hb2
          have H5 := Lib.hid (HL.out h49 k (by omega))
          have HXx := Lib.hid hx
          clear hx
          generalize bin m k = b at *
          generalize rowSum m k = s at *
          go_wp2_with fail
          refine (H5.out _).mono ?_; rintro e w' ⟨rfl, z5, rfl⟩
          go_wp2_with fail
          refine ⟨⟨k + 1, by go_num, by omega, int_eq (by rw [HS'.out]; omega), HXx.out.ext _⟩, by simp [intOf]; omega⟩
        · obtain rfl : k = m + 1 := by omega
          have hp := HE.out
          rw [hp] at hb ⊢
          have hw : wrap64 ((2 : Int) ^ m) = (2 : Int) ^ m := by
            have e : (2 : Int) ^ m = ((2 ^ m : Nat) : Int) := by simp
            rw [e]
            exact IntWalk.wrap64_in _ ⟨by omega, by omega⟩
          go_wp2_with fail
          go_ret
          exact Ret.mk (by simp) hx
  · have g0 : (decide (0 < j) = false ∧ decide ((0 : Int) < (j : Int)) = false) ∨ (decide (0 < j) = true ∧ decide ((0 : Int) < (j : Int)) = true ∧ decide (j < m) = false) := by
      by_cases h : j = 0
      · left; subst h; simp
      · right; simp; omega
    rcases g0 with ⟨g1, g2⟩ | ⟨g1, g2, g3⟩
    all_goals
      go_enter Tryd.func5, Tryd.ntmps5
      go_wp2_with fail
      refine (HA.out _ (Ex.refl _)).mono ?_; rintro e w' ⟨rfl, z0, rfl⟩
      go_wp2_with fail
      refine (H1.out _).mono ?_; rintro e w' ⟨rfl, z1, rfl⟩
      go_wp2_with fail
      refine (H2.out _).mono ?_; rintro e w' ⟨rfl, z2, rfl⟩
      rcases hbig with g4 | ⟨g4, h49⟩
      · go_wp2_with fail
        go_ret
        exact Ret.mk rfl (by repeat (first | exact Ex.refl _ | apply Ex.ext))
      · go_wp2_with fail
        go_loopw [13, 14, 15, 16, 85] (fun s _ _ _ i wr => ∃ k : Nat, i = .int .i64 k ∧ k ≤ m + 1 ∧ s = .int .i64 (rowSum m k : Nat) ∧ Ex w wr) (fun _ _ _ _ i _ => m + 1 - (intOf i).toNat)
        case atStart => exact ⟨0, rfl, by omega, rfl, by repeat (first | exact Ex.refl _ | apply Ex.ext)⟩
        case round =>
          obtain ⟨k, rfl, hk, rfl, hx⟩ := hrel
          have hb := HB.out h49 k hk
          by_cases hlt : k < m + 1
          · have hb2 := HB.out h49 (k + 1) (by omega)
            have HS' := Lib.hid (HS.out k)
            rw [HS'.out] at hb2
            have H5 := Lib.hid (HL.out h49 k (by omega))
            have HXx := Lib.hid hx
            clear hx
            generalize bin m k = b at *
            generalize rowSum m k = s at *
            go_wp2_with fail
            refine (H5.out _).mono ?_; rintro e w' ⟨rfl, z5, rfl⟩
            go_wp2_with fail
            refine ⟨⟨k + 1, by go_num, by omega, int_eq (by rw [HS'.out]; omega), HXx.out.ext _⟩, by simp [intOf]; omega⟩
          · obtain rfl : k = m + 1 := by omega
            have hp := HE.out
            rw [hp] at hb ⊢
            have hw : wrap64 ((2 : Int) ^ m) = (2 : Int) ^ m := by
              have e : (2 : Int) ^ m = ((2 ^ m : Nat) : Int) := by simp
              rw [e]
              exact IntWalk.wrap64_in _ ⟨by omega, by omega⟩
            go_wp2_with fail
            go_ret
            exact Ret.mk (by simp) hx
theorem pascal_c (n k : Int) (w : World) (hE : Env w) : Calls Tryd.prog 5 #[.int .i64 n, .int .i64 k] w (Ret w (.bool true)) := by
  rcases choose_cases n k with h | ⟨m, j, rfl, rfl, hm, hj⟩
  · exact pascal_none n k 0 2 w hE (fun w' => choose_bad n k w' h) rfl rfl
  · by_cases hx : bin m j ≤ 1125899906842624
    · exact pascal_ok m j w hE hm hj hx
    · refine pascal_none m j _ _ w hE (fun w' => choose_ok m j w' hm hj) ?_ ?_
      · unfold choV; rw [if_neg hx]
      · unfold choE; rw [if_neg hx]; rfl
end Go.Proofs.YtjbfoanboidkbaaDoor
