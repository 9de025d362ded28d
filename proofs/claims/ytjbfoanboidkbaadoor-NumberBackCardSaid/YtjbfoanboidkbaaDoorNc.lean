/-
  Numbers: the binomial coefficient of the program.
  Conditions: as each theorem says.
-/
import Derived.Test.YtjbfoanboidkbaaDoorNb
import Derived.Test.YtjbfoanboidkbaaDoorNm
namespace Go.Proofs.YtjbfoanboidkbaaDoor
open Go.RowKit Bn
def choV (n k : Nat) : Int := if bin n k ≤ 1125899906842624 then bin n k else 0
def choE (n k : Nat) : Int := if bin n k ≤ 1125899906842624 then 0 else 9
theorem choose_bad (n k : Int) (w : World) (h : n < 0 ∨ 1000 < n ∨ k < 0 ∨ n < k) : Calls Tryd.prog 13 #[.int .i64 n, .int .i64 k] w (Ret w (Two 0 2)) := by
  unfold Two
  cases a1 : decide (n < 0) <;> cases a2 : decide (1000 < n) <;> cases a3 : decide (k < 0) <;> cases a4 : decide (n < k)
  · simp at a1 a2 a3 a4; omega
  all_goals
    clear h
    go_enter Tryd.func13, Tryd.ntmps13
    go_wp2_with fail
    go_ret2
    exact Ret.mk rfl (Ex.refl _)
set_option maxHeartbeats 800000 in
theorem choose_at (n m : Nat) (k : Int) (V E : Int) (w : World) (hn : n ≤ 1000) (hm : 2 * m ≤ n) (h1 : 0 ≤ k) (h2 : k ≤ n) (hk : (k = m ∧ k ≤ n - k) ∨ (n - k = (m : Int) ∧ ¬ k ≤ n - k)) (hV : V = choV n m) (hE : E = choE n m) : Calls Tryd.prog 13 #[.int .i64 n, .int .i64 k] w (Ret w (Two V E)) := by
  have H1 := Lib.hid (fun c : Nat => is_c c)
  have HM := Lib.hid (fun i (h : i ≤ m) => bin_mono' (n := n) (i := i) (m := m) (by omega) h)
  have HN := Lib.hid (fun i => bin_next n i)
  have HV := Lib.hid hV
  have HE := Lib.hid hE
  have HZ : Hid (bin n 0 = 1) := bin_zero n
  have d1 : decide ((n : Int) < 0) = false := by simp
  have d2 : decide ((1000 : Int) < (n : Int)) = false := by simp; omega
  have d3 : decide (k < 0) = false := by simp; omega
  have d4 : decide ((n : Int) < k) = false := by simp; omega
  unfold Two
  clear hV hE
  rcases hk with ⟨rfl, hk⟩ | ⟨e, hk⟩
  · have d5 : decide (n < m) = false := by simp; omega
    go_enter Tryd.func13, Tryd.ntmps13
    go_wp2_with fail
    go_loopw [6, 7, 28] (fun c _ i wr => ∃ j x : Nat, i = .int .i64 j ∧ c = .int .i64 x ∧ j ≤ m ∧ x = bin n j ∧ x ≤ 1125899906842624 ∧ Ex w wr) (fun _ _ i _ => m - (intOf i).toNat)
    case atStart => exact ⟨0, 1, rfl, rfl, by omega, HZ.out.symm, by omega, Ex.refl _⟩
    case round =>
      obtain ⟨j, x, rfl, rfl, hj, hx, hx2, hw⟩ := hrel
      have HX := Lib.hid hx
      clear hx
      by_cases hlt : j < m
      · obtain ⟨d, hd⟩ : ∃ d, n - j = d := ⟨_, rfl⟩
        have hnx := HN.out j
        rw [hd, ← HX.out] at hnx
        have e1 : (n : Int) - (j : Int) = (d : Int) := by omega
        have e2 : ((x : Int) * (d : Int)) / ((j : Int) + 1) = ((bin n (j + 1) : Nat) : Int) := by rw [← hnx]; simp
        have p0 : x * d ≤ 1125899906842624 * 1000 := Nat.mul_le_mul hx2 (by omega)
        obtain ⟨p1, p2⟩ : 0 ≤ (x : Int) * (d : Int) ∧ (x : Int) * (d : Int) ≤ 1125899906842624000 := by
          rw [← Int.natCast_mul]; omega
        clear p0
        have hmono := HM.out (j + 1) (by omega)
        have HX2 : Hid (bin n (j + 1) = bin n (j + 1)) := rfl
        have H1' := Lib.hid (H1.out (bin n (j + 1)))
        have hbd : isB ((bin n (j + 1) : Nat) : Int) = decide (bin n (j + 1) ≤ 1125899906842624) := by
          rw [Bool.eq_iff_iff, isB_iff, decide_eq_true_eq]; omega
        rw [hbd] at H1'
        clear hbd hnx hd
        obtain ⟨y, hy⟩ : ∃ y, y = bin n (j + 1) := ⟨_, rfl⟩
        have HY := Lib.hid hy
        rw [← hy] at e2 H1' hmono
        clear hy
        by_cases hbig : y ≤ 1125899906842624
        · rw [decide_eq_true hbig] at H1'
          go_wp2_with fail
          refine (H1'.out _).mono ?_
          rintro e' w' ⟨rfl, z, rfl⟩
          go_wp2_with fail
          go_roundw
          case rel => exact ⟨j + 1, y, by go_num, rfl, by omega, HY.out, hbig, hw.ext _⟩
          case measure => simp [intOf]; omega
        · rw [decide_eq_false hbig] at H1'
          go_wp2_with fail
          refine (H1'.out _).mono ?_
          rintro e' w' ⟨rfl, z, rfl⟩
          go_wp2_with fail
          go_ret2
          have hf : ¬ bin n m ≤ 1125899906842624 := by omega
          exact Ret.mk (by rw [HV.out, HE.out]; unfold choV choE; rw [if_neg hf, if_neg hf]; rfl) (hw.ext _)
      · obtain rfl : j = m := by omega
        go_wp2_with fail
        go_ret2
        have hf : bin n j ≤ 1125899906842624 := by rw [← HX.out]; exact hx2
        exact Ret.mk (by rw [HV.out, HE.out]; unfold choV choE; rw [if_pos hf, if_pos hf, ← HX.out]; rfl) hw
  · have hmn : ((m : Nat) : Int) ≤ k := by omega
    go_enter Tryd.func13, Tryd.ntmps13
    go_wp2_with fail
    go_loopw [6, 7, 28] (fun c _ i wr => ∃ j x : Nat, i = .int .i64 j ∧ c = .int .i64 x ∧ j ≤ m ∧ x = bin n j ∧ x ≤ 1125899906842624 ∧ Ex w wr) (fun _ _ i _ => m - (intOf i).toNat)
    case atStart => exact ⟨0, 1, rfl, rfl, by omega, HZ.out.symm, by omega, Ex.refl _⟩
    case round =>
      obtain ⟨j, x, rfl, rfl, hj, hx, hx2, hw⟩ := hrel
      have HX := Lib.hid hx
      clear hx
      by_cases hlt : j < m
      · obtain ⟨d, hd⟩ : ∃ d, n - j = d := ⟨_, rfl⟩
        have hnx := HN.out j
        rw [hd, ← HX.out] at hnx
        have e1 : (n : Int) - (j : Int) = (d : Int) := by omega
        have e2 : ((x : Int) * (d : Int)) / ((j : Int) + 1) = ((bin n (j + 1) : Nat) : Int) := by rw [← hnx]; simp
        have p0 : x * d ≤ 1125899906842624 * 1000 := Nat.mul_le_mul hx2 (by omega)
        obtain ⟨p1, p2⟩ : 0 ≤ (x : Int) * (d : Int) ∧ (x : Int) * (d : Int) ≤ 1125899906842624000 := by
          rw [← Int.natCast_mul]; omega
        clear p0
        have hmono := HM.out (j + 1) (by omega)
        have HX2 : Hid (bin n (j + 1) = bin n (j + 1)) := rfl
        have H1' := Lib.hid (H1.out (bin n (j + 1)))
        have hbd : isB ((bin n (j + 1) : Nat) : Int) = decide (bin n (j + 1) ≤ 1125899906842624) := by
          rw [Bool.eq_iff_iff, isB_iff, decide_eq_true_eq]; omega
        rw [hbd] at H1'
        clear hbd hnx hd
        obtain ⟨y, hy⟩ : ∃ y, y = bin n (j + 1) := ⟨_, rfl⟩
        have HY := Lib.hid hy
        rw [← hy] at e2 H1' hmono
        clear hy
        by_cases hbig : y ≤ 1125899906842624
        · rw [decide_eq_true hbig] at H1'
          go_wp2_with fail
          refine (H1'.out _).mono ?_
          rintro e' w' ⟨rfl, z, rfl⟩
          go_wp2_with fail
          go_roundw
          case rel => exact ⟨j + 1, y, by go_num, rfl, by omega, HY.out, hbig, hw.ext _⟩
          case measure => simp [intOf]; omega
        · rw [decide_eq_false hbig] at H1'
          go_wp2_with fail
          refine (H1'.out _).mono ?_
          rintro e' w' ⟨rfl, z, rfl⟩
          go_wp2_with fail
          go_ret2
          have hf : ¬ bin n m ≤ 1125899906842624 := by omega
          exact Ret.mk (by rw [HV.out, HE.out]; unfold choV choE; rw [if_neg hf, if_neg hf]; rfl) (hw.ext _)
      · obtain rfl : j = m := by omega
        go_wp2_with fail
        go_ret2
        have hf : bin n j ≤ 1125899906842624 := by rw [← HX.out]; exact hx2
        exact Ret.mk (by rw [HV.out, HE.out]; unfold choV choE; rw [if_pos hf, if_pos hf, ← HX.out]; rfl) hw
end Go.Proofs.YtjbfoanboidkbaaDoor
