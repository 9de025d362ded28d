/-
  Plain arithmetic of binomial coefficients. No program in sight.
  Conditions: none.
-/
import Derived.KernelRfl
namespace Go.Proofs.YtjbfoanboidkbaaDoor.Bn
/-- the binomial coefficient -/
def bin : Nat → Nat → Nat
  | _, 0 => 1
  | 0, _ + 1 => 0
  | n + 1, k + 1 => bin n k + bin n (k + 1)
theorem bin_zero (n : Nat) : bin n 0 = 1 := by cases n <;> rfl
theorem bin_succ (n k : Nat) : bin (n + 1) (k + 1) = bin n k + bin n (k + 1) := rfl
theorem bin_big : ∀ (n k : Nat), n < k → bin n k = 0
  | 0, k + 1, _ => rfl
  | n + 1, k + 1, h => by rw [bin_succ, bin_big n k (by omega), bin_big n (k + 1) (by omega)]
theorem bin_self : ∀ n, bin n n = 1
  | 0 => rfl
  | n + 1 => by rw [bin_succ, bin_self n, bin_big n (n + 1) (by omega)]
theorem bin_step : ∀ (n k : Nat), (k + 1) * bin n (k + 1) = (n - k) * bin n k
  | 0, k => by rw [bin_big 0 (k + 1) (by omega)]; simp
  | n + 1, 0 => by
    have h := bin_step n 0
    rw [bin_succ, bin_zero, bin_zero] at *
    omega
  | n + 1, k + 1 => by
    have h1 := bin_step n k
    have h2 := bin_step n (k + 1)
    rw [bin_succ n (k + 1), bin_succ n k]
    by_cases hk : k + 1 ≤ n
    · obtain ⟨d, rfl⟩ : ∃ d, n = k + 1 + d := ⟨n - (k + 1), by omega⟩
      rw [show k + 1 + d - k = d + 1 by omega] at h1
      rw [show k + 1 + d - (k + 1) = d by omega] at h2
      rw [show k + 1 + d + 1 - (k + 1) = d + 1 by omega]
      rw [Nat.mul_add, h2]
      generalize bin (k + 1 + d) k = A at *
      generalize bin (k + 1 + d) (k + 1) = B at *
      have e1 : (k + 1 + 1) * B = (k + 1) * B + B := by rw [Nat.add_mul, Nat.one_mul]
      have e2 : (d + 1) * (A + B) = (d + 1) * A + (d * B + B) := by rw [Nat.mul_add, Nat.add_mul d 1 B, Nat.one_mul]
      omega
    · rw [bin_big n (k + 1) (by omega), bin_big n (k + 1 + 1) (by omega)]
      by_cases hk2 : k = n
      · subst hk2; simp
      · rw [bin_big n k (by omega)]; simp
theorem bin_sym : ∀ (n k : Nat), k ≤ n → bin n (n - k) = bin n k
  | 0, 0, _ => rfl
  | n + 1, 0, _ => by rw [Nat.sub_zero, bin_self, bin_zero]
  | n + 1, k + 1, h => by
    by_cases hk : k = n
    · subst hk; rw [Nat.sub_self, bin_zero, bin_self]
    · obtain ⟨d, hd⟩ : ∃ d, n + 1 - (k + 1) = d + 1 := ⟨n - k - 1, by omega⟩
      rw [hd, bin_succ, bin_succ]
      have h1 := bin_sym n k (by omega)
      have h2 := bin_sym n (k + 1) (by omega)
      rw [show n - k = d + 1 by omega] at h1
      rw [show n - (k + 1) = d by omega] at h2
      omega
theorem bin_mono {n k : Nat} (h : 2 * (k + 1) ≤ n + 1) : bin n k ≤ bin n (k + 1) := by
  have h1 := bin_step n k
  have h2 : (k + 1) * bin n k ≤ (n - k) * bin n k := Nat.mul_le_mul_right _ (by omega)
  rw [← h1] at h2
  exact Nat.le_of_mul_le_mul_left h2 (by omega)
theorem bin_mono' {n i m : Nat} (hm : 2 * m ≤ n + 1) (h : i ≤ m) : bin n i ≤ bin n m := by
  obtain ⟨d, rfl⟩ : ∃ d, m = i + d := ⟨m - i, by omega⟩
  induction d with
  | zero => exact Nat.le_refl _
  | succ d ih => exact Nat.le_trans (ih (by omega) (by omega)) (bin_mono (n := n) (k := i + d) (by omega))
theorem bin_next (n k : Nat) : bin n k * (n - k) / (k + 1) = bin n (k + 1) := by
  rw [Nat.mul_comm, ← bin_step, Nat.mul_div_cancel_left _ (by omega)]
/-- the row's numbers sum to a power of two -/
def rowSum (n : Nat) : Nat → Nat
  | 0 => 0
  | k + 1 => rowSum n k + bin n k
theorem rowSum_succ (n k : Nat) : rowSum (n + 1) (k + 1) = rowSum n k + rowSum n (k + 1) := by
  induction k with
  | zero => simp [rowSum, bin_zero]
  | succ k ih =>
    rw [rowSum, ih, bin_succ]
    simp only [rowSum]
    omega
theorem rowSum_all : ∀ n, rowSum n (n + 1) = 2 ^ n
  | 0 => rfl
  | n + 1 => by
    rw [rowSum_succ, rowSum_all n]
    have : rowSum n (n + 1 + 1) = rowSum n (n + 1) := by
      show rowSum n (n + 1) + bin n (n + 1) = _
      rw [bin_big n (n + 1) (by omega)]; rfl
    rw [this, rowSum_all n]
    omega
theorem bin_le (n k : Nat) : bin n k ≤ 2 ^ n := by
  induction n generalizing k with
  | zero => cases k <;> simp [bin]
  | succ n ih =>
    cases k with
    | zero => rw [bin_zero]; exact Nat.one_le_two_pow
    | succ k => rw [bin_succ]; have := ih k; have := ih (k + 1); omega
theorem bin_pos {n k : Nat} (h : k ≤ n) : 0 < bin n k := by
  induction n generalizing k with
  | zero => obtain rfl : k = 0 := by omega
            decide
  | succ n ih =>
    cases k with
    | zero => rw [bin_zero]; omega
    | succ k => rw [bin_succ]; have := ih (k := k) (by omega); omega
theorem rowSum_le (n k : Nat) (h : k ≤ n + 1) : rowSum n k ≤ 2 ^ n := by
  have h1 : ∀ d, k + d ≤ n + 1 → rowSum n k ≤ rowSum n (k + d) := fun d => by
    induction d with
    | zero => intro _; exact Nat.le_refl _
    | succ d ih => intro hd; exact Nat.le_trans (ih (by omega)) (by show _ ≤ rowSum n (k + d) + _; omega)
  have := h1 (n + 1 - k) (by omega)
  rw [show k + (n + 1 - k) = n + 1 by omega, rowSum_all] at this
  exact this
/-- Pascal's row, cut off at a cap -/
def cap (x : Nat) : Nat := min x 1125899906842625
theorem cap_add (a b : Nat) : cap (cap a + cap b) = cap (a + b) := by unfold cap; omega
theorem cap_le (a : Nat) : cap a ≤ 1125899906842625 := by unfold cap; omega
end Go.Proofs.YtjbfoanboidkbaaDoor.Bn
