/-
  The walk of the law Parts.
  Conditions: the world's tables are as laid (Env).
-/
import Derived.Test.YtjbfoanboidkbaaDoorNf
namespace Go.Proofs.YtjbfoanboidkbaaDoor
open Go.RowKit Nu Bn
theorem choose_cases (n k : Int) : (n < 0 ∨ 1000 < n ∨ k < 0 ∨ n < k) ∨ ∃ m j : Nat, n = m ∧ k = j ∧ m ≤ 1000 ∧ j ≤ m := by
  by_cases h : n < 0 ∨ 1000 < n ∨ k < 0 ∨ n < k
  · exact .inl h
  · exact .inr ⟨n.toNat, k.toNat, by omega, by omega, by omega, by omega⟩
theorem cho_cases (n k : Nat) : (choV n k = (bin n k : Nat) ∧ choE n k = 0 ∧ rcB n k = true ∧ bin n k ≤ 1125899906842624) ∨ (choV n k = 0 ∧ choE n k = 9 ∧ rcB n k = false ∧ ¬ bin n k ≤ 1125899906842624) := by
  unfold choV choE rcB
  by_cases h : bin n k ≤ 1125899906842624
  · left; simp [h]
  · right; simp [h]
set_option maxHeartbeats 4000000 in
theorem parts_c (a b n k : Int) (w : World) (hE : Env w) : Calls Tryd.prog 3 #[.int .i64 a, .int .i64 b, .int .i64 n, .int .i64 k] w (Ret w (.bool true)) := by
  have HA := Lib.hid (fun w' (hx : Ex w w') => awake_c w' (hE.ex hx))
  have HI := Lib.hid rIs_c
  clear hE
  have HC : (∃ H : Hid (∀ w', Calls Tryd.prog 13 #[.int .i64 n, .int .i64 k] w' (Ret w' (Two 0 2))), (n < 0 ∨ 1000 < n ∨ k < 0 ∨ n < k)) ∨ ∃ (V E : Int) (B : Bool) (_ : Hid (∀ w', Calls Tryd.prog 13 #[.int .i64 n, .int .i64 k] w' (Ret w' (Two V E)))) (_ : Hid (∀ w', Calls Tryd.prog 17 #[.int .i64 n, .int .i64 k] w' (Ret w' (Twb V B)))), ¬ (n < 0 ∨ 1000 < n ∨ k < 0 ∨ n < k) ∧ ((E = 0 ∧ B = true) ∨ (E = 9 ∧ B = false)) := by
    rcases choose_cases n k with h | ⟨m, j, rfl, rfl, hm, hj⟩
    · exact .inl ⟨Lib.hid fun w' => choose_bad n k w' h, h⟩
    · refine .inr ⟨choV m j, choE m j, rcB m j, Lib.hid fun w' => choose_ok m j w' hm hj, Lib.hid fun w' => rChoose_ok m j w' hm hj, by omega, ?_⟩
      rcases cho_cases m j with ⟨-, h2, h3, -⟩ | ⟨-, h2, h3, -⟩
      · exact .inl ⟨h2, h3⟩
      · exact .inr ⟨h2, h3⟩
  have HF : (∃ (_ : Hid (∀ w', Calls Tryd.prog 11 #[.int .i64 a, .int .i64 b] w' (Ret w' (Two 0 2)))) (_ : Hid (∀ w', Calls Tryd.prog 12 #[.int .i64 a, .int .i64 b] w' (Ret w' (Two 0 2)))), (isB a = false ∨ (isB a = true ∧ isB b = false))) ∨
      ∃ (q d : Int) (_ : Hid (∀ w', Calls Tryd.prog 12 #[.int .i64 a, .int .i64 b] w' (Ret w' (Two d 0)))) (_ : Hid (∀ w', Calls Tryd.prog 16 #[.int .i64 a, .int .i64 b] w' (Ret w' (.int .i64 d)))), isB a = true ∧ isB b = true ∧
        (((b == 0) = true ∧ Hid (∀ w', Calls Tryd.prog 11 #[.int .i64 a, .int .i64 b] w' (Ret w' (Two 0 2)))) ∨ ((b == 0) = false ∧ Hid (∀ w', Calls Tryd.prog 11 #[.int .i64 a, .int .i64 b] w' (Ret w' (Two q 0))) ∧ Hid (∀ w', Calls Tryd.prog 15 #[.int .i64 a, .int .i64 b] w' (Ret w' (.int .i64 q))))) := by
    by_cases h : isB a = true ∧ isB b = true
    · obtain ⟨h1, h2⟩ := h
      refine .inr ⟨flr a b, (Int.gcd a b : Nat), Lib.hid fun w' => gcd_ok a b w' h1 h2, Lib.hid fun w' => rGcd_ok a b w' h1 h2, h1, h2, ?_⟩
      by_cases h0 : b = 0
      · exact .inl ⟨by simpa using h0, Lib.hid fun w' => floor_bad a b w' (by simp [h0])⟩
      · exact .inr ⟨by simpa using h0, Lib.hid fun w' => floor_ok a b w' h1 h2 h0, Lib.hid fun w' => rFloor_ok a b w' h1 h0⟩
    · have h' : (isB a && isB b) = false := by
        cases h1 : isB a <;> cases h2 : isB b <;> simp_all
      refine .inl ⟨Lib.hid fun w' => floor_bad a b w' (by rw [← Bool.and_assoc, h']; rfl), Lib.hid fun w' => gcd_bad a b w' h', ?_⟩
      cases h1 : isB a
      · exact .inl rfl
      · exact .inr ⟨rfl, by rw [h1] at h'; simpa using h'⟩
  unfold Two Twb at *
  rcases HF with ⟨F1, F2, hab | ⟨ha, hb⟩⟩ | ⟨q, d, F2, F4, ha, hb, ⟨h0, F1⟩ | ⟨h0, F1, F3⟩⟩
  all_goals
    rcases HC with ⟨C1, hc⟩ | ⟨V, E, B, C1, C2, hc, ⟨rfl, rfl⟩ | ⟨rfl, rfl⟩⟩
  all_goals
    go_enter Tryd.func3, Tryd.ntmps3
    go_wp2_with (first
      | (go_at_call 10; refine (HA.out _ (Ex.refl _)).mono ?_; rintro e w' ⟨rfl, z0, rfl⟩)
      | (go_at_call 11; refine (F1.out _).mono ?_; rintro e w' ⟨rfl, z1, rfl⟩)
      | (go_at_call 12; refine (F2.out _).mono ?_; rintro e w' ⟨rfl, z2, rfl⟩)
      | (go_at_call 13; refine (C1.out _).mono ?_; rintro e w' ⟨rfl, z3, rfl⟩)
      | (go_at_call 14; refine (HI.out _ _).mono ?_; rintro e w' ⟨rfl, z4, rfl⟩)
      | (go_at_call 15; refine (F3.out _).mono ?_; rintro e w' ⟨rfl, z5, rfl⟩)
      | (go_at_call 16; refine (F4.out _).mono ?_; rintro e w' ⟨rfl, z6, rfl⟩)
      | (go_at_call 17; refine (C2.out _).mono ?_; rintro e w' ⟨rfl, z7, rfl⟩))
  all_goals
    go_ret
    exact Ret.mk (by simp) (by repeat (first | exact Ex.refl _ | apply Ex.ext))
end Go.Proofs.YtjbfoanboidkbaaDoor
