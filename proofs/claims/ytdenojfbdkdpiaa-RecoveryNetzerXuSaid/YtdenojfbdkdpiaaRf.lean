/-
  Comparing two equal lists of checkpoints.
  Conditions: as each theorem says.
-/
import Derived.Test.YtdenojfbdkdpiaaRe
namespace Go.Proofs.Ytdenojfbdkdpiaa
open Go.RowKit Go.Shelf
theorem idRow_at {w : World} {A : Option Addr} {xs : List (Nat × Nat)} (h : Row w A (idCs xs)) {j : Nat} {x : Nat × Nat} (hj : xs[j]? = some x) : ∃ b o, A = some ⟨b, o, none⟩ ∧ b < w.heap.size ∧ w.cell? ⟨b, o + j * 2, none⟩ = some (.int .i64 (x.1 : Nat)) ∧ w.cell? ⟨b, o + j * 2 + 1, none⟩ = some (.int .i64 (x.2 : Nat)) := by
  obtain ⟨h1, h2⟩ := idCs_get hj
  rcases h with h | ⟨b, o, e, hb, h⟩
  · rw [h] at h1; simp at h1
  · exact ⟨b, o, e, hb, h _ _ h1, by rw [Nat.add_assoc]; exact h _ _ h2⟩
set_option maxRecDepth 20000 in
set_option maxHeartbeats 1600000 in
theorem sameIds_c (xs : List (Nat × Nat)) (A B : Option Addr) (c d : Nat) (w : World) (hx : Row w A (idCs xs)) (hy : Row w B (idCs xs)) (lx : xs.length ≤ 1000000000) :
    Calls Try.prog 32 #[.slice A xs.length c, .slice B xs.length d] w (Ret w (.bool true)) := by
  have HXr := Lib.hid (fun w' (h : Ex w w') => hx.ex h)
  have HYr := Lib.hid (fun w' (h : Ex w w') => hy.ex h)
  clear hx hy
  go_enter Try.func32, Try.ntmps32
  go_wp2_with fail
  go_loopw [13] (fun q wr => ∃ j : Nat, q = .int .i64 j ∧ j ≤ xs.length ∧ Hid (Ex w wr)) (fun q _ => xs.length - (intOf q).toNat)
  case atStart => exact ⟨0, rfl, Nat.zero_le _, Lib.hid (Ex.refl _)⟩
  case round =>
    obtain ⟨j, rfl, hj, HX⟩ := hrel
    by_cases hjl : j < xs.length
    · have m0 : (0 : Int) ≤ (j : Int) := by omega
      have m1 : (j : Int) < (xs.length : Int) := by omega
      obtain ⟨x, hxj⟩ := get_at hjl
      obtain ⟨b, o, rfl, hb, k0, k1⟩ := idRow_at (HXr.out _ HX.out) hxj
      obtain ⟨b', o', rfl, hb', q0, q1⟩ := idRow_at (HYr.out _ HX.out) hxj
      clear hxj
      go_wp2_with fail
      go_quiet (fail)
      go_wp2_with fail
      exact ⟨⟨j + 1, by go_num, by omega, Lib.hid (HX.out.drewN _)⟩, by simp [intOf]; omega⟩
    · obtain rfl : j = xs.length := by omega
      have s1 : decide ((xs.length : Int) < (xs.length : Int)) = false := decide_eq_false (by omega)
      go_wp2_with fail
      go_ret
      exact Ret.mk rfl HX.out
end Go.Proofs.Ytdenojfbdkdpiaa
