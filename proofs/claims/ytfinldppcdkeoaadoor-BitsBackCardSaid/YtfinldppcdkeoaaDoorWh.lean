/-
  math/bits: the number of set bits, and the lowest one; counts of sets.
  Conditions: words below 2^64; the library's table as it is laid, where it is said.
-/
import Derived.Test.YtfinldppcdkeoaaDoorWg
namespace Go.Proofs.YtfinldppcdkeoaaDoor
open Go.RowKit Bm
theorem and_c (x c : Nat) (hx : x < 18446744073709551616) (hc : c < 18446744073709551616) (C : Int) (hC : C = (c : Int)) : bits .and .u64 (x : Int) C = ((x &&& c : Nat) : Int) := by
  subst hC; exact u64_and_nat _ _ hx hc
theorem wrap_nat (x : Nat) (hx : x < 18446744073709551616) : IntKind.u64.wrap (x : Int) = x := by rw [IntKind.wrap_u64]; omega
theorem add_c (a b : Nat) (h : a + b < 18446744073709551616) : IntKind.u64.wrap ((a : Int) + (b : Int)) = ((a + b : Nat) : Int) := by
  rw [IntKind.wrap_u64]; omega
theorem dig_le (f : Nat → Nat) (d : Nat) (hf : ∀ b, b < 256 → f b ≤ d) (n x : Nat) : dig f n x ≤ mk d n := by
  induction n generalizing x with
  | zero => exact Nat.le_refl _
  | succ n ih => rw [dig, mk]; have := hf (x % 256) (by omega); have := ih (x / 256); omega
theorem ones_1 (x : Nat) (hx : x < 18446744073709551616) :
    IntKind.u64.wrap (bits BinOp.and IntKind.u64 ((x : Int) / 2) 6148914691236517205 + bits BinOp.and IntKind.u64 (x : Int) 6148914691236517205) = ((dig s1 8 x : Nat) : Int) := by
  have e : ((x : Int) / 2) = ((x / 2 : Nat) : Int) := by omega
  have h := step1 8 x
  rw [mk5] at h
  have l1 : x / 2 &&& 6148914691236517205 ≤ 6148914691236517205 := Nat.and_le_right
  have l2 : x &&& 6148914691236517205 ≤ 6148914691236517205 := Nat.and_le_right
  rw [e, and_c (x / 2) 6148914691236517205 (by omega) (by omega) (6148914691236517205 : Int) rfl, and_c x 6148914691236517205 hx (by omega) (6148914691236517205 : Int) rfl, add_c _ _ (by omega), h]
theorem ones_2 (x : Nat) :
    IntKind.u64.wrap (bits BinOp.and IntKind.u64 (((dig s1 8 x : Nat) : Int) / 4) 3689348814741910323 + bits BinOp.and IntKind.u64 ((dig s1 8 x : Nat) : Int) 3689348814741910323) = ((dig (fun b => s2 (s1 b)) 8 x : Nat) : Int) := by
  have h := step2 8 x
  have hy : dig s1 8 x ≤ mk 255 8 := dig_le _ 255 (fun b hb => by have := (byte_facts b hb).1; omega) _ _
  rw [show mk 255 8 = 18446744073709551615 from by decide] at hy
  rw [mk3] at h
  generalize dig s1 8 x = y at *
  have e : ((y : Int) / 4) = ((y / 4 : Nat) : Int) := by omega
  have l1 : y / 4 &&& 3689348814741910323 ≤ 3689348814741910323 := Nat.and_le_right
  have l2 : y &&& 3689348814741910323 ≤ 3689348814741910323 := Nat.and_le_right
  rw [e, and_c (y / 4) 3689348814741910323 (by omega) (by omega) (3689348814741910323 : Int) rfl, and_c y 3689348814741910323 (by omega) (by omega) (3689348814741910323 : Int) rfl, add_c _ _ (by omega), h]
theorem ones_3 (x : Nat) :
    bits BinOp.and IntKind.u64 (IntKind.u64.wrap (((dig (fun b => s2 (s1 b)) 8 x : Nat) : Int) / 16 + ((dig (fun b => s2 (s1 b)) 8 x : Nat) : Int))) 1085102592571150095 = ((dig (fun b => cnt 8 b) 8 x : Nat) : Int) := by
  have h := step3 8 x
  have hy : dig (fun b => s2 (s1 b)) 8 x ≤ mk 0x44 8 := dig_le _ 0x44 (fun b hb => (byte_facts b hb).2.1) _ _
  rw [show mk 0x44 8 = 4919131752989213764 from by decide] at hy
  rw [mk15] at h
  generalize dig (fun b => s2 (s1 b)) 8 x = y at *
  have e : ((y : Int) / 16) = ((y / 16 : Nat) : Int) := by omega
  rw [e, add_c _ _ (by omega), and_c _ 1085102592571150095 (by omega) (by omega) (1085102592571150095 : Int) rfl, h]
theorem ofInt_63 (a : Nat) (ha : a < 9223372036854775808) : (BitVec.ofInt 64 (a : Int)).toNat = a := by
  rw [BitVec.ofInt_natCast, BitVec.toNat_ofNat]; exact Nat.mod_eq_of_lt (by omega)
theorem and_127 (a : Nat) (ha : a < 9223372036854775808) : bits .and .i64 (a : Int) 127 = ((a % 128 : Nat) : Int) := by
  have hx : a &&& 127 < 2 ^ 63 := Nat.and_lt_two_pow _ (by omega)
  have h2 : (BitVec.ofInt 64 (127 : Int)).toNat = 127 := by decide
  show IntKind.i64.wrap ((BitVec.ofInt 64 (a : Int) &&& BitVec.ofInt 64 127).toNat : Int) = _
  rw [BitVec.toNat_and, ofInt_63 a ha, h2, IntKind.wrap_i64, nat_mask7]
  omega
theorem ones_4 (y : Nat) (hy : y ≤ 578721382704613384) :
    bits BinOp.and IntKind.i64 (wrap64 (IntKind.u64.wrap (IntKind.u64.wrap (IntKind.u64.wrap ((y : Int) + (y : Int) / 256) + IntKind.u64.wrap ((y : Int) + (y : Int) / 256) / 65536) + IntKind.u64.wrap (IntKind.u64.wrap ((y : Int) + (y : Int) / 256) + IntKind.u64.wrap ((y : Int) + (y : Int) / 256) / 65536) / 4294967296))) 127 = ((fold3 y : Nat) : Int) := by
  have e1 : IntKind.u64.wrap ((y : Int) + (y : Int) / 256) = ((y + y / 256 : Nat) : Int) := by rw [IntKind.wrap_u64]; omega
  rw [e1]
  unfold fold3
  simp only []
  generalize hz : y + y / 256 = z at *
  have hzl : z < 600000000000000000 := by omega
  have e2 : IntKind.u64.wrap ((z : Int) + (z : Int) / 65536) = ((z + z / 65536 : Nat) : Int) := by rw [IntKind.wrap_u64]; omega
  rw [e2]
  generalize hu : z + z / 65536 = u at *
  have hul : u < 700000000000000000 := by omega
  have e3 : IntKind.u64.wrap ((u : Int) + (u : Int) / 4294967296) = ((u + u / 4294967296 : Nat) : Int) := by rw [IntKind.wrap_u64]; omega
  rw [e3]
  generalize hv : u + u / 4294967296 = v at *
  have hvl : v < 800000000000000000 := by omega
  clear hv hu hz e1 e2 e3 hul hzl hy
  have e4 : wrap64 (v : Int) = v := IntWalk.wrap64_in _ ⟨by omega, by omega⟩
  have h9 : v < 9223372036854775808 := Nat.lt_of_lt_of_le hvl (Nat.le_of_ble_eq_true rfl)
  rw [e4, and_127 v h9]
set_option maxHeartbeats 800000 in
theorem ones_c (x : Nat) (w : World) (hx : x < 18446744073709551616) :
    Calls Tryd.prog 57 #[.int .u64 x] w (Ret w (.int .i64 (cnt 64 x))) := by
  have E1 := Lib.hid (ones_1 x hx)
  have E2 := Lib.hid (ones_2 x)
  have E3 := Lib.hid (ones_3 x)
  have E4 : Hid (∀ y : Nat, y ≤ 578721382704613384 → _) := fun y hy => ones_4 y hy
  clear hx
  go_enter Tryd.func57, Tryd.ntmps57
  go_wp2
  go_ret
  refine Ret.mk ?_ (Ex.refl _)
  show Value.int IntKind.i64 _ = _
  rw [E1.out, E2.out, E3.out]
  have hb : dig (fun b => cnt 8 b) 8 x ≤ 578721382704613384 := by
    have h := dig_le (fun b => cnt 8 b) 8 cnt8_le 8 x
    rwa [show mk 8 8 = 578721382704613384 from by decide] at h
  rw [E4.out _ hb, cnt64]
theorem lowest (x : Nat) (h0 : x ≠ 0) (hx : x < 18446744073709551616) :
    IntKind.u64.wrap (bits BinOp.and IntKind.u64 (x : Int) (IntKind.u64.wrap (-(x : Int))) * 285870213051353865) / 288230376151711744 = ((2 ^ Go.Lib.ctz 64 x * 285870213051353865 % 18446744073709551616 / 288230376151711744 : Nat) : Int) := by
  have e1 : IntKind.u64.wrap (-(x : Int)) = ((18446744073709551616 - x : Nat) : Int) := by rw [IntKind.wrap_u64]; omega
  rw [e1, u64_and_nat x _ hx (by omega), (Go.Lib.lowest_bit 64 x h0 hx).1, IntKind.wrap_u64]
  generalize 2 ^ Go.Lib.ctz 64 x = a
  omega
set_option maxHeartbeats 800000 in
theorem tz_core (x k idx : Nat) (w : World) (hx0 : ((x : Int) == 0) = false)
    (key : IntKind.u64.wrap (bits BinOp.and IntKind.u64 (x : Int) (IntKind.u64.wrap (-(x : Int))) * 285870213051353865) / 288230376151711744 = (idx : Int))
    (hi : idx < 64) (hk : k < 64) (hcell : w.cell? ⟨0, idx, none⟩ = some (.int .u8 k)) :
    Calls Tryd.prog 50 #[.int .u64 x] w (Ret w (.int .i64 k)) := by
  go_enter Tryd.func50, Tryd.ntmps50
  go_wp2_with (simp only [key])
  go_ret
  exact Ret.mk rfl (Ex.refl _)
/-- the library's table as it is laid -/
def Tab (w : World) : Prop := 0 < w.heap.size ∧ ∀ j, j < 64 → w.cell? ⟨0, j, none⟩ = some (.int .u8 ((Go.Lib.deBruijn64tab.getD j 0 : Nat) : Int))
theorem Tab.ex {w w' : World} (h : Tab w) (hx : Ex w w') : Tab w' :=
  ⟨Nat.lt_of_lt_of_le h.1 hx.below.size, fun j hj => (hx.below.cell (p := ⟨0, j, none⟩) h.1).trans (h.2 j hj)⟩
theorem tz_c (x : Nat) (w : World) (h0 : x ≠ 0) (hx : x < 18446744073709551616) (hT : Tab w) :
    Calls Tryd.prog 50 #[.int .u64 x] w (Ret w (.int .i64 (Go.Lib.ctz 64 x))) := by
  obtain ⟨hlow, hk⟩ := Go.Lib.lowest_bit 64 x h0 hx
  obtain ⟨hi, htab⟩ := Go.Lib.deBruijn64_at _ hk
  have hcell := hT.2 _ hi
  rw [htab] at hcell
  exact tz_core x _ _ w (by simp; omega) (lowest x h0 hx) hi hk hcell
end Go.Proofs.YtfinldppcdkeoaaDoor
