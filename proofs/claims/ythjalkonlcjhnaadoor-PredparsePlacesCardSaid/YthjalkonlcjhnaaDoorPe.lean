/-
  Numbers of the reference; places.
  Conditions: texts of at most 20000 bytes.
-/
import Derived.Test.YthjalkonlcjhnaaDoorPd
namespace Go.Proofs.YthjalkonlcjhnaaDoor
open Go.RowKit
theorem take_snoc (s : ByteArray) (k : Nat) (h : k < s.size) : s.data.toList.take (k + 1) = s.data.toList.take k ++ [s[k]] := by
  have hl : k < s.data.toList.length := by rw [← size_data]; exact h
  rw [List.take_succ_eq_append_getElem hl]
  congr 2
theorem val_snoc (s : ByteArray) (k : Nat) (h : k < s.size) : valF 0 (s.data.toList.take (k + 1)) = valF 0 (s.data.toList.take k) * 10 + (s[k].toNat - 48) := by
  rw [take_snoc s k h, valF_append]; rfl
theorem val_mono (s : ByteArray) (k : Nat) : valF 0 (s.data.toList.take k) ≤ valF 0 s.data.toList := by
  have h : valF 0 (s.data.toList.take k ++ s.data.toList.drop k) = valF (valF 0 (s.data.toList.take k)) (s.data.toList.drop k) := valF_append _ _ _
  rw [List.take_append_drop] at h
  rw [h]
  exact valF_ge _ _
theorem dig_at (s : ByteArray) (h : s.data.toList.all digB = true) (k : Nat) (hk : k < s.size) : 48 ≤ s[k].toNat ∧ s[k].toNat ≤ 57 := by
  rw [← digB_iff]
  exact List.all_eq_true.1 h _ (List.mem_of_getElem? (get_idx hk))
end Go.Proofs.YthjalkonlcjhnaaDoor
