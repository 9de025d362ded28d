/-
  Numbers of the reference; places.
  Conditions: texts of at most 20000 bytes.
-/
import Derived.Test.YthjalkonlcjhnaaGreatDoorPd
namespace Go.Proofs.YthjalkonlcjhnaaGreatDoor
open Go.RowKit
theorem take_snoc (s : ByteArray) (k : Nat) (h : k < s.size) : s.data.toList.take (k + 1) = s.data.toList.take k ++ [s[k]] := by
  have hl : k < s.data.toList.length := by rw [← size_data]; exact h
  rw [List.take_succ_eq_append_getElem hl]
  congr 2
theorem val_snoc (s : ByteArray) (k : Nat) (h : k < s.size) : valF 0 (s.data.toList.take (k + 1)) = valF 0 (s.data.toList.take k) * 10 + (s[k].toNat - 48) := by
  rw [take_snoc s k h, valF_append]; rfl
theorem val_mono (s : ByteArray) (k : Nat) : valF 0 (s.data.toList.take k) ≤ valF 0 s.data.toList := by
  have h : valF 0 (s.data.toList.take k ++ s.data.toList.drop k) = valF (valF 0 (s.data.toList.take k)) (s.data.toList.drop k) := valF_append _ _ _
  rw [List.take_append_drop] at h
  rw [h]
  exact valF_ge _ _
theorem dig_at (s : ByteArray) (h : s.data.toList.all digB = true) (k : Nat) (hk : k < s.size) : 48 ≤ s[k].toNat ∧ s[k].toNat ≤ 57 := by
  rw [← digB_iff]
  exact List.all_eq_true.1 h _ (List.mem_of_getElem? (get_idx hk))
set_option maxHeartbeats 800000 in
theorem rNumber_c (s : ByteArray) (w : World) (hs : s.size ≤ 20000) (h0 : 0 < s.size) (h : s.data.toList.all digB = true) : Calls Tryz.prog 111 #[.string s] w (Ret w (.int .i64 (numE s.data.toList : Nat))) := by
  by_cases h1 : 1 < s.size ∧ ((s[0].toNat : Int) == 48) = true
  · rw [num_zero s h1.1 h1.2]
    have f1 : decide (1 < (s.size : Int)) = true := decide_eq_true (by omega)
    have f2 := h1.2
    clear h1 h
    go_enter Tryz.func111, Tryz.ntmps111
    go_wp2_with fail
    go_ret
    exact Ret.mk rfl (Ex.refl _)
  · have h2 : ¬ 1 < s.size ∨ ((s[0].toNat : Int) == 48) = false := by
      by_cases h3 : 1 < s.size
      · right
        cases hq : ((s[0].toNat : Int) == 48)
        · rfl
        · exact absurd ⟨h3, hq⟩ h1
      · exact .inl h3
    rw [num_one s h0 h2]
    have f12 : (decide (1 < (s.size : Int)) = true ∧ ((s[0].toNat : Int) == 48) = false) ∨ decide (1 < (s.size : Int)) = false := by
      rcases h2 with h2 | h2
      · exact .inr (decide_eq_false (by omega))
      · by_cases h3 : 1 < s.size
        · exact .inl ⟨decide_eq_true (by omega), h2⟩
        · exact .inr (decide_eq_false (by omega))
    have HD := Lib.hid (dig_at s h)
    have HS := Lib.hid (val_snoc s)
    have HM := Lib.hid (val_mono s)
    have HZ : Hid (valF 0 (s.data.toList.take 0) = 0) := rfl
    have HT : Hid (s.data.toList.take s.size = s.data.toList) := by
      show _ = _
      rw [size_data, List.take_length]
    have HR : Hid (∀ V b : Nat, V ≤ b → (if V ≤ b then 0 else 9) = 0) := fun V b h => if_pos h
    have HR9 : Hid (∀ V b : Nat, ¬ V ≤ b → (if V ≤ b then 0 else 9) = 9) := fun V b h => if_neg h
    replace HR := Lib.hid (HR.out (valF 0 s.data.toList) 1125899906842624)
    replace HR9 := Lib.hid (HR9.out (valF 0 s.data.toList) 1125899906842624)
    clear h1 h2 h
    generalize (if valF 0 s.data.toList ≤ 1125899906842624 then 0 else 9) = R at *
    generalize s.data.toList = L at *
    rcases f12 with ⟨f1, f2⟩ | f1
    all_goals
      go_enter Tryz.func111, Tryz.ntmps111
      go_wp2_with fail
      go_loopw [3, 4] (fun n i wr => ∃ k x : Nat, i = .int .i64 k ∧ n = .int .i64 x ∧ k ≤ s.size ∧ x ≤ 1125899906842624 ∧ Hid (x = valF 0 (L.take k)) ∧ Ex w wr) (fun _ i _ => s.size - (intOf i).toNat)
      case atStart => exact ⟨0, 0, rfl, rfl, by omega, by omega, HZ.out.symm, Ex.refl _⟩
      case round =>
        obtain ⟨k, x, rfl, rfl, hk, hx, HX, hw⟩ := hrel
        have HXw := Lib.hid hw
        clear hw
        by_cases hlt : k < s.size
        · have hki : (k : Int) < (s.size : Int) := by omega
          obtain ⟨d1, d2⟩ := HD.out k hlt
          have hsn := HS.out k hlt
          have hmo := HM.out (k + 1)
          rw [← HX.out] at hsn
          obtain ⟨c, hc⟩ : ∃ c : Nat, c = s[k].toNat := ⟨_, rfl⟩
          have hc2 : (s[k].toNat : Int) = (c : Int) := by rw [hc]
          rw [← hc] at d1 d2 hsn
          have e1 : IntKind.u8.wrap ((c : Int) - 48) = ((c - 48 : Nat) : Int) := by
            show ((c : Int) - 48) % 256 = _
            omega
          obtain ⟨X, hX⟩ : ∃ X, X = valF 0 (List.take (k + 1) L) := ⟨_, rfl⟩
          rw [← hX] at hsn hmo
          have HXX := Lib.hid hX
          clear hX
          by_cases hb : X ≤ 1125899906842624
          · have b1 : decide ((1125899906842624 : Int) < ((X : Nat) : Int)) = false := decide_eq_false (by omega)
            go_wp2_with fail
            refine ⟨⟨k + 1, X, by go_num, by go_num, by omega, hb, HXX, HXw.out⟩, by simp [intOf]; omega⟩
          · have e9 := HR9.out (by omega)
            subst e9
            go_wp2_with fail
            go_ret
            exact Ret.mk rfl HXw.out
        · obtain rfl : k = s.size := by omega
          rw [HX.out, HT.out] at hx
          have e0 := HR.out hx
          subst e0
          go_wp2_with fail
          go_ret
          exact Ret.mk rfl HXw.out
end Go.Proofs.YthjalkonlcjhnaaGreatDoor
