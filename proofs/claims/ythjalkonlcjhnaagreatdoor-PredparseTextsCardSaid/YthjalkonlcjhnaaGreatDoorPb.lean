/-
  How many bytes of a kind a text begins with; names and digits of the reference.
  Conditions: texts of at most 20000 bytes.
-/
import Derived.Test.YthjalkonlcjhnaaGreatDoorPa
import Derived.Lib.IndexBytes
namespace Go.Proofs.YthjalkonlcjhnaaGreatDoor
open Go.RowKit
theorem size_data (s : ByteArray) : s.size = s.data.toList.length := by show s.data.size = _; rw [Array.length_toList]
theorem get_idx {D : ByteArray} {k : Nat} (h : k < D.size) : D.data.toList[k]? = some D[k] := by
  rw [Array.getElem?_toList]
  exact Array.getElem?_eq_getElem h
def spanL (p : UInt8 → Bool) (l : List UInt8) : Nat := (l.takeWhile p).length
theorem span_at (p : UInt8 → Bool) : ∀ (l : List UInt8) (k : Nat), (∀ j c, j < k → l[j]? = some c → p c = true) → (∀ c, l[k]? = some c → p c = false) → k ≤ l.length → spanL p l = k
  | [], k, _, _, h => by
    have : k = 0 := by simpa using h
    subst this
    rfl
  | c :: r, 0, _, h2, _ => by
    have := h2 c rfl
    unfold spanL
    rw [List.takeWhile_cons, this]
    rfl
  | c :: r, k + 1, h1, h2, h => by
    have hc := h1 0 c (by omega) rfl
    have ih := span_at p r k (fun j d hj hd => h1 (j + 1) d (by omega) (by simpa using hd)) (fun d hd => h2 d (by simpa using hd)) (by simpa using h)
    unfold spanL at ih ⊢
    rw [List.takeWhile_cons, hc]
    simp [ih]
theorem span_le (p : UInt8 → Bool) (l : List UInt8) : spanL p l ≤ l.length := (List.takeWhile_sublist p).length_le
theorem span_stop (p : UInt8 → Bool) (s : ByteArray) (k : Nat) (hk : k < s.size) (h1 : ∀ j, (hj : j < s.size) → j < k → p s[j] = true) (h2 : p s[k] = false) : spanL p s.data.toList = k := by
  refine span_at p _ k (fun j c hj hc => ?_) (fun c hc => ?_) (by rw [← size_data]; omega)
  · rw [get_idx (by omega)] at hc
    injection hc with hc
    rw [← hc]
    exact h1 j (by omega) hj
  · rw [get_idx hk] at hc
    injection hc with hc
    rw [← hc]
    exact h2
theorem span_all (p : UInt8 → Bool) (s : ByteArray) (h1 : ∀ j, (hj : j < s.size) → p s[j] = true) : spanL p s.data.toList = s.size := by
  refine span_at p _ s.size (fun j c hj hc => ?_) (fun c hc => ?_) (by rw [← size_data]; exact Nat.le_refl _)
  · rw [get_idx hj] at hc
    injection hc with hc
    rw [← hc]
    exact h1 j hj
  · rw [List.getElem?_eq_none (by rw [← size_data]; exact Nat.le_refl _)] at hc
    cases hc
set_option maxHeartbeats 800000 in
theorem span_blank (s : ByteArray) (w : World) (h : s.size ≤ 20000) : Calls Tryz.prog 58 #[.string s, .func (.func 75) #[] #[]] w (Ret w (.int .i64 (spanL blkB s.data.toList : Nat))) := by
  have HF := Lib.hid blank_c
  have HS := Lib.hid (span_stop blkB s)
  have HA := Lib.hid (span_all blkB s)
  generalize spanL blkB s.data.toList = N at *
  go_enter Tryz.func58, Tryz.ntmps58
  go_wp2_with fail
  go_loopw [5] (fun n wr => ∃ k : Nat, n = .int .i64 k ∧ k ≤ s.size ∧ Hid (∀ j, (hj : j < s.size) → j < k → blkB s[j] = true) ∧ Ex w wr) (fun n _ => s.size - (intOf n).toNat)
  case atStart => exact ⟨0, rfl, by omega, (fun j _ hj => absurd hj (by omega)), Ex.refl _⟩
  case round =>
    obtain ⟨k, rfl, hk, hall, hx⟩ := hrel
    have HX := Lib.hid hx
    clear hx
    by_cases hlt : k < s.size
    · have hki : (k : Int) < (s.size : Int) := by omega
      have HF' := Lib.hid (HF.out s[k])
      cases hp : blkB s[k]
      · have e := HS.out k hlt hall hp
        rw [hp] at HF'
        clear hp
        subst e
        go_wp2_with fail
        refine (HF'.out _).mono ?_
        rintro e w' ⟨rfl, z, rfl⟩
        go_wp2_with fail
        go_ret
        exact Ret.mk rfl (HX.out.ext _)
      · have HAll : Hid (∀ j, (hj : j < s.size) → j < k + 1 → blkB s[j] = true) := fun j hj hjk => by
          by_cases h : j < k
          · exact hall j hj h
          · obtain rfl : j = k := by omega
            exact hp
        rw [hp] at HF'
        clear hp
        go_wp2_with fail
        refine (HF'.out _).mono ?_
        rintro e w' ⟨rfl, z, rfl⟩
        go_wp2_with fail
        refine ⟨⟨k + 1, by go_num, by omega, HAll, HX.out.ext _⟩, by simp [intOf]; omega⟩
    · obtain rfl : k = s.size := by omega
      have e := HA.out (fun j hj => hall j hj hj)
      subst e
      have hki : decide ((s.size : Int) < (s.size : Int)) = false := by simp
      go_wp2_with fail
      go_ret
      exact Ret.mk rfl HX.out
set_option maxHeartbeats 800000 in
theorem span_digit (s : ByteArray) (w : World) (h : s.size ≤ 20000) : Calls Tryz.prog 58 #[.string s, .func (.func 87) #[] #[]] w (Ret w (.int .i64 (spanL digB s.data.toList : Nat))) := by
  have HF := Lib.hid digit_c
  have HS := Lib.hid (span_stop digB s)
  have HA := Lib.hid (span_all digB s)
  generalize spanL digB s.data.toList = N at *
  go_enter Tryz.func58, Tryz.ntmps58
  go_wp2_with fail
  go_loopw [5] (fun n wr => ∃ k : Nat, n = .int .i64 k ∧ k ≤ s.size ∧ Hid (∀ j, (hj : j < s.size) → j < k → digB s[j] = true) ∧ Ex w wr) (fun n _ => s.size - (intOf n).toNat)
  case atStart => exact ⟨0, rfl, by omega, (fun j _ hj => absurd hj (by omega)), Ex.refl _⟩
  case round =>
    obtain ⟨k, rfl, hk, hall, hx⟩ := hrel
    have HX := Lib.hid hx
    clear hx
    by_cases hlt : k < s.size
    · have hki : (k : Int) < (s.size : Int) := by omega
      have HF' := Lib.hid (HF.out s[k])
      cases hp : digB s[k]
      · have e := HS.out k hlt hall hp
        rw [hp] at HF'
        clear hp
        subst e
        go_wp2_with fail
        refine (HF'.out _).mono ?_
        rintro e w' ⟨rfl, z, rfl⟩
        go_wp2_with fail
        go_ret
        exact Ret.mk rfl (HX.out.ext _)
      · have HAll : Hid (∀ j, (hj : j < s.size) → j < k + 1 → digB s[j] = true) := fun j hj hjk => by
          by_cases h : j < k
          · exact hall j hj h
          · obtain rfl : j = k := by omega
            exact hp
        rw [hp] at HF'
        clear hp
        go_wp2_with fail
        refine (HF'.out _).mono ?_
        rintro e w' ⟨rfl, z, rfl⟩
        go_wp2_with fail
        refine ⟨⟨k + 1, by go_num, by omega, HAll, HX.out.ext _⟩, by simp [intOf]; omega⟩
    · obtain rfl : k = s.size := by omega
      have e := HA.out (fun j hj => hall j hj hj)
      subst e
      have hki : decide ((s.size : Int) < (s.size : Int)) = false := by simp
      go_wp2_with fail
      go_ret
      exact Ret.mk rfl HX.out
set_option maxHeartbeats 800000 in
theorem span_part (s : ByteArray) (w : World) (h : s.size ≤ 20000) : Calls Tryz.prog 58 #[.string s, .func (.func 59) #[] #[]] w (Ret w (.int .i64 (spanL partB s.data.toList : Nat))) := by
  have HF := Lib.hid part_c
  have HS := Lib.hid (span_stop partB s)
  have HA := Lib.hid (span_all partB s)
  generalize spanL partB s.data.toList = N at *
  go_enter Tryz.func58, Tryz.ntmps58
  go_wp2_with fail
  go_loopw [5] (fun n wr => ∃ k : Nat, n = .int .i64 k ∧ k ≤ s.size ∧ Hid (∀ j, (hj : j < s.size) → j < k → partB s[j] = true) ∧ Ex w wr) (fun n _ => s.size - (intOf n).toNat)
  case atStart => exact ⟨0, rfl, by omega, (fun j _ hj => absurd hj (by omega)), Ex.refl _⟩
  case round =>
    obtain ⟨k, rfl, hk, hall, hx⟩ := hrel
    have HX := Lib.hid hx
    clear hx
    by_cases hlt : k < s.size
    · have hki : (k : Int) < (s.size : Int) := by omega
      have HF' := Lib.hid (HF.out s[k])
      cases hp : partB s[k]
      · have e := HS.out k hlt hall hp
        rw [hp] at HF'
        clear hp
        subst e
        go_wp2_with fail
        refine (HF'.out _).mono ?_
        rintro e w' ⟨rfl, z, rfl⟩
        go_wp2_with fail
        go_ret
        exact Ret.mk rfl (HX.out.ext _)
      · have HAll : Hid (∀ j, (hj : j < s.size) → j < k + 1 → partB s[j] = true) := fun j hj hjk => by
          by_cases h : j < k
          · exact hall j hj h
          · obtain rfl : j = k := by omega
            exact hp
        rw [hp] at HF'
        clear hp
        go_wp2_with fail
        refine (HF'.out _).mono ?_
        rintro e w' ⟨rfl, z, rfl⟩
        go_wp2_with fail
        refine ⟨⟨k + 1, by go_num, by omega, HAll, HX.out.ext _⟩, by simp [intOf]; omega⟩
    · obtain rfl : k = s.size := by omega
      have e := HA.out (fun j hj => hall j hj hj)
      subst e
      have hki : decide ((s.size : Int) < (s.size : Int)) = false := by simp
      go_wp2_with fail
      go_ret
      exact Ret.mk rfl HX.out
set_option maxHeartbeats 800000 in
theorem rDigits_c (s : ByteArray) (w : World) (h : s.size ≤ 20000) : Calls Tryz.prog 110 #[.string s] w (Ret w (.int .i64 (spanL digB s.data.toList : Nat))) := by
  have HF := Lib.hid rDigit_c
  have HS := Lib.hid (span_stop digB s)
  have HA := Lib.hid (span_all digB s)
  generalize spanL digB s.data.toList = N at *
  go_enter Tryz.func110, Tryz.ntmps110
  go_wp2_with fail
  go_loopw [3] (fun n wr => ∃ k : Nat, n = .int .i64 k ∧ k ≤ s.size ∧ Hid (∀ j, (hj : j < s.size) → j < k → digB s[j] = true) ∧ Ex w wr) (fun n _ => s.size - (intOf n).toNat)
  case atStart => exact ⟨0, rfl, by omega, (fun j _ hj => absurd hj (by omega)), Ex.refl _⟩
  case round =>
    obtain ⟨k, rfl, hk, hall, hx⟩ := hrel
    have HX := Lib.hid hx
    clear hx
    by_cases hlt : k < s.size
    · have hki : (k : Int) < (s.size : Int) := by omega
      have HF' := Lib.hid (HF.out s[k])
      cases hp : digB s[k]
      · have e := HS.out k hlt hall hp
        rw [hp] at HF'
        clear hp
        subst e
        go_wp2_with fail
        refine (HF'.out _).mono ?_
        rintro e w' ⟨rfl, z, rfl⟩
        go_wp2_with fail
        go_ret
        exact Ret.mk rfl (HX.out.ext _)
      · have HAll : Hid (∀ j, (hj : j < s.size) → j < k + 1 → digB s[j] = true) := fun j hj hjk => by
          by_cases h : j < k
          · exact hall j hj h
          · obtain rfl : j = k := by omega
            exact hp
        rw [hp] at HF'
        clear hp
        go_wp2_with fail
        refine (HF'.out _).mono ?_
        rintro e w' ⟨rfl, z, rfl⟩
        go_wp2_with fail
        refine ⟨⟨k + 1, by go_num, by omega, HAll, HX.out.ext _⟩, by simp [intOf]; omega⟩
    · obtain rfl : k = s.size := by omega
      have e := HA.out (fun j hj => hall j hj hj)
      subst e
      go_wp2_with fail
      go_ret
      exact Ret.mk rfl HX.out
/-- how many bytes of a name -/
def nameL (l : List UInt8) : Nat := match l with
  | [] => 0
  | c :: _ => if letB c then spanL partB l else 0
theorem let_part {c : UInt8} (h : letB c = true) : partB c = true := by unfold partB; rw [h]; rfl
theorem nameL_none (s : ByteArray) (h : s.size = 0) : nameL s.data.toList = 0 := by
  have : s.data.toList = [] := List.length_eq_zero_iff.1 (by rw [← size_data]; exact h)
  rw [this]; rfl
theorem nameL_pos (s : ByteArray) (h : 0 < s.size) : nameL s.data.toList = if letB s[0] then spanL partB s.data.toList else 0 := by
  have h0 := get_idx h
  cases hx : s.data.toList with
  | nil => rw [hx] at h0; simp at h0
  | cons c r =>
    rw [hx] at h0
    have e : s[0] = c := by simpa using h0.symm
    rw [e]; rfl
set_option maxHeartbeats 1600000 in
theorem rNames_c (s : ByteArray) (w : World) (h : s.size ≤ 20000) : Calls Tryz.prog 100 #[.string s] w (Ret w (.int .i64 (nameL s.data.toList : Nat))) := by
  have HF := Lib.hid rLetter_c
  have HG := Lib.hid rDigit_c
  by_cases h0 : s.size = 0
  · rw [nameL_none s h0]
    have b1 : ((s.size : Int) == 0) = true := by simp [h0]
    clear h0
    go_enter Tryz.func100, Tryz.ntmps100
    go_wp2_with fail
    go_ret
    exact Ret.mk rfl (Ex.refl _)
  · have h1 : 0 < s.size := by omega
    have b1 : ((s.size : Int) == 0) = false := beq_eq_false_iff_ne.2 (by omega)
    rw [nameL_pos s h1]
    have HF0 := Lib.hid (HF.out s[0])
    cases hl : letB s[0]
    · rw [hl] at HF0
      clear hl h0
      go_enter Tryz.func100, Tryz.ntmps100
      go_wp2_with fail
      refine (HF0.out _).mono ?_
      rintro e w' ⟨rfl, z, rfl⟩
      go_wp2_with fail
      go_ret
      exact Ret.mk (by simp) ((Ex.refl _).ext _)
    · rw [hl] at HF0
      have hp0 := let_part hl
      rw [if_pos rfl]
      have HS := Lib.hid (span_stop partB s)
      have HA := Lib.hid (span_all partB s)
      have H0 : Hid (∀ j, (hj : j < s.size) → j < 1 → partB s[j] = true) := fun j hj hjk => by
        obtain rfl : j = 0 := by omega
        exact hp0
      clear hl hp0 h0
      generalize spanL partB s.data.toList = N at *
      go_enter Tryz.func100, Tryz.ntmps100
      go_wp2_with fail
      refine (HF0.out _).mono ?_
      rintro e w' ⟨rfl, z, rfl⟩
      go_wp2_with fail
      go_loopw [3] (fun n wr => ∃ k : Nat, n = .int .i64 k ∧ 1 ≤ k ∧ k ≤ s.size ∧ Hid (∀ j, (hj : j < s.size) → j < k → partB s[j] = true) ∧ Ex w wr) (fun n _ => s.size - (intOf n).toNat)
      case atStart => exact ⟨1, rfl, by omega, by omega, H0, (Ex.refl _).ext _⟩
      case round =>
        obtain ⟨k, rfl, hk1, hk, hall, hx⟩ := hrel
        have HX := Lib.hid hx
        clear hx
        by_cases hlt : k < s.size
        · have hki : (k : Int) < (s.size : Int) := by omega
          have HF' := Lib.hid (HF.out s[k])
          have HG' := Lib.hid (HG.out s[k])
          have hb : ((s[k].toNat : Int) == 95) = decide (s[k].toNat = 95) := eq_nat _ 95
          have hpart : partB s[k] = ((letB s[k] || digB s[k]) || decide (s[k].toNat = 95)) := rfl
          have HPt := Lib.hid hpart
          have HStop := Lib.hid (HS.out k hlt hall)
          clear hpart
          have HAll : Hid (partB s[k] = true → ∀ j, (hj : j < s.size) → j < k + 1 → partB s[j] = true) := fun hp j hj hjk => by
            by_cases h : j < k
            · exact hall j hj h
            · obtain rfl : j = k := by omega
              exact hp
          generalize letB s[k] = q1 at *
          generalize digB s[k] = q2 at *
          generalize partB s[k] = q3 at *
          generalize decide (s[k].toNat = 95) = q4 at *
          cases q1 <;> cases q2 <;> cases q4
          all_goals
            have hq := HPt.out
            subst hq
          · have e := HStop.out rfl
            subst e
            go_wp2_with (first | (go_at_call 121; refine (HF'.out _).mono ?_; rintro e w' ⟨rfl, z1, rfl⟩) | (go_at_call 122; refine (HG'.out _).mono ?_; rintro e w' ⟨rfl, z2, rfl⟩))
            go_ret
            exact Ret.mk rfl ((HX.out.ext _).ext _)
          all_goals
            have HAll' := Lib.hid (HAll.out rfl)
            go_wp2_with (first | (go_at_call 121; refine (HF'.out _).mono ?_; rintro e w' ⟨rfl, z1, rfl⟩) | (go_at_call 122; refine (HG'.out _).mono ?_; rintro e w' ⟨rfl, z2, rfl⟩))
            refine ⟨⟨k + 1, by go_num, by omega, by omega, HAll'.out, by first | exact HX.out.ext _ | exact (HX.out.ext _).ext _⟩, by simp [intOf]; omega⟩
        · obtain rfl : k = s.size := by omega
          have e := HA.out (fun j hj => hall j hj hj)
          subst e
          go_wp2_with fail
          go_ret
          exact Ret.mk rfl HX.out
end Go.Proofs.YthjalkonlcjhnaaGreatDoor
