/-
  The first word, by the reference.
  Conditions: texts of at most 16384 bytes.
-/
import Derived.Test.YthjalkonlcjhnaaGreatDoorPm
namespace Go.Proofs.YthjalkonlcjhnaaGreatDoor
open Go.RowKit
def firV (k : Nat) (T : ByteArray) (e : Nat) : Value := .tuple #[.int .i64 (k : Nat), .string T, .int .i64 (e : Nat)]
theorem dig_let {c : UInt8} (h : digB c = true) : letB c = false := by
  rw [digB_iff] at h
  unfold letB
  rw [decide_eq_false (show ¬ 65 ≤ c.toNat by omega), decide_eq_false (show ¬ 97 ≤ c.toNat by omega)]; rfl
theorem span_zero (p : UInt8 → Bool) (s : ByteArray) (h : 0 < s.size) (hp : p s[0] = false) : spanL p s.data.toList = 0 :=
  span_stop p s 0 h (fun j _ hj => by omega) hp
set_option maxHeartbeats 800000 in
theorem rFirst_num (D : ByteArray) (w : World) (hDs : D.size ≤ 16384) (h0 : 0 < D.size) (hd : digB D[0] = true) :
    Calls Tryz.prog 80 #[.string D] w (Ret w (firV 1 (D.extract 0 (spanL digB D.data.toList)) (numE (D.data.toList.take (spanL digB D.data.toList))))) := by
  have HSp := Lib.hid (fun w => rDigits_c D w (by omega))
  have hN := span_le digB D.data.toList
  have hN0 := span_pos D digB h0 hd
  have hall := take_all digB D.data.toList
  rw [← size_data] at hN
  generalize spanL digB D.data.toList = N at *
  obtain ⟨T, hT⟩ : ∃ T, D.extract 0 N = T := ⟨_, rfl⟩
  have hTl : T.data.toList = D.data.toList.take N := by rw [← hT, extract_take]
  have hTs : T.size = N := by rw [size_data, hTl, List.length_take, ← size_data]; omega
  rw [← hTl] at hall
  have HNu := Lib.hid (fun w => rNumber_c T w (by omega) (by omega) hall)
  rw [← hTl, hT]
  clear hall hTl
  generalize numE T.data.toList = E at *
  unfold firV
  have n1 : (0 : Int) < (N : Int) := by omega
  have n2 : (N : Int) ≤ (D.size : Int) := by omega
  go_enter Tryz.func80, Tryz.ntmps80
  go_wp2_with fail
  refine (HSp.out _).mono ?_
  rintro e w' ⟨rfl, z, rfl⟩
  go_wp2_with fail
  refine wp_region_exu (by kernel_rfl) (by kernel_rfl) ?_
  repeat (go_big_quiet_step ((go_at_call 111; exact quiet_ext (HNu.out _))))
  refine wpQuiet_end (fun z => ?_)
  go_wp2_with fail
  go_ret3
  exact ⟨rfl, ((Ex.refl _).ext _)⟩
set_option maxHeartbeats 800000 in
theorem rFirst_name (D : ByteArray) (w : World) (hDs : D.size ≤ 16384) (h0 : 0 < D.size) (hd : digB D[0] = false) (hl : letB D[0] = true) :
    Calls Tryz.prog 80 #[.string D] w (Ret w (firV 2 (D.extract 0 (spanL partB D.data.toList)) (if spanL partB D.data.toList ≤ 16 then 0 else 13))) := by
  have HSp := Lib.hid (fun w => rDigits_c D w (by omega))
  rw [span_zero digB D h0 hd] at HSp
  have HNa := Lib.hid (fun w => rNames_c D w (by omega))
  rw [nameL_pos D h0, if_pos hl] at HNa
  have hN := span_le partB D.data.toList
  have hN0 := span_pos D partB h0 (let_part hl)
  rw [← size_data] at hN
  generalize spanL partB D.data.toList = N at *
  obtain ⟨T, hT⟩ : ∃ T, D.extract 0 N = T := ⟨_, rfl⟩
  rw [hT]
  unfold firV
  have n1 : (0 : Int) < (N : Int) := by omega
  have n2 : (N : Int) ≤ (D.size : Int) := by omega
  by_cases h16 : N ≤ 16
  · rw [if_pos h16]
    have n3 : decide ((16 : Int) < (N : Int)) = false := decide_eq_false (by omega)
    clear h16
    go_enter Tryz.func80, Tryz.ntmps80
    go_wp2_with fail
    refine (HSp.out _).mono ?_
    rintro e w' ⟨rfl, z, rfl⟩
    go_wp2_with fail
    refine (HNa.out _).mono ?_
    rintro e w' ⟨rfl, z2, rfl⟩
    go_wp2_with fail
    refine wp_region_ext (by kernel_rfl) (by kernel_rfl) ?_
    repeat (go_big_quiet_step (fail))
    refine wpQuiet_end (fun z => ?_)
    go_wp2_with fail
    go_ret3
    exact ⟨rfl, ((((Ex.refl _).ext _).ext _).ext _)⟩
  · rw [if_neg h16]
    have n3 : decide ((16 : Int) < (N : Int)) = true := decide_eq_true (by omega)
    clear h16
    go_enter Tryz.func80, Tryz.ntmps80
    go_wp2_with fail
    refine (HSp.out _).mono ?_
    rintro e w' ⟨rfl, z, rfl⟩
    go_wp2_with fail
    refine (HNa.out _).mono ?_
    rintro e w' ⟨rfl, z2, rfl⟩
    go_wp2_with fail
    refine wp_region_ext (by kernel_rfl) (by kernel_rfl) ?_
    repeat (go_big_quiet_step (fail))
    refine wpQuiet_end (fun z => ?_)
    go_wp2_with fail
    go_ret3
    exact ⟨rfl, ((((Ex.refl _).ext _).ext _).ext _)⟩
set_option maxHeartbeats 800000 in
theorem rFirst_sign (D t : ByteArray) (w : World) (hDs : D.size ≤ 16384) (h0 : 0 < D.size) (hd : digB D[0] = false) (hl : letB D[0] = false) (hs : signF D = some t) :
    Calls Tryz.prog 80 #[.string D] w (Ret w (firV 3 t 0)) := by
  have HSp := Lib.hid (fun w => rDigits_c D w (by omega))
  rw [span_zero digB D h0 hd] at HSp
  have HNa := Lib.hid (fun w => rNames_c D w (by omega))
  rw [nameL_pos D h0, if_neg (by rw [hl]; simp)] at HNa
  have HSi := Lib.hid (fun w => rSign_c D w)
  rw [hs, Option.getD_some] at HSi
  have ht := (sign_small t (List.mem_of_find?_eq_some hs)).2
  have f1 : t.toList.isEmpty = false := by rw [nonempty_iff]; exact decide_eq_false (by omega)
  unfold firV
  clear hs
  go_enter Tryz.func80, Tryz.ntmps80
  go_wp2_with fail
  refine (HSp.out _).mono ?_
  rintro e w' ⟨rfl, z, rfl⟩
  go_wp2_with fail
  refine (HNa.out _).mono ?_
  rintro e w' ⟨rfl, z2, rfl⟩
  go_wp2_with fail
  refine (HSi.out _).mono ?_
  rintro e w' ⟨rfl, z3, rfl⟩
  go_wp2_with fail
  go_ret3
  exact ⟨rfl, ((((Ex.refl _).ext _).ext _).ext _)⟩
set_option maxHeartbeats 800000 in
theorem rFirst_bad (D : ByteArray) (w : World) (hDs : D.size ≤ 16384) (h0 : 0 < D.size) (hd : digB D[0] = false) (hl : letB D[0] = false) (hs : signF D = none) :
    Calls Tryz.prog 80 #[.string D] w (Ret w (firV 0 ⟨#[]⟩ 3)) := by
  have HSp := Lib.hid (fun w => rDigits_c D w (by omega))
  rw [span_zero digB D h0 hd] at HSp
  have HNa := Lib.hid (fun w => rNames_c D w (by omega))
  rw [nameL_pos D h0, if_neg (by rw [hl]; simp)] at HNa
  have HSi := Lib.hid (fun w => rSign_c D w)
  rw [hs, Option.getD_none] at HSi
  unfold firV
  clear hs
  go_enter Tryz.func80, Tryz.ntmps80
  go_wp2_with fail
  refine (HSp.out _).mono ?_
  rintro e w' ⟨rfl, z, rfl⟩
  go_wp2_with fail
  refine (HNa.out _).mono ?_
  rintro e w' ⟨rfl, z2, rfl⟩
  go_wp2_with fail
  refine (HSi.out _).mono ?_
  rintro e w' ⟨rfl, z3, rfl⟩
  go_wp2_with fail
  go_ret3
  exact ⟨rfl, ((((Ex.refl _).ext _).ext _).ext _)⟩
theorem data_cons {D : ByteArray} (h : 0 < D.size) : ∃ r, D.data.toList = D[0] :: r := by
  have hg := get_idx h
  cases hx : D.data.toList with
  | nil => rw [hx] at hg; simp at hg
  | cons c r =>
    rw [hx] at hg
    have hc : c = D[0] := by simpa using hg
    exact ⟨r, by rw [hc]⟩
theorem rFirst_c (D : ByteArray) (hDs : D.size ≤ 16384) (h0 : 0 < D.size) :
    ∃ k', ((firstL D.data.toList).2.2 = 0 → k' = (firstL D.data.toList).1) ∧ ∀ w : World, Calls Tryz.prog 80 #[.string D] w (Ret w (firV k' ⟨(D.data.toList.take (firstL D.data.toList).2.1).toArray⟩ (firstL D.data.toList).2.2)) := by
  have he : ∀ n, D.extract 0 n = ⟨(D.data.toList.take n).toArray⟩ := fun n => of_data (extract_take D n)
  obtain ⟨r, hr⟩ := data_cons h0
  have hh : D.data.toList.head? = some D[0] := by rw [hr]; rfl
  have hD2 : (⟨D.data.toList.toArray⟩ : ByteArray) = D := (of_data rfl).symm
  cases hd : digB D[0]
  · cases hl : letB D[0]
    · rw [first_sgn hh hd hl, hD2]
      cases hs : signF D with
      | none =>
        refine ⟨0, (fun h => by cases h), fun w => ?_⟩
        exact rFirst_bad D w hDs h0 hd hl hs
      | some t =>
        refine ⟨3, fun _ => rfl, fun w => ?_⟩
        have := rFirst_sign D t w hDs h0 hd hl hs
        dsimp only
        rw [← sign_take hs]
        exact this
    · rw [first_let hh hd hl]
      refine ⟨2, fun _ => rfl, fun w => ?_⟩
      dsimp only
      rw [← he]
      exact rFirst_name D w hDs h0 hd hl
  · rw [first_dig hh hd]
    refine ⟨1, fun _ => rfl, fun w => ?_⟩
    dsimp only
    rw [← he]
    exact rFirst_num D w hDs h0 hd
end Go.Proofs.YthjalkonlcjhnaaGreatDoor
