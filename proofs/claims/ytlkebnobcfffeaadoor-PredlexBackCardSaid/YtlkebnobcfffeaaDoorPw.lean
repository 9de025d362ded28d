/-
  Words joined.
  Conditions: few and short words; the world's tables are as laid (Env).
-/
import Derived.Test.YtlkebnobcfffeaaDoorPv
namespace Go.Proofs.YtlkebnobcfffeaaDoor
open Go.RowKit
set_option maxRecDepth 20000 in
set_option maxHeartbeats 1600000 in
theorem right_num_c (T : ByteArray) (pa pb : Int) (w : World) (hE : Env w) (ht : T.size ≤ 16384) :
    Calls Tryd.prog 40 #[.agg #[.int .i64 1, .string T, .int .i64 pa, .int .i64 pb]] w (Ret w (.bool (rightB ⟨1, T, pa, pb⟩))) := by
  rw [right_num _ rfl]
  dsimp only
  by_cases h0 : 0 < T.size
  · have f1 : T.toList.isEmpty = false := by rw [nonempty_iff]; exact decide_eq_false (by omega)
    have HSp := Lib.hid (fun w => span_digit T w (by omega))
    rw [decide_eq_true h0]
    by_cases hs : spanL digB T.data.toList = T.size
    · rw [decide_eq_true hs]
      rw [hs] at HSp
      have hall := take_all digB T.data.toList
      rw [hs, size_data, List.take_length] at hall
      have HNu := Lib.hid (fun w' (hx : Ex w w') => number_c T w' (hE.ex hx) (by omega) h0 hall)
      clear hall hs hE
      obtain ⟨E, hEq⟩ : ∃ E, numE T.data.toList = E := ⟨_, rfl⟩
      rw [hEq] at HNu ⊢
      clear hEq
      by_cases he : E = 0
      · subst he
        go_enter Tryd.func40, Tryd.ntmps40
        go_wp2_with fail
        refine wp_region_ext (by kernel_rfl) (by kernel_rfl) ?_
        repeat (go_big_quiet_step ((first | (go_at_call 25; exact quiet_ext (HSp.out _)) | (go_at_call 43; exact quiet_ext (HNu.out _ (((Ex.refl _).alloc _).ext _))))))
        refine wpQuiet_end (fun z => ?_)
        go_wp2_with fail
        go_ret
        exact Ret.mk rfl (((Ex.refl _).alloc _).ext _)
      · rw [decide_eq_false he]
        have be : ((E : Int) == 0) = false := beq_eq_false_iff_ne.2 (by omega)
        clear he
        go_enter Tryd.func40, Tryd.ntmps40
        go_wp2_with fail
        refine wp_region_ext (by kernel_rfl) (by kernel_rfl) ?_
        repeat (go_big_quiet_step ((first | (go_at_call 25; exact quiet_ext (HSp.out _)) | (go_at_call 43; exact quiet_ext (HNu.out _ (((Ex.refl _).alloc _).ext _))))))
        refine wpQuiet_end (fun z => ?_)
        go_wp2_with fail
        go_ret
        exact Ret.mk rfl (((Ex.refl _).alloc _).ext _)
    · rw [decide_eq_false hs]
      generalize spanL digB T.data.toList = N at *
      have b1 : ((N : Int) == (T.size : Int)) = false := beq_eq_false_iff_ne.2 (by omega)
      have b2 : (N == T.size) = false := beq_eq_false_iff_ne.2 (by omega)
      clear hs
      go_enter Tryd.func40, Tryd.ntmps40
      go_wp2_with fail
      refine wp_region_ext (by kernel_rfl) (by kernel_rfl) ?_
      repeat (go_big_quiet_step ((go_at_call 25; exact quiet_ext (HSp.out _))))
      refine wpQuiet_end (fun z => ?_)
      go_wp2_with fail
      go_ret
      exact Ret.mk rfl (((Ex.refl _).alloc _).ext _)
  · have f1 : T.toList.isEmpty = true := by rw [nonempty_iff]; exact decide_eq_true (by omega)
    rw [decide_eq_false h0]
    go_enter Tryd.func40, Tryd.ntmps40
    go_wp2_with fail
    refine wp_region_ext (by kernel_rfl) (by kernel_rfl) ?_
    repeat (go_big_quiet_step (fail))
    refine wpQuiet_end (fun z => ?_)
    go_wp2_with fail
    go_ret
    exact Ret.mk rfl (((Ex.refl _).alloc _).ext _)
set_option maxRecDepth 20000 in
set_option maxHeartbeats 1600000 in
theorem right_name_c (T : ByteArray) (pa pb : Int) (w : World) (ht : T.size ≤ 16384) :
    Calls Tryd.prog 40 #[.agg #[.int .i64 2, .string T, .int .i64 pa, .int .i64 pb]] w (Ret w (.bool (rightB ⟨2, T, pa, pb⟩))) := by
  rw [right_name _ rfl]
  dsimp only
  have H := Lib.hid (fun w => isName_c T w (by omega))
  generalize nmB T.data.toList = q at *
  go_enter Tryd.func40, Tryd.ntmps40
  go_wp2_with fail
  refine (H.out _).mono ?_
  rintro e w' ⟨rfl, z, rfl⟩
  go_wp2_with fail
  go_ret
  exact Ret.mk rfl (((Ex.refl _).alloc _).ext _)
set_option maxRecDepth 20000 in
set_option maxHeartbeats 1600000 in
theorem right_sign_c (T : ByteArray) (pa pb : Int) (w : World) :
    Calls Tryd.prog 40 #[.agg #[.int .i64 3, .string T, .int .i64 pa, .int .i64 pb]] w (Ret w (.bool (rightB ⟨3, T, pa, pb⟩))) := by
  rw [right_sign _ rfl]
  dsimp only
  have H := Lib.hid (fun w => sign_c T w)
  unfold SignR at H
  cases hs : signF T with
  | none =>
    rw [hs] at H
    simp only [Option.getD_none, Option.isSome_none] at H
    rw [decide_eq_false (by simp)]
    clear hs
    go_enter Tryd.func40, Tryd.ntmps40
    go_wp2_with fail
    refine (H.out _).mono ?_
    rintro e w' ⟨rfl, z, rfl⟩
    go_wp2_with fail
    go_ret
    exact Ret.mk rfl (((Ex.refl _).alloc _).ext _)
  | some t =>
    rw [hs] at H
    simp only [Option.getD_some, Option.isSome_some] at H
    clear hs
    by_cases he : t = T
    · subst he
      rw [decide_eq_true rfl]
      go_enter Tryd.func40, Tryd.ntmps40
      go_wp2_with fail
      refine (H.out _).mono ?_
      rintro e w' ⟨rfl, z, rfl⟩
      go_wp2_with fail
      go_ret
      exact Ret.mk (by first | rfl | simp) (((Ex.refl _).alloc _).ext _)
    · rw [decide_eq_false (by simpa using he)]
      have b1 : (t.toList == T.toList) = false := by
        cases h : (t.toList == T.toList) with
        | false => rfl
        | true => exact absurd (bytes_eq h) he
      clear he
      go_enter Tryd.func40, Tryd.ntmps40
      go_wp2_with fail
      refine (H.out _).mono ?_
      rintro e w' ⟨rfl, z, rfl⟩
      go_wp2_with fail
      go_ret
      exact Ret.mk rfl (((Ex.refl _).alloc _).ext _)
set_option maxRecDepth 20000 in
set_option maxHeartbeats 1600000 in
theorem right_c (x : Gw) (w : World) (hE : Env w) (ht : x.text.size ≤ 16384) : Calls Tryd.prog 40 #[gwV x] w (Ret w (.bool (rightB x))) := by
  obtain ⟨k, T, pa, pb⟩ := x
  unfold gwV
  dsimp only at ht ⊢
  by_cases h1 : k = 1
  · subst h1; exact right_num_c T pa pb w hE ht
  by_cases h2 : k = 2
  · subst h2; exact right_name_c T pa pb w ht
  by_cases h3 : k = 3
  · subst h3; exact right_sign_c T pa pb w
  rw [right_other _ h1 h2 h3]
  have b1 : (k == 1) = false := beq_eq_false_iff_ne.2 h1
  have b2 : (k == 2) = false := beq_eq_false_iff_ne.2 h2
  have b3 : (k == 3) = false := beq_eq_false_iff_ne.2 h3
  clear h1 h2 h3 hE
  go_enter Tryd.func40, Tryd.ntmps40
  go_wp2_with fail
  go_ret
  exact Ret.mk rfl ((Ex.refl _).alloc _)
end Go.Proofs.YtlkebnobcfffeaaDoor
