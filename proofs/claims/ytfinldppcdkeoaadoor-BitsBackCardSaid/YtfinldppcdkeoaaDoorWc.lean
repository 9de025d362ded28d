/-
  What still more of the small functions return: equality of lists and sets, comparability, membership, the guard.
  Conditions: words below 2^64, at most 20 words, where it is said.
-/
import Derived.Test.YtfinldppcdkeoaaDoorWb
namespace Go.Proofs.YtfinldppcdkeoaaDoor
open Go.RowKit Bm
theorem bne_int (x y : Int) : (x != y) = decide (x ≠ y) := by
  rw [Bool.eq_iff_iff, bne_iff_ne, decide_eq_true_iff]

set_option maxHeartbeats 800000 in
theorem eqi_loop (A B : Option Addr) (c d : Nat) (xs ys : List Int) (w : World) (hC : Cells w A (ints xs)) (hD : Cells w B (ints ys)) (hl : xs.length = ys.length) (hm : xs.length ≤ 9000000000000000000) :
    Calls Tryd.prog 22 #[.slice A xs.length c, .slice B ys.length d] w (Ret w (.bool (decide (xs = ys)))) := by
  have HA := Lib.hid (fun i (h : i < xs.length) => ints_at hC i h)
  have HB := Lib.hid (fun i (h : i < xs.length) => ints_at hD i (hl ▸ h))
  have HX := Lib.hid (fun h => list_ext_upto (d := 0) hl h)
  rw [← hl]
  have hne : ((xs.length : Int) != (xs.length : Int)) = false := by simp
  generalize hlm : xs.length = m at *
  clear hl hC hD hlm
  go_enter Tryd.func22, Tryd.ntmps22
  go_wp2
  go_loopw [13] (fun i wr => ∃ k : Nat, i = .int .i64 k ∧ k ≤ m ∧ Hid (∀ j, j < k → xs.getD j 0 = ys.getD j 0) ∧ Ex w wr)
    (fun i _ => m - (intOf i).toNat)
  case atStart => exact ⟨0, rfl, by omega, fun j _ => by omega, Ex.refl _⟩
  case round =>
    obtain ⟨k, rfl, hk, hk3, z, rfl⟩ := hrel
    by_cases hlt : k < m
    · obtain ⟨ad, rfl, ha1, ha2⟩ := HA.out k hlt
      obtain ⟨bd, rfl, hb1, hb2⟩ := HB.out k hlt
      have hki : (k : Int) < (m : Int) := by omega
      have hbn := bne_int (xs.getD k 0) (ys.getD k 0)
      by_cases hxy : xs.getD k 0 = ys.getD k 0
      · have HE := Lib.hid hxy
        rw [hxy] at ha2
        clear hbn hxy
        generalize ys.getD k 0 = x at ha2 hb2
        have hnx : ((x) != (x)) = false := by simp
        go_wp2
        refine wp_region_exu (by kernel_rfl) (by kernel_rfl) ?_
        repeat (go_big_quiet_step (fail))
        refine wpQuiet_end (fun y => ?_)
        go_wp2
        go_roundw
        case rel =>
          refine ⟨k + 1, by go_num, by omega, ?_, (Ex.refl _).ext _⟩
          intro j h1
          by_cases hj : j = k
          · rw [hj]; exact HE.out
          · exact hk3 j (by omega)
        case measure => simp [intOf]; omega
      · have HE := Lib.hid hxy
        rw [decide_eq_true hxy] at hbn
        clear hxy
        have hf : Hid (decide (xs = ys) = false) := by
          show decide (xs = ys) = false
          rw [decide_eq_false_iff_not]; intro e; exact HE.out (by rw [e])
        generalize xs.getD k 0 = x at ha2 hbn
        generalize ys.getD k 0 = y at hb2 hbn
        go_wp2
        refine wp_region_exu (by kernel_rfl) (by kernel_rfl) ?_
        repeat (go_big_quiet_step (fail))
        refine wpQuiet_end (fun y => ?_)
        go_wp2
        go_ret
        exact Ret.mk (by rw [hf.out]; rfl) ((Ex.refl _).ext _)
    · have hf : Hid (decide (xs = ys) = true) := by
        show decide (xs = ys) = true
        rw [decide_eq_true_iff]; exact HX.out fun j hj => hk3 j (by omega)
      go_wp2
      go_ret
      exact Ret.mk (by rw [hf.out]; rfl) ((Ex.refl _).ext _)
theorem eqi_c (A B : Option Addr) (c d : Nat) (xs ys : List Int) (w : World) (hC : Cells w A (ints xs)) (hD : Cells w B (ints ys)) (hm : xs.length ≤ 9000000000000000000) :
    Calls Tryd.prog 22 #[.slice A xs.length c, .slice B ys.length d] w (Ret w (.bool (decide (xs = ys)))) := by
  by_cases hl : xs.length = ys.length
  · exact eqi_loop A B c d xs ys w hC hD hl hm
  · have hf : Hid (decide (xs = ys) = false) := by
      show decide (xs = ys) = false
      rw [decide_eq_false_iff_not]; intro e; exact hl (by rw [e])
    have hne : ((xs.length : Int) != (ys.length : Int)) = true := by rw [bne_iff_ne]; omega
    generalize xs.length = m at *
    generalize ys.length = m' at *
    clear hl hC hD
    go_enter Tryd.func22, Tryd.ntmps22
    go_wp2
    go_ret
    exact Ret.mk (by rw [hf.out]; rfl) (Ex.refl _)

set_option maxHeartbeats 800000 in
theorem equ_loop (A B : Option Addr) (c d : Nat) (xs ys : List Nat) (w : World) (hC : Cells w A (u64s xs)) (hD : Cells w B (u64s ys)) (hl : xs.length = ys.length) (hm : xs.length ≤ 9000000000000000000) :
    Calls Tryd.prog 55 #[.slice A xs.length c, .slice B ys.length d] w (Ret w (.bool (decide (xs = ys)))) := by
  have HA := Lib.hid (fun i (h : i < xs.length) => u64s_at hC i h)
  have HB := Lib.hid (fun i (h : i < xs.length) => u64s_at hD i (hl ▸ h))
  have HX := Lib.hid (fun h => list_ext_upto (d := 0) hl h)
  rw [← hl]
  have hne : ((xs.length : Int) != (xs.length : Int)) = false := by simp
  generalize hlm : xs.length = m at *
  clear hl hC hD hlm
  go_enter Tryd.func55, Tryd.ntmps55
  go_wp2
  go_loopw [13] (fun i wr => ∃ k : Nat, i = .int .i64 k ∧ k ≤ m ∧ Hid (∀ j, j < k → xs.getD j 0 = ys.getD j 0) ∧ Ex w wr)
    (fun i _ => m - (intOf i).toNat)
  case atStart => exact ⟨0, rfl, by omega, fun j _ => by omega, Ex.refl _⟩
  case round =>
    obtain ⟨k, rfl, hk, hk3, z, rfl⟩ := hrel
    by_cases hlt : k < m
    · obtain ⟨ad, rfl, ha1, ha2⟩ := HA.out k hlt
      obtain ⟨bd, rfl, hb1, hb2⟩ := HB.out k hlt
      have hki : (k : Int) < (m : Int) := by omega
      have hbn := bne_nat (xs.getD k 0) (ys.getD k 0)
      by_cases hxy : xs.getD k 0 = ys.getD k 0
      · have HE := Lib.hid hxy
        rw [hxy] at ha2
        clear hbn hxy
        generalize ys.getD k 0 = x at ha2 hb2
        have hnx : (((x : Int)) != ((x : Int))) = false := by simp
        go_wp2
        refine wp_region_exu (by kernel_rfl) (by kernel_rfl) ?_
        repeat (go_big_quiet_step (fail))
        refine wpQuiet_end (fun y => ?_)
        go_wp2
        go_roundw
        case rel =>
          refine ⟨k + 1, by go_num, by omega, ?_, (Ex.refl _).ext _⟩
          intro j h1
          by_cases hj : j = k
          · rw [hj]; exact HE.out
          · exact hk3 j (by omega)
        case measure => simp [intOf]; omega
      · have HE := Lib.hid hxy
        rw [decide_eq_true hxy] at hbn
        clear hxy
        have hf : Hid (decide (xs = ys) = false) := by
          show decide (xs = ys) = false
          rw [decide_eq_false_iff_not]; intro e; exact HE.out (by rw [e])
        generalize xs.getD k 0 = x at ha2 hbn
        generalize ys.getD k 0 = y at hb2 hbn
        go_wp2
        refine wp_region_exu (by kernel_rfl) (by kernel_rfl) ?_
        repeat (go_big_quiet_step (fail))
        refine wpQuiet_end (fun y => ?_)
        go_wp2
        go_ret
        exact Ret.mk (by rw [hf.out]; rfl) ((Ex.refl _).ext _)
    · have hf : Hid (decide (xs = ys) = true) := by
        show decide (xs = ys) = true
        rw [decide_eq_true_iff]; exact HX.out fun j hj => hk3 j (by omega)
      go_wp2
      go_ret
      exact Ret.mk (by rw [hf.out]; rfl) ((Ex.refl _).ext _)
theorem equ_c (A B : Option Addr) (c d : Nat) (xs ys : List Nat) (w : World) (hC : Cells w A (u64s xs)) (hD : Cells w B (u64s ys)) (hm : xs.length ≤ 9000000000000000000) :
    Calls Tryd.prog 55 #[.slice A xs.length c, .slice B ys.length d] w (Ret w (.bool (decide (xs = ys)))) := by
  by_cases hl : xs.length = ys.length
  · exact equ_loop A B c d xs ys w hC hD hl hm
  · have hf : Hid (decide (xs = ys) = false) := by
      show decide (xs = ys) = false
      rw [decide_eq_false_iff_not]; intro e; exact hl (by rw [e])
    have hne : ((xs.length : Int) != (ys.length : Int)) = true := by rw [bne_iff_ne]; omega
    generalize xs.length = m at *
    generalize ys.length = m' at *
    clear hl hC hD
    go_enter Tryd.func55, Tryd.ntmps55
    go_wp2
    go_ret
    exact Ret.mk (by rw [hf.out]; rfl) (Ex.refl _)

set_option maxHeartbeats 400000 in
theorem same_c (n p : Int) (A B : Option Addr) (c d : Nat) (ws us : List Nat) (w : World) (hC : Cells w A (u64s ws)) (hD : Cells w B (u64s us)) (hm : ws.length ≤ 20) :
    Calls Tryd.prog 18 #[.agg #[.int .i64 n, .slice A ws.length c], .agg #[.int .i64 p, .slice B us.length d]] w (Ret w (.bool (decide (n = p) && decide (ws = us)))) := by
  by_cases hn : n = p
  · subst hn
    simp only [decide_true, Bool.true_and]
    by_cases hl : ws.length = us.length
    · exact same_loop n A B c d ws us w hC hD hl hm
    · have hf : Hid (decide (ws = us) = false) := by
        show decide (ws = us) = false
        rw [decide_eq_false_iff_not]; intro e; exact hl (by rw [e])
      have hnn : (n != n) = false := by simp
      have hne : ((ws.length : Int) != (us.length : Int)) = true := by rw [bne_iff_ne]; omega
      generalize ws.length = m at *
      generalize us.length = m' at *
      clear hl hC hD
      go_enter Tryd.func18, Tryd.ntmps18
      go_wp2
      go_ret
      exact Ret.mk (by rw [hf.out]; rfl) (((Ex.refl _).alloc _).alloc _)
  · have hnn : (n != p) = true := by rw [bne_iff_ne]; exact hn
    simp only [hn, decide_false, Bool.false_and]
    clear hn hC hD
    go_enter Tryd.func18, Tryd.ntmps18
    go_wp2
    go_ret
    exact Ret.mk rfl (((Ex.refl _).alloc _).alloc _)

set_option maxHeartbeats 400000 in
theorem comparable_c (n p : Int) (A B : Option Addr) (c d : Nat) (ws us : List Nat) (w : World) (hC : Cells w A (u64s ws)) (hD : Cells w B (u64s us)) (hw : Wd ws) (hu : Wd us) :
    Calls Tryd.prog 29 #[.agg #[.int .i64 n, .slice A ws.length c], .agg #[.int .i64 p, .slice B us.length d]] w (Ret w (.bool (validB n ws && (validB p us && decide (n = p))))) := by
  have H1 := Lib.hid (fun w' (hx : Ex w w') => rvalid_c n A c ws w' (hC.ex hx) hw)
  have H2 := Lib.hid (fun w' (hx : Ex w w') => rvalid_c p B d us w' (hD.ex hx) hu)
  clear hC hD hw hu
  generalize ws.length = m at *
  generalize us.length = m' at *
  have e1 : (n == p) = decide (n = p) := by rw [Bool.eq_iff_iff]; simp
  cases h1 : validB n ws
  · rw [h1] at H1; clear h1
    go_enter Tryd.func29, Tryd.ntmps29
    go_wp2_with (go_at_call 20; refine (H1.out _ (by repeat (first | exact Ex.refl _ | apply Ex.ext | apply Ex.alloc))).mono ?_; rintro e w' ⟨rfl, y, rfl⟩)
    go_ret
    exact Ret.mk (by simp) ((((Ex.refl _).alloc _).alloc _).ext _)
  · rw [h1] at H1; clear h1
    cases h2 : validB p us
    · rw [h2] at H2; clear h2
      go_enter Tryd.func29, Tryd.ntmps29
      go_wp2_with fail
      refine (H1.out _ (by repeat (first | exact Ex.refl _ | apply Ex.ext | apply Ex.alloc))).mono ?_
      rintro e w' ⟨rfl, y, rfl⟩
      go_wp2_with fail
      refine (H2.out _ (by repeat (first | exact Ex.refl _ | apply Ex.ext | apply Ex.alloc))).mono ?_
      rintro e w' ⟨rfl, y2, rfl⟩
      go_wp2
      go_ret
      exact Ret.mk (by simp) (((((Ex.refl _).alloc _).alloc _).ext _).ext _)
    · rw [h2] at H2; clear h2
      go_enter Tryd.func29, Tryd.ntmps29
      go_wp2_with fail
      refine (H1.out _ (by repeat (first | exact Ex.refl _ | apply Ex.ext | apply Ex.alloc))).mono ?_
      rintro e w' ⟨rfl, y, rfl⟩
      go_wp2_with fail
      refine Calls.up (W := (w.alloc (.cells #[.int .i64 n, .slice A m c] 24)).alloc (.cells #[.int .i64 p, .slice B m' d] 24)) ⟨_, rfl⟩ (H2.out _ (by repeat (first | exact Ex.refl _ | apply Ex.ext | apply Ex.alloc))) |>.mono ?_
      rintro e w' ⟨rfl, y2, rfl⟩
      go_wp2
      go_ret
      exact Ret.mk (by simp) ((((Ex.refl _).alloc _).alloc _).ext _)

set_option maxHeartbeats 400000 in
theorem matching_c (n p : Int) (A B : Option Addr) (c d : Nat) (ws us : List Nat) (w : World) (hC : Cells w A (u64s ws)) (hD : Cells w B (u64s us)) (hw : Wd ws) (hu : Wd us) :
    Calls Tryd.prog 54 #[.agg #[.int .i64 n, .slice A ws.length c], .agg #[.int .i64 p, .slice B us.length d]] w (Ret w (.bool (validB n ws && (validB p us && decide (n = p))))) := by
  have H1 := Lib.hid (fun w' (hx : Ex w w') => valid_c n A c ws w' (hC.ex hx) hw)
  have H2 := Lib.hid (fun w' (hx : Ex w w') => valid_c p B d us w' (hD.ex hx) hu)
  clear hC hD hw hu
  generalize ws.length = m at *
  generalize us.length = m' at *
  have e1 : (n == p) = decide (n = p) := by rw [Bool.eq_iff_iff]; simp
  cases h1 : validB n ws
  · rw [h1] at H1; clear h1
    go_enter Tryd.func54, Tryd.ntmps54
    go_wp2_with (go_at_call 21; refine (H1.out _ (by repeat (first | exact Ex.refl _ | apply Ex.ext | apply Ex.alloc))).mono ?_; rintro e w' ⟨rfl, y, rfl⟩)
    go_ret
    exact Ret.mk (by simp) ((((Ex.refl _).alloc _).alloc _).ext _)
  · rw [h1] at H1; clear h1
    cases h2 : validB p us
    · rw [h2] at H2; clear h2
      go_enter Tryd.func54, Tryd.ntmps54
      go_wp2_with fail
      refine (H1.out _ (by repeat (first | exact Ex.refl _ | apply Ex.ext | apply Ex.alloc))).mono ?_
      rintro e w' ⟨rfl, y, rfl⟩
      go_wp2_with fail
      refine (H2.out _ (by repeat (first | exact Ex.refl _ | apply Ex.ext | apply Ex.alloc))).mono ?_
      rintro e w' ⟨rfl, y2, rfl⟩
      go_wp2
      go_ret
      exact Ret.mk (by simp) (((((Ex.refl _).alloc _).alloc _).ext _).ext _)
    · rw [h2] at H2; clear h2
      go_enter Tryd.func54, Tryd.ntmps54
      go_wp2_with fail
      refine (H1.out _ (by repeat (first | exact Ex.refl _ | apply Ex.ext | apply Ex.alloc))).mono ?_
      rintro e w' ⟨rfl, y, rfl⟩
      go_wp2_with fail
      refine Calls.up (W := (w.alloc (.cells #[.int .i64 n, .slice A m c] 24)).alloc (.cells #[.int .i64 p, .slice B m' d] 24)) ⟨_, rfl⟩ (H2.out _ (by repeat (first | exact Ex.refl _ | apply Ex.ext | apply Ex.alloc))) |>.mono ?_
      rintro e w' ⟨rfl, y2, rfl⟩
      go_wp2
      go_ret
      exact Ret.mk (by simp) ((((Ex.refl _).alloc _).alloc _).ext _)

theorem none_c (n : Int) (A : Option Addr) (m c : Nat) (w : World) :
    Calls Tryd.prog 17 #[.agg #[.int .i64 n, .slice A m c]] w (Ret w (.bool (decide (n = 0) && decide (m = 0)))) := by
  have e1 : (n == 0) = decide (n = 0) := by rw [Bool.eq_iff_iff]; simp
  have e2 : (((m : Nat) : Int) == 0) = decide (m = 0) := by rw [Bool.eq_iff_iff, beq_iff_eq, decide_eq_true_iff]; omega
  by_cases hn : n = 0
  · subst hn
    clear e1
    go_enter Tryd.func17, Tryd.ntmps17
    go_wp2
    go_ret
    exact Ret.mk (by simp) ((Ex.refl _).alloc _)
  · rw [decide_eq_false hn] at e1
    go_enter Tryd.func17, Tryd.ntmps17
    go_wp2
    go_ret
    exact Ret.mk (by simp [hn]) ((Ex.refl _).alloc _)
end Go.Proofs.YtfinldppcdkeoaaDoor
