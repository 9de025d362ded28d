/-
  What more of the small functions over sets return: the program's validity, equality, comparability, membership.
  Conditions: words below 2^64, at most 20 words, where it is said.
-/
import Derived.Test.YtfinldppcdkeoaaDoorWa
namespace Go.Proofs.YtfinldppcdkeoaaDoor
open Go.RowKit Bm
set_option maxHeartbeats 400000 in
theorem valid_neg (n : Int) (A : Option Addr) (m c : Nat) (w : World) (h : n < 0) :
    Calls Tryd.prog 21 #[.agg #[.int .i64 n, .slice A m c]] w (Ret w (.bool false)) := by
  go_enter Tryd.func21, Tryd.ntmps21
  go_wp2
  refine wp_region_ext (by kernel_rfl) (by kernel_rfl) ?_
  repeat (go_big_quiet_step (fail))
  refine wpQuiet_end (fun z => ?_)
  go_wp2
  go_ret
  exact Ret.mk rfl (((Ex.refl _).alloc _).ext _)
set_option maxHeartbeats 400000 in
theorem valid_big (n : Int) (A : Option Addr) (m c : Nat) (w : World) (h : 512 < n) :
    Calls Tryd.prog 21 #[.agg #[.int .i64 n, .slice A m c]] w (Ret w (.bool false)) := by
  have h0 : decide (n < 0) = false := by simp; omega
  go_enter Tryd.func21, Tryd.ntmps21
  go_wp2
  refine wp_region_ext (by kernel_rfl) (by kernel_rfl) ?_
  repeat (go_big_quiet_step (fail))
  refine wpQuiet_end (fun z => ?_)
  go_wp2
  go_ret
  exact Ret.mk rfl (((Ex.refl _).alloc _).ext _)
set_option maxHeartbeats 400000 in
theorem valid_len (n : Int) (A : Option Addr) (m c : Nat) (w : World) (h : 0 ≤ n) (h1 : n ≤ 512) (hm : (m : Int) ≠ (n + 63) / 64) :
    Calls Tryd.prog 21 #[.agg #[.int .i64 n, .slice A m c]] w (Ret w (.bool false)) := by
  have g0 : decide (n < 0) = false := by simp; omega
  have g1 : decide (512 < n) = false := by simp; omega
  have hd : ((m : Int) != (n + 63) / 64) = true := by simpa using hm
  go_enter Tryd.func21, Tryd.ntmps21
  go_wp2
  refine wp_region_ext (by kernel_rfl) (by kernel_rfl) ?_
  repeat (go_big_quiet_step ((go_at_call 48; exact quiet_ext (words_c _ _ h h1))))
  refine wpQuiet_end (fun z => ?_)
  go_wp2
  go_ret
  exact Ret.mk rfl (((Ex.refl _).alloc _).ext _)
set_option maxHeartbeats 400000 in
theorem valid_zero (n : Int) (A : Option Addr) (m c : Nat) (w : World) (h : 0 ≤ n) (h1 : n ≤ 512) (hm : (m : Int) = (n + 63) / 64) (hr : n % 64 = 0) :
    Calls Tryd.prog 21 #[.agg #[.int .i64 n, .slice A m c]] w (Ret w (.bool true)) := by
  have g0 : decide (n < 0) = false := by simp; omega
  have g1 : decide (512 < n) = false := by simp; omega
  have hd : ((m : Int) != (n + 63) / 64) = false := by simpa using hm
  clear hm
  have hq : ((n % 64) == 0) = true := by simpa using hr
  clear hr
  go_enter Tryd.func21, Tryd.ntmps21
  go_wp2
  refine wp_region_ext (by kernel_rfl) (by kernel_rfl) ?_
  repeat (go_big_quiet_step ((go_at_call 48; exact quiet_ext (words_c _ _ h h1))))
  refine wpQuiet_end (fun z => ?_)
  go_wp2
  go_ret
  exact Ret.mk (by simp) (((Ex.refl _).alloc _).ext _)
set_option maxHeartbeats 400000 in
theorem valid_rest (n : Int) (A : Option Addr) (c : Nat) (ws : List Nat) (w : World) (hC : Cells w A (u64s ws)) (h : 0 ≤ n) (h1 : n ≤ 512) (hm : (ws.length : Int) = (n + 63) / 64) (hr : n % 64 ≠ 0) :
    Calls Tryd.prog 21 #[.agg #[.int .i64 n, .slice A ws.length c]] w (Ret w (.bool (decide (ws.getD (ws.length - 1) 0 / 2 ^ (n % 64).toNat = 0)))) := by
  have g0 : decide (n < 0) = false := by simp; omega
  have g1 : decide (512 < n) = false := by simp; omega
  have hd : ((ws.length : Int) != (n + 63) / 64) = false := by simpa using hm
  have hpos : 0 < ws.length := by omega
  have hle : ws.length ≤ 8 := by omega
  have hq : ((n % 64) == 0) = false := by simpa using hr
  obtain ⟨ad, rfl, hb, hc⟩ := u64s_at hC (ws.length - 1) (by omega)
  generalize ws.getD (ws.length - 1) 0 = x at *
  generalize hl : ws.length = m at *
  clear hC hm hl hr
  go_enter Tryd.func21, Tryd.ntmps21
  go_wp2
  refine wp_region_ext (by kernel_rfl) (by kernel_rfl) ?_
  repeat (go_big_quiet_step ((go_at_call 48; exact quiet_ext (words_c _ _ h h1))))
  refine wpQuiet_end (fun z => ?_)
  go_wp2
  go_ret
  refine Ret.mk ?_ (((Ex.refl _).alloc _).ext _)
  have e : ((x : Int) / 2 ^ (n % 64).toNat) = ((x / 2 ^ (n % 64).toNat : Nat) : Int) := by simp
  show Value.bool ((x : Int) / 2 ^ (n % 64).toNat == 0) = _
  rw [e]
  congr 1
  generalize x / 2 ^ (n % 64).toNat = q
  rw [Bool.eq_iff_iff, beq_iff_eq, decide_eq_true_iff]
  omega
theorem valid_c (n : Int) (A : Option Addr) (c : Nat) (ws : List Nat) (w : World) (hC : Cells w A (u64s ws)) (hw : Wd ws) :
    Calls Tryd.prog 21 #[.agg #[.int .i64 n, .slice A ws.length c]] w (Ret w (.bool (validB n ws))) := by
  by_cases h0 : n < 0
  · rw [validB_neg (.inl h0)]; exact valid_neg _ _ _ _ _ h0
  by_cases h1 : 512 < n
  · rw [validB_neg (.inr h1)]; exact valid_big _ _ _ _ _ h1
  by_cases h2 : (ws.length : Int) = (n + 63) / 64
  · obtain ⟨k, rfl⟩ : ∃ k : Nat, n = k := ⟨n.toNat, by omega⟩
    rw [validB_clean (by omega) h2, ← last_clean hw (by omega)]
    by_cases h3 : k % 64 = 0
    · simp only [h3, decide_true, Bool.true_or]
      exact valid_zero _ _ _ _ _ (by omega) (by omega) h2 (by omega)
    · simp only [h3, decide_false, Bool.false_or]
      have h := valid_rest (k : Int) A c ws w hC (by omega) (by omega) h2 (by omega)
      rwa [show ((k : Int) % 64).toNat = k % 64 by omega] at h
  · rw [validB_len h2]; exact valid_len _ _ _ _ _ (by omega) (by omega) h2

theorem list_ext_upto {α : Type} {xs ys : List α} {d : α} (hl : xs.length = ys.length) (h : ∀ j, j < xs.length → xs.getD j d = ys.getD j d) : xs = ys := by
  apply List.ext_getElem hl
  intro i h1 h2
  have := h i h1
  rwa [List.getD_eq_getElem?_getD, List.getD_eq_getElem?_getD, List.getElem?_eq_getElem h1, List.getElem?_eq_getElem h2] at this
theorem bne_nat (x y : Nat) : (((x : Int)) != (y : Int)) = decide (x ≠ y) := by
  rw [Bool.eq_iff_iff, bne_iff_ne, decide_eq_true_iff]; omega
set_option maxHeartbeats 800000 in
theorem same_loop (n : Int) (A B : Option Addr) (c d : Nat) (ws us : List Nat) (w : World) (hC : Cells w A (u64s ws)) (hD : Cells w B (u64s us)) (hl : ws.length = us.length) (hm : ws.length ≤ 20) :
    Calls Tryd.prog 18 #[.agg #[.int .i64 n, .slice A ws.length c], .agg #[.int .i64 n, .slice B us.length d]] w (Ret w (.bool (decide (ws = us)))) := by
  have HA := Lib.hid (fun i (h : i < ws.length) => u64s_at hC i h)
  have HB := Lib.hid (fun i (h : i < ws.length) => u64s_at hD i (hl ▸ h))
  have HX := Lib.hid (fun h => list_ext_upto (d := 0) hl h)
  rw [← hl]
  have hne : ((ws.length : Int) != (ws.length : Int)) = false := by simp
  have hnn : (n != n) = false := by simp
  have hlen : Hid (ws.length = ws.length) := rfl
  generalize hlm : ws.length = m at *
  clear hl hC hD hlm
  go_enter Tryd.func18, Tryd.ntmps18
  go_wp2
  go_loopw [5] (fun i wr => ∃ k : Nat, i = .int .i64 k ∧ k ≤ m ∧ Hid (∀ j, j < k → ws.getD j 0 = us.getD j 0) ∧ Ex ((w.alloc (.cells #[.int .i64 n, .slice A m c] 24)).alloc (.cells #[.int .i64 n, .slice B m d] 24)) wr)
    (fun i _ => m - (intOf i).toNat)
  case atStart => exact ⟨0, rfl, by omega, fun j _ => by omega, Ex.refl _⟩
  case round =>
    obtain ⟨k, rfl, hk, hk3, z, rfl⟩ := hrel
    by_cases hlt : k < m
    · obtain ⟨ad, rfl, ha1, ha2⟩ := HA.out k hlt
      obtain ⟨bd, rfl, hb1, hb2⟩ := HB.out k hlt
      have hki : (k : Int) < (m : Int) := by omega
      have ha3 : (ad.add k).block < w.heap.size + 1 + 1 := by omega
      have hb3 : (bd.add k).block < w.heap.size + 1 + 1 := by omega
      have hbn := bne_nat (ws.getD k 0) (us.getD k 0)
      have HQ : Hid (ws.getD k 0 = ws.getD k 0) := rfl
      by_cases hxy : ws.getD k 0 = us.getD k 0
      · have HE := Lib.hid hxy
        rw [hxy] at ha2
        clear hbn hxy
        generalize us.getD k 0 = x at ha2 hb2
        have hnx : ((x : Int) != (x : Int)) = false := by simp
        go_wp2
        refine wp_region_ext (by kernel_rfl) (by kernel_rfl) ?_
        repeat (go_big_quiet_step (fail))
        refine wpQuiet_end (fun y => ?_)
        go_wp2
        go_roundw
        case rel =>
          refine ⟨k + 1, by go_num, by omega, ?_, ext_ext _ _ _⟩
          intro j h1
          by_cases hj : j = k
          · rw [hj]; exact HE.out
          · exact hk3 j (by omega)
        case measure => simp [intOf]; omega
      · have HE := Lib.hid hxy
        rw [decide_eq_true hxy] at hbn
        clear hxy
        have hf : Hid (decide (ws = us) = false) := by
          show decide (ws = us) = false
          rw [decide_eq_false_iff_not]; intro e; exact HE.out (by rw [e])
        generalize ws.getD k 0 = x at ha2 hbn
        generalize us.getD k 0 = y at hb2 hbn
        go_wp2
        refine wp_region_ext (by kernel_rfl) (by kernel_rfl) ?_
        repeat (go_big_quiet_step (fail))
        refine wpQuiet_end (fun y => ?_)
        go_wp2
        go_ret
        exact Ret.mk (by rw [hf.out]; rfl) (((((Ex.refl _).alloc _).alloc _).ext _).ext _)
    · have hf : Hid (decide (ws = us) = true) := by
        show decide (ws = us) = true
        rw [decide_eq_true_iff]; exact HX.out fun j hj => hk3 j (by omega)
      go_wp2
      go_ret
      exact Ret.mk (by rw [hf.out]; rfl) ((((Ex.refl _).alloc _).alloc _).ext _)
end Go.Proofs.YtfinldppcdkeoaaDoor
