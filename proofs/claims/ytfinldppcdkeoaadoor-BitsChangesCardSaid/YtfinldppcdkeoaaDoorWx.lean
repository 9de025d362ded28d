/-
  The walk of the law Changes.
  Conditions: words below 2^64.
-/
import Derived.Test.YtfinldppcdkeoaaDoorWt
import Derived.Test.YtfinldppcdkeoaaDoorWv
namespace Go.Proofs.YtfinldppcdkeoaaDoor
open Go.RowKit Bm
theorem without_clr {n i : Nat} {ws : List Nat} (hv : Valid n ws) (hw : Wd ws) (hi : i < n) : ofL n (two n ws (ofL n [i]) false) = clr ws i := by
  have hl : ∀ x ∈ [i], x < n := fun x hx => by rw [List.mem_singleton] at hx; omega
  have := hv.len
  refine ofL_eq (two_lt _ _ _ _) (clr_valid hv hi) (clr_wd hw i) fun j hj => ?_
  rw [mem_two, bit_ofL hl, bitAt_clr ws i j (by omega), Bool.and_eq_true]
  simp [hj]
theorem changes_few (N i : Int) (A : Option Addr) (c : Nat) (ws : List Nat) (w : World) (hT : Tab w) (h : ¬ ws.length ≤ 20) : Calls Tryd.prog 5 #[.agg #[.int .i64 N, .slice A ws.length c], .int .i64 i] w (Ret w (.bool true)) := by
  have HAw := Lib.hid (fun w' (hx : Ex w w') => awake_c w' (hT.ex hx))
  have HF := Lib.hid (fun w' g (hB : Blk w' g 24 [.int .i64 N, .slice A ws.length c]) => few_one w' g 24 N A ws.length c hB)
  rw [decide_eq_false h] at HF
  clear hT h
  generalize ws.length = m at *
  go_enter Tryd.func5, Tryd.ntmps5
  go_wp2_with fail
  refine (HAw.out _ (by repeat (first | exact Ex.refl _ | apply Ex.ext | apply Ex.alloc))).mono ?_
  rintro e' w' ⟨rfl, y, rfl⟩
  go_wp2_with fail
  refine (HF.out _ _ (Blk.new' (ext _ y) rfl 24 [.int .i64 N, .slice A m c])).mono ?_
  rintro e' w' ⟨rfl, hx⟩
  obtain ⟨z, rfl⟩ := Ex.trans (Ex.alloc ⟨y, rfl⟩ _) hx
  clear hx
  go_wp2_with fail
  refine (HAw.out _ (by repeat (first | exact Ex.refl _ | apply Ex.ext | apply Ex.alloc))).mono ?_
  rintro e' w' ⟨rfl, zz, rfl⟩
  go_wp2
  go_ret
  exact Ret.mk rfl ((((Ex.refl _).alloc _).ext _).ext _)

set_option maxHeartbeats 1600000 in
theorem changes_inv (N i : Int) (A : Option Addr) (c : Nat) (ws : List Nat) (w : World) (hT : Tab w) (hC : Cells w A (u64s ws)) (hw : Wd ws) (h20 : ws.length ≤ 20) (h : validB N ws = false) : Calls Tryd.prog 5 #[.agg #[.int .i64 N, .slice A ws.length c], .int .i64 i] w (Ret w (.bool true)) := by
  have HAw := Lib.hid (fun w' (hx : Ex w w') => awake_c w' (hT.ex hx))
  have HF := Lib.hid (fun w' g (hB : Blk w' g 24 [.int .i64 N, .slice A ws.length c]) => few_one w' g 24 N A ws.length c hB)
  rw [decide_eq_true h20] at HF
  have H20 := Lib.hid (fun w' (hx : Ex w w') => rvalid_c N A c ws w' (hC.ex hx) hw)
  rw [h] at H20
  have K1 := Lib.hid (fun w' (hx : Ex w w') => bHas_c N i A c ws w' (hC.ex hx) hw h20)
  have K2 := Lib.hid (fun w' (hx : Ex w w') => rHas_c N i A c ws w' (hC.ex hx) hw h20)
  have H1 := Lib.hid (fun w' (hx : Ex w w') => with_arg N i A c ws w' (hC.ex hx) hw h)
  have H2 := Lib.hid (fun w' (hx : Ex w w') => without_arg N i A c ws w' (hC.ex hx) hw h)
  generalize hasB N ws i = R at *
  have hRR : (R != R) = false := by simp
  clear hT h hC hw h20
  generalize ws.length = m at *
  unfold Zero at *
  go_enter Tryd.func5, Tryd.ntmps5
  go_wp2_with fail
  refine (HAw.out _ (by repeat (first | exact Ex.refl _ | apply Ex.ext | apply Ex.alloc))).mono ?_
  rintro e' w' ⟨rfl, y, rfl⟩
  go_wp2_with fail
  refine (HF.out _ _ (Blk.new' (ext _ y) rfl 24 [.int .i64 N, .slice A m c])).mono ?_
  rintro e' w' ⟨rfl, hx⟩
  obtain ⟨z, rfl⟩ := Ex.trans (Ex.alloc ⟨y, rfl⟩ _) hx
  clear hx
  go_wp2_with fail
  refine (H1.out _ (by repeat (first | exact Ex.refl _ | apply Ex.ext | apply Ex.alloc))).mono ?_
  rintro e' w1 ⟨rfl, hx⟩
  have hE1 := (((Ex.refl w).alloc (.cells #[.int .i64 N, .slice A m c] 24)).ext z).trans hx
  have hS2 := ((Blk.new w 24 [.int .i64 N, .slice A m c]).ex ⟨z, rfl⟩).ex hx
  clear hx
  have X := Lib.hid (And.intro (hE1.alloc (.cells #[.int .i64 0, .slice none 0 0] 24)) (And.intro (hS2.alloc (.cells #[.int .i64 0, .slice none 0 0] 24)) (Blk.new w1 24 [.int .i64 0, .slice none 0 0])))
  have l2 := hS2.lt
  have p2 := hS2.cell 0
  have q2 := hS2.cell 1
  simp only [List.getElem?_cons_zero, List.getElem?_cons_succ] at p2 q2
  clear hE1 hS2
  go_wp2_with fail
  generalize hV : w1.alloc (.cells #[.int .i64 0, .slice none 0 0] 24) = V1 at *
  generalize w1.heap.size = b5 at *
  clear hV l2 p2 q2
  obtain ⟨hE1, hS2, hS5⟩ := X.out
  refine (H2.out _ hE1).mono ?_
  rintro e' w2 ⟨rfl, hx⟩
  have hE2 := hE1.trans hx
  have hS2' := hS2.ex hx
  have hS5' := hS5.ex hx
  clear hx X hE1 hS2 hS5
  have X := Lib.hid (And.intro (hE2.alloc (.cells #[.int .i64 0, .slice none 0 0] 24)) (And.intro (hS2'.alloc (.cells #[.int .i64 0, .slice none 0 0] 24)) (And.intro (hS5'.alloc (.cells #[.int .i64 0, .slice none 0 0] 24)) (Blk.new w2 24 [.int .i64 0, .slice none 0 0]))))
  clear hE2 hS2' hS5'
  go_wp2
  generalize hV : w2.alloc (.cells #[.int .i64 0, .slice none 0 0] 24) = V2 at *
  generalize w2.heap.size = b7 at *
  clear hV
  obtain ⟨hE, hS2, hS5, hS7⟩ := X.out
  clear X
  have l2 := hS2.lt
  have p2 := hS2.cell 0
  have q2 := hS2.cell 1
  have l5 := hS5.lt
  have p5 := hS5.cell 0
  have q5 := hS5.cell 1
  have l7 := hS7.lt
  have p7 := hS7.cell 0
  have q7 := hS7.cell 1
  simp only [List.getElem?_cons_zero, List.getElem?_cons_succ] at p2 q2 p5 q5 p7 q7
  have Y0 := Lib.hid (fun z : Up V2 => hE.ext z)
  clear hE hS2 hS5 hS7
  refine wp_region_ext (by kernel_rfl) (by kernel_rfl) ?_
  repeat (go_big_quiet_step (fail))
  go_big_quiet_step ((go_at_call 33; exact quiet_ext (K1.out _ (Y0.out _))))
  repeat (go_big_quiet_step (fail))
  go_big_quiet_step ((go_at_call 34; exact quiet_ext (K2.out _ (Y0.out _))))
  repeat (go_big_quiet_step (fail))
  refine wpQuiet_end (fun z => ?_)
  go_wp2_with fail
  refine (Calls.up (W := V2) ⟨_, rfl⟩ (H20.out _ (Y0.out _))).mono ?_
  rintro e' w' ⟨rfl, z1, rfl⟩
  go_wp2_with fail
  refine (Calls.up (W := V2) ⟨_, rfl⟩ (none_zero 0 _)).mono ?_
  rintro e' w' ⟨rfl, z2, rfl⟩
  go_wp2_with fail
  refine (Calls.up (W := V2) ⟨_, rfl⟩ (none_zero 0 _)).mono ?_
  rintro e' w' ⟨rfl, z3, rfl⟩
  go_wp2
  go_ret
  exact Ret.mk rfl (Y0.out _)

set_option maxHeartbeats 1600000 in
theorem changes_neg (N i : Int) (A : Option Addr) (c : Nat) (ws : List Nat) (w : World) (hT : Tab w) (hC : Cells w A (u64s ws)) (hw : Wd ws) (h20 : ws.length ≤ 20) (h : validB N ws = true) (hi : i < 0) : Calls Tryd.prog 5 #[.agg #[.int .i64 N, .slice A ws.length c], .int .i64 i] w (Ret w (.bool true)) := by
  have HAw := Lib.hid (fun w' (hx : Ex w w') => awake_c w' (hT.ex hx))
  have HF := Lib.hid (fun w' g (hB : Blk w' g 24 [.int .i64 N, .slice A ws.length c]) => few_one w' g 24 N A ws.length c hB)
  rw [decide_eq_true h20] at HF
  have H20 := Lib.hid (fun w' (hx : Ex w w') => rvalid_c N A c ws w' (hC.ex hx) hw)
  rw [h] at H20
  have K1 := Lib.hid (fun w' (hx : Ex w w') => bHas_c N i A c ws w' (hC.ex hx) hw h20)
  have K2 := Lib.hid (fun w' (hx : Ex w w') => rHas_c N i A c ws w' (hC.ex hx) hw h20)
  have H1 := Lib.hid (fun w' (hx : Ex w w') => with_range N i A c ws w' (hC.ex hx) hw h (by omega))
  have H2 := Lib.hid (fun w' (hx : Ex w w') => without_range N i A c ws w' (hC.ex hx) hw h (by omega))
  have g1 : decide (i < 0) = true := by simp; omega
  generalize hasB N ws i = R at *
  have hRR : (R != R) = false := by simp
  clear hT h hC hw h20 hi
  generalize ws.length = m at *
  unfold Zero at *
  go_enter Tryd.func5, Tryd.ntmps5
  go_wp2_with fail
  refine (HAw.out _ (by repeat (first | exact Ex.refl _ | apply Ex.ext | apply Ex.alloc))).mono ?_
  rintro e' w' ⟨rfl, y, rfl⟩
  go_wp2_with fail
  refine (HF.out _ _ (Blk.new' (ext _ y) rfl 24 [.int .i64 N, .slice A m c])).mono ?_
  rintro e' w' ⟨rfl, hx⟩
  obtain ⟨z, rfl⟩ := Ex.trans (Ex.alloc ⟨y, rfl⟩ _) hx
  clear hx
  go_wp2_with fail
  refine (H1.out _ (by repeat (first | exact Ex.refl _ | apply Ex.ext | apply Ex.alloc))).mono ?_
  rintro e' w1 ⟨rfl, hx⟩
  have hE1 := (((Ex.refl w).alloc (.cells #[.int .i64 N, .slice A m c] 24)).ext z).trans hx
  have hS2 := ((Blk.new w 24 [.int .i64 N, .slice A m c]).ex ⟨z, rfl⟩).ex hx
  clear hx
  have X := Lib.hid (And.intro (hE1.alloc (.cells #[.int .i64 0, .slice none 0 0] 24)) (And.intro (hS2.alloc (.cells #[.int .i64 0, .slice none 0 0] 24)) (Blk.new w1 24 [.int .i64 0, .slice none 0 0])))
  have l2 := hS2.lt
  have p2 := hS2.cell 0
  have q2 := hS2.cell 1
  simp only [List.getElem?_cons_zero, List.getElem?_cons_succ] at p2 q2
  clear hE1 hS2
  go_wp2_with fail
  generalize hV : w1.alloc (.cells #[.int .i64 0, .slice none 0 0] 24) = V1 at *
  generalize w1.heap.size = b5 at *
  clear hV l2 p2 q2
  obtain ⟨hE1, hS2, hS5⟩ := X.out
  refine (H2.out _ hE1).mono ?_
  rintro e' w2 ⟨rfl, hx⟩
  have hE2 := hE1.trans hx
  have hS2' := hS2.ex hx
  have hS5' := hS5.ex hx
  clear hx X hE1 hS2 hS5
  have X := Lib.hid (And.intro (hE2.alloc (.cells #[.int .i64 0, .slice none 0 0] 24)) (And.intro (hS2'.alloc (.cells #[.int .i64 0, .slice none 0 0] 24)) (And.intro (hS5'.alloc (.cells #[.int .i64 0, .slice none 0 0] 24)) (Blk.new w2 24 [.int .i64 0, .slice none 0 0]))))
  clear hE2 hS2' hS5'
  go_wp2
  generalize hV : w2.alloc (.cells #[.int .i64 0, .slice none 0 0] 24) = V2 at *
  generalize w2.heap.size = b7 at *
  clear hV
  obtain ⟨hE, hS2, hS5, hS7⟩ := X.out
  clear X
  have l2 := hS2.lt
  have p2 := hS2.cell 0
  have q2 := hS2.cell 1
  have l5 := hS5.lt
  have p5 := hS5.cell 0
  have q5 := hS5.cell 1
  have l7 := hS7.lt
  have p7 := hS7.cell 0
  have q7 := hS7.cell 1
  simp only [List.getElem?_cons_zero, List.getElem?_cons_succ] at p2 q2 p5 q5 p7 q7
  have Y0 := Lib.hid (fun z : Up V2 => hE.ext z)
  clear hE hS2 hS5 hS7
  refine wp_region_ext (by kernel_rfl) (by kernel_rfl) ?_
  repeat (go_big_quiet_step (fail))
  go_big_quiet_step ((go_at_call 33; exact quiet_ext (K1.out _ (Y0.out _))))
  repeat (go_big_quiet_step (fail))
  go_big_quiet_step ((go_at_call 34; exact quiet_ext (K2.out _ (Y0.out _))))
  repeat (go_big_quiet_step (fail))
  refine wpQuiet_end (fun z => ?_)
  go_wp2_with fail
  refine (Calls.up (W := V2) ⟨_, rfl⟩ (H20.out _ (Y0.out _))).mono ?_
  rintro e' w' ⟨rfl, z1, rfl⟩
  go_wp2_with fail
  refine (Calls.up (W := V2) ⟨_, rfl⟩ (none_zero 0 _)).mono ?_
  rintro e' w' ⟨rfl, z2, rfl⟩
  go_wp2_with fail
  refine (Calls.up (W := V2) ⟨_, rfl⟩ (none_zero 0 _)).mono ?_
  rintro e' w' ⟨rfl, z3, rfl⟩
  go_wp2
  go_ret
  exact Ret.mk rfl (Y0.out _)

set_option maxHeartbeats 1600000 in
theorem changes_big (N i : Int) (A : Option Addr) (c : Nat) (ws : List Nat) (w : World) (hT : Tab w) (hC : Cells w A (u64s ws)) (hw : Wd ws) (h20 : ws.length ≤ 20) (h : validB N ws = true) (hi : ¬ i < 0) (hi2 : N ≤ i) : Calls Tryd.prog 5 #[.agg #[.int .i64 N, .slice A ws.length c], .int .i64 i] w (Ret w (.bool true)) := by
  have HAw := Lib.hid (fun w' (hx : Ex w w') => awake_c w' (hT.ex hx))
  have HF := Lib.hid (fun w' g (hB : Blk w' g 24 [.int .i64 N, .slice A ws.length c]) => few_one w' g 24 N A ws.length c hB)
  rw [decide_eq_true h20] at HF
  have H20 := Lib.hid (fun w' (hx : Ex w w') => rvalid_c N A c ws w' (hC.ex hx) hw)
  rw [h] at H20
  have K1 := Lib.hid (fun w' (hx : Ex w w') => bHas_c N i A c ws w' (hC.ex hx) hw h20)
  have K2 := Lib.hid (fun w' (hx : Ex w w') => rHas_c N i A c ws w' (hC.ex hx) hw h20)
  have H1 := Lib.hid (fun w' (hx : Ex w w') => with_range N i A c ws w' (hC.ex hx) hw h (by omega))
  have H2 := Lib.hid (fun w' (hx : Ex w w') => without_range N i A c ws w' (hC.ex hx) hw h (by omega))
  have g1 : decide (i < 0) = false := by simp; omega
  have g2 : decide (N ≤ i) = true := by simp; omega
  generalize hasB N ws i = R at *
  have hRR : (R != R) = false := by simp
  clear hT h hC hw h20 hi hi2
  generalize ws.length = m at *
  unfold Zero at *
  go_enter Tryd.func5, Tryd.ntmps5
  go_wp2_with fail
  refine (HAw.out _ (by repeat (first | exact Ex.refl _ | apply Ex.ext | apply Ex.alloc))).mono ?_
  rintro e' w' ⟨rfl, y, rfl⟩
  go_wp2_with fail
  refine (HF.out _ _ (Blk.new' (ext _ y) rfl 24 [.int .i64 N, .slice A m c])).mono ?_
  rintro e' w' ⟨rfl, hx⟩
  obtain ⟨z, rfl⟩ := Ex.trans (Ex.alloc ⟨y, rfl⟩ _) hx
  clear hx
  go_wp2_with fail
  refine (H1.out _ (by repeat (first | exact Ex.refl _ | apply Ex.ext | apply Ex.alloc))).mono ?_
  rintro e' w1 ⟨rfl, hx⟩
  have hE1 := (((Ex.refl w).alloc (.cells #[.int .i64 N, .slice A m c] 24)).ext z).trans hx
  have hS2 := ((Blk.new w 24 [.int .i64 N, .slice A m c]).ex ⟨z, rfl⟩).ex hx
  clear hx
  have X := Lib.hid (And.intro (hE1.alloc (.cells #[.int .i64 0, .slice none 0 0] 24)) (And.intro (hS2.alloc (.cells #[.int .i64 0, .slice none 0 0] 24)) (Blk.new w1 24 [.int .i64 0, .slice none 0 0])))
  have l2 := hS2.lt
  have p2 := hS2.cell 0
  have q2 := hS2.cell 1
  simp only [List.getElem?_cons_zero, List.getElem?_cons_succ] at p2 q2
  clear hE1 hS2
  go_wp2_with fail
  generalize hV : w1.alloc (.cells #[.int .i64 0, .slice none 0 0] 24) = V1 at *
  generalize w1.heap.size = b5 at *
  clear hV l2 p2 q2
  obtain ⟨hE1, hS2, hS5⟩ := X.out
  refine (H2.out _ hE1).mono ?_
  rintro e' w2 ⟨rfl, hx⟩
  have hE2 := hE1.trans hx
  have hS2' := hS2.ex hx
  have hS5' := hS5.ex hx
  clear hx X hE1 hS2 hS5
  have X := Lib.hid (And.intro (hE2.alloc (.cells #[.int .i64 0, .slice none 0 0] 24)) (And.intro (hS2'.alloc (.cells #[.int .i64 0, .slice none 0 0] 24)) (And.intro (hS5'.alloc (.cells #[.int .i64 0, .slice none 0 0] 24)) (Blk.new w2 24 [.int .i64 0, .slice none 0 0]))))
  clear hE2 hS2' hS5'
  go_wp2
  generalize hV : w2.alloc (.cells #[.int .i64 0, .slice none 0 0] 24) = V2 at *
  generalize w2.heap.size = b7 at *
  clear hV
  obtain ⟨hE, hS2, hS5, hS7⟩ := X.out
  clear X
  have l2 := hS2.lt
  have p2 := hS2.cell 0
  have q2 := hS2.cell 1
  have l5 := hS5.lt
  have p5 := hS5.cell 0
  have q5 := hS5.cell 1
  have l7 := hS7.lt
  have p7 := hS7.cell 0
  have q7 := hS7.cell 1
  simp only [List.getElem?_cons_zero, List.getElem?_cons_succ] at p2 q2 p5 q5 p7 q7
  have Y0 := Lib.hid (fun z : Up V2 => hE.ext z)
  clear hE hS2 hS5 hS7
  refine wp_region_ext (by kernel_rfl) (by kernel_rfl) ?_
  repeat (go_big_quiet_step (fail))
  go_big_quiet_step ((go_at_call 33; exact quiet_ext (K1.out _ (Y0.out _))))
  repeat (go_big_quiet_step (fail))
  go_big_quiet_step ((go_at_call 34; exact quiet_ext (K2.out _ (Y0.out _))))
  repeat (go_big_quiet_step (fail))
  refine wpQuiet_end (fun z => ?_)
  go_wp2_with fail
  refine (Calls.up (W := V2) ⟨_, rfl⟩ (H20.out _ (Y0.out _))).mono ?_
  rintro e' w' ⟨rfl, z1, rfl⟩
  go_wp2_with fail
  refine (Calls.up (W := V2) ⟨_, rfl⟩ (none_zero 0 _)).mono ?_
  rintro e' w' ⟨rfl, z2, rfl⟩
  go_wp2_with fail
  refine (Calls.up (W := V2) ⟨_, rfl⟩ (none_zero 0 _)).mono ?_
  rintro e' w' ⟨rfl, z3, rfl⟩
  go_wp2
  go_ret
  exact Ret.mk rfl (Y0.out _)

set_option maxHeartbeats 3200000 in
theorem changes_good (n i : Nat) (A : Option Addr) (c : Nat) (ws : List Nat) (w : World) (hT : Tab w) (hC : Cells w A (u64s ws)) (hw : Wd ws) (h20 : ws.length ≤ 20) (hv : Valid n ws) (hi : i < n) :
    Calls Tryd.prog 5 #[.agg #[.int .i64 n, .slice A ws.length c], .int .i64 i] w (Ret w (.bool true)) := by
  have HAw := Lib.hid (fun w' (hx : Ex w w') => awake_c w' (hT.ex hx))
  have HF := Lib.hid (fun w' g (hB : Blk w' g 24 [.int .i64 n, .slice A ws.length c]) => few_one w' g 24 n A ws.length c hB)
  rw [decide_eq_true h20] at HF
  have H20 := Lib.hid (fun w' (hx : Ex w w') => rvalid_c n A c ws w' (hC.ex hx) hw)
  rw [(validB_iff n ws).2 ⟨n, rfl, hv⟩] at H20
  have g1 : decide ((i : Int) < 0) = false := by simp
  have g2 : decide ((n : Int) ≤ (i : Int)) = false := by simp; omega
  have K1 := Lib.hid (fun w' (hx : Ex w w') => bHas_c n i A c ws w' (hC.ex hx) hw h20)
  have K2 := Lib.hid (fun w' (hx : Ex w w') => rHas_c n i A c ws w' (hC.ex hx) hw h20)
  generalize hasB n ws i = R at *
  have hRR : (R != R) = false := by simp
  have lens : (setBit ws i).length ≤ 20 := by rw [length_setBit]; exact h20
  have lenc : (clr ws i).length ≤ 20 := by rw [clr_len]; exact h20
  have H1 := Lib.hid (fun w' (hx : Ex w w') => with_c n i A c ws w' (hC.ex hx) hw hv hi)
  have H2 := Lib.hid (fun w' (hx : Ex w w') => without_c n i A c ws w' (hC.ex hx) hw hv hi)
  have H35 := Lib.hid (fun w' (hx : Ex w w') => (rWith_c n i A c ws w' (hC.ex hx) hw hv hi).mono fun _ _ => NewSet.setR)
  rw [with_set hv hw hi] at H35
  have H36 := Lib.hid (fun w' (hx : Ex w w') => (rWithout_c n i A c ws w' (hC.ex hx) hw hv hi).mono fun _ _ => NewSet.setR)
  rw [without_clr hv hw hi] at H36
  have S1 := Lib.hid (fun A B c d w' hC hD => same_same n A B c d (setBit ws i) w' hC hD lens)
  have S2 := Lib.hid (fun A B c d w' hC hD => same_same n A B c d (clr ws i) w' hC hD lenc)
  clear hT hC hw h20 hv lens lenc
  generalize setBit ws i = ss at *
  generalize clr ws i = bs at *
  generalize ws.length = m at *
  go_enter Tryd.func5, Tryd.ntmps5
  go_wp2_with fail
  refine (HAw.out _ (by repeat (first | exact Ex.refl _ | apply Ex.ext | apply Ex.alloc))).mono ?_
  rintro e' w' ⟨rfl, y, rfl⟩
  go_wp2_with fail
  refine (HF.out _ _ (Blk.new' (ext _ y) rfl 24 [.int .i64 n, .slice A m c])).mono ?_
  rintro e' w' ⟨rfl, hx⟩
  obtain ⟨z, rfl⟩ := Ex.trans (Ex.alloc ⟨y, rfl⟩ _) hx
  clear hx
  go_wp2_with fail
  refine (H1.out _ (by repeat (first | exact Ex.refl _ | apply Ex.ext | apply Ex.alloc))).mono ?_
  rintro e' w1 ⟨g1, rfl, -, hB1, hx⟩
  have hE1 := (((Ex.refl w).alloc (.cells #[.int .i64 n, .slice A m c] 24)).ext z).trans hx
  have hS2 := ((Blk.new w 24 [.int .i64 n, .slice A m c]).ex ⟨z, rfl⟩).ex hx
  clear hx
  have X := Lib.hid (And.intro (hE1.alloc (.cells #[.int .i64 n, .slice (some ⟨g1, 0, none⟩) ss.length ss.length] 24)) (And.intro (hS2.alloc (.cells #[.int .i64 n, .slice (some ⟨g1, 0, none⟩) ss.length ss.length] 24)) (And.intro (hB1.alloc (.cells #[.int .i64 n, .slice (some ⟨g1, 0, none⟩) ss.length ss.length] 24)) (Blk.new w1 24 [.int .i64 n, .slice (some ⟨g1, 0, none⟩) ss.length ss.length]))))
  have l2 := hS2.lt
  have p2 := hS2.cell 0
  have q2 := hS2.cell 1
  simp only [List.getElem?_cons_zero, List.getElem?_cons_succ] at p2 q2
  clear hE1 hS2 hB1
  go_wp2_with fail
  generalize hV : w1.alloc (.cells #[.int .i64 n, .slice (some ⟨g1, 0, none⟩) ss.length ss.length] 24) = V1 at *
  generalize w1.heap.size = b5 at *
  clear hV l2 p2 q2
  obtain ⟨hE1, hS2, hB1, hS5⟩ := X.out
  refine (H2.out _ hE1).mono ?_
  rintro e' w2 ⟨g2, rfl, -, hB2, hx⟩
  have hE2 := hE1.trans hx
  have hS2' := hS2.ex hx
  have hB1' := hB1.ex hx
  have hS5' := hS5.ex hx
  clear hx X hE1 hS2 hS5 hB1
  have X := Lib.hid (And.intro (hE2.alloc (.cells #[.int .i64 n, .slice (some ⟨g2, 0, none⟩) bs.length bs.length] 24)) (And.intro (hS2'.alloc (.cells #[.int .i64 n, .slice (some ⟨g2, 0, none⟩) bs.length bs.length] 24)) (And.intro (hB1'.alloc (.cells #[.int .i64 n, .slice (some ⟨g2, 0, none⟩) bs.length bs.length] 24)) (And.intro (hS5'.alloc (.cells #[.int .i64 n, .slice (some ⟨g2, 0, none⟩) bs.length bs.length] 24)) (And.intro (hB2.alloc (.cells #[.int .i64 n, .slice (some ⟨g2, 0, none⟩) bs.length bs.length] 24)) (Blk.new w2 24 [.int .i64 n, .slice (some ⟨g2, 0, none⟩) bs.length bs.length]))))))
  clear hE2 hS2' hS5' hB1' hB2
  go_wp2
  generalize hV : w2.alloc (.cells #[.int .i64 n, .slice (some ⟨g2, 0, none⟩) bs.length bs.length] 24) = V2 at *
  generalize w2.heap.size = b7 at *
  clear hV
  obtain ⟨hE, hS2, hB1, hS5, hB2, hS7⟩ := X.out
  clear X
  have l2 := hS2.lt
  have p2 := hS2.cell 0
  have q2 := hS2.cell 1
  have l5 := hS5.lt
  have p5 := hS5.cell 0
  have q5 := hS5.cell 1
  have l7 := hS7.lt
  have p7 := hS7.cell 0
  have q7 := hS7.cell 1
  simp only [List.getElem?_cons_zero, List.getElem?_cons_succ] at p2 q2 p5 q5 p7 q7
  have Y0 := Lib.hid (fun (w' : World) (hx : Ex V2 w') => hE.trans hx)
  have Y1 := Lib.hid (fun (w' : World) (hx : Ex V2 w') => (hB1.ex hx).cells)
  have Y2 := Lib.hid (fun (w' : World) (hx : Ex V2 w') => (hB2.ex hx).cells)
  have KS : Hid (∀ w', Ex V2 w' → (fun (w' : World) => w'.cell? ⟨w.heap.size, 0, none⟩ = some (.int .i64 n) ∧ w'.cell? ⟨w.heap.size, 1, none⟩ = some (.slice A m c) ∧ w'.cell? ⟨b5, 0, none⟩ = some (.int .i64 n) ∧ w'.cell? ⟨b5, 1, none⟩ = some (.slice (some ⟨g1, 0, none⟩) ss.length ss.length) ∧ w'.cell? ⟨b7, 0, none⟩ = some (.int .i64 n) ∧ w'.cell? ⟨b7, 1, none⟩ = some (.slice (some ⟨g2, 0, none⟩) bs.length bs.length)) w') := fun w' hx => ⟨(hx.below.cell l2).trans p2, (hx.below.cell l2).trans q2, (hx.below.cell l5).trans p5, (hx.below.cell l5).trans q5, (hx.below.cell l7).trans p7, (hx.below.cell l7).trans q7⟩
  clear hE hS2 hS5 hS7 hB1 hB2
  refine wp_region_ext (by kernel_rfl) (by kernel_rfl) ?_
  repeat (go_big_quiet_step (fail))
  go_big_quiet_step ((go_at_call 33; exact quiet_ext (K1.out _ (Y0.out _ ⟨_, rfl⟩))))
  repeat (go_big_quiet_step (fail))
  go_big_quiet_step ((go_at_call 34; exact quiet_ext (K2.out _ (Y0.out _ ⟨_, rfl⟩))))
  repeat (go_big_quiet_step (fail))
  refine wpQuiet_end (fun z => ?_)
  go_wp2_with fail
  refine (Calls.up (W := V2) ⟨_, rfl⟩ (H20.out _ (Y0.out _ ⟨_, rfl⟩))).mono ?_
  rintro e' w4 ⟨rfl, hx4⟩
  obtain ⟨k2, k2', k5, k5', k7, k7'⟩ := KS.out _ hx4
  have l2' : w.heap.size < w4.heap.size := Nat.lt_of_lt_of_le l2 hx4.below.size
  clear p2 q2 p5 q5 p7 q7
  go_wp2
  go_region_held3 (fun (w' : World) => w'.cell? ⟨w.heap.size, 0, none⟩ = some (.int .i64 n) ∧ w'.cell? ⟨w.heap.size, 1, none⟩ = some (.slice A m c) ∧ w'.cell? ⟨b5, 0, none⟩ = some (.int .i64 n) ∧ w'.cell? ⟨b5, 1, none⟩ = some (.slice (some ⟨g1, 0, none⟩) ss.length ss.length) ∧ w'.cell? ⟨b7, 0, none⟩ = some (.int .i64 n) ∧ w'.cell? ⟨b7, 1, none⟩ = some (.slice (some ⟨g2, 0, none⟩) bs.length bs.length))
    (first | exact KS.out _ hx8 | exact KS.out _ hE7 | exact KS.out _ hx6 | exact KS.out _ hE5 | exact KS.out _ hx4.drew | exact KS.out _ hx4)
    (first | (go_at_call 35; refine (H35.out _ (Y0.out _ hx4.drew)).mono ?_; rintro e5 w5 ⟨A5, c5, rfl, hC5, hx5⟩; have hE5 : Ex V2 w5 := Ex.trans hx4.drew hx5) | (go_at_call 36; refine (H36.out _ (Y0.out _ hx6)).mono ?_; rintro e7 w7 ⟨A7, c7, rfl, hC7, hx7⟩; have hE7 : Ex V2 w7 := Ex.trans hx6 hx7) | (go_at_call 18; refine (Calls.up (W := V2) hE7 (S2.out _ _ _ _ _ (Y2.out _ hE7) hC7)).mono ?_; rintro e8 w8 ⟨rfl, hx8⟩) | (go_at_call 18; refine (Calls.up (W := V2) hE5 (S1.out _ _ _ _ _ (Y1.out _ hE5) hC5)).mono ?_; rintro e6 w6 ⟨rfl, hx6⟩))
  go_wp2
  go_ret
  exact Ret.mk rfl (Y0.out _ hx8)
theorem changes_c (N i : Int) (A : Option Addr) (c : Nat) (ws : List Nat) (w : World) (hT : Tab w) (hC : Cells w A (u64s ws)) (hw : Wd ws) : Calls Tryd.prog 5 #[.agg #[.int .i64 N, .slice A ws.length c], .int .i64 i] w (Ret w (.bool true)) := by
  by_cases h20 : ws.length ≤ 20
  · cases h : validB N ws
    · exact changes_inv N i A c ws w hT hC hw h20 h
    · by_cases hi : i < 0
      · exact changes_neg N i A c ws w hT hC hw h20 h hi
      · by_cases hi2 : N ≤ i
        · exact changes_big N i A c ws w hT hC hw h20 h hi hi2
        · obtain ⟨n, rfl, hv⟩ := (validB_iff N ws).1 h
          obtain ⟨k, rfl⟩ : ∃ k : Nat, i = k := ⟨i.toNat, by omega⟩
          exact changes_good n k A c ws w hT hC hw h20 hv (by omega)
  · exact changes_few N i A c ws w hT h20
end Go.Proofs.YtfinldppcdkeoaaDoor
