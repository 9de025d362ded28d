/-
  The walk of the law Joins.
  Conditions: words below 2^64.
-/
import Derived.Test.YtfinldppcdkeoaaDoorWy
namespace Go.Proofs.YtfinldppcdkeoaaDoor
open Go.RowKit Bm
set_option maxHeartbeats 800000 in
theorem joins_guard (N N2 : Int) (A B : Option Addr) (m c m2 d : Nat) (w : World) (hT : Tab w) (h : (decide (m ≤ 20) && decide (m2 ≤ 20)) = false) :
    Calls Tryd.prog 6 #[.agg #[.int .i64 N, .slice A m c], .agg #[.int .i64 N2, .slice B m2 d]] w (Ret w (.bool true)) := by
  have HAw := Lib.hid (fun w' (hx : Ex w w') => awake_c w' (hT.ex hx))
  have HF := Lib.hid (fun w' g (hB : Blk w' g 24 [.int .i64 N, .slice A m c, .int .i64 N2, .slice B m2 d]) => few_two w' g 24 N N2 A B m c m2 d hB)
  rw [h] at HF
  clear hT h
  go_enter Tryd.func6, Tryd.ntmps6
  go_wp2_with fail
  refine (HAw.out _ (by repeat (first | exact Ex.refl _ | apply Ex.ext | apply Ex.alloc))).mono ?_
  rintro e w' ⟨rfl, y, rfl⟩
  go_wp2_with fail
  refine (HF.out _ _ (Blk.new' (ext _ y) rfl 24 [.int .i64 N, .slice A m c, .int .i64 N2, .slice B m2 d])).mono ?_
  rintro e w' ⟨rfl, hx⟩
  obtain ⟨z, rfl⟩ := Ex.trans (Ex.alloc ⟨y, rfl⟩ _) hx
  clear hx
  go_wp2_with fail
  refine (HAw.out _ (by repeat (first | exact Ex.refl _ | apply Ex.ext | apply Ex.alloc))).mono ?_
  rintro e w' ⟨rfl, y2, rfl⟩
  go_wp2
  go_ret
  exact Ret.mk rfl ((((Ex.refl _).alloc _).alloc _).ext _ |>.ext _)

set_option maxHeartbeats 1600000 in
theorem joins_bad (N N2 : Int) (A B : Option Addr) (c d : Nat) (ws us : List Nat) (w : World) (hT : Tab w) (hC : Cells w A (u64s ws)) (hD : Cells w B (u64s us)) (hw : Wd ws) (hu : Wd us) (hm : ws.length ≤ 20) (hm2 : us.length ≤ 20) (h : (validB N ws && (validB N2 us && decide (N = N2))) = false) :
    Calls Tryd.prog 6 #[.agg #[.int .i64 N, .slice A ws.length c], .agg #[.int .i64 N2, .slice B us.length d]] w (Ret w (.bool true)) := by
  have HAw := Lib.hid (fun w' (hx : Ex w w') => awake_c w' (hT.ex hx))
  have HF := Lib.hid (fun w' g (hB : Blk w' g 24 [.int .i64 N, .slice A ws.length c, .int .i64 N2, .slice B us.length d]) => few_two w' g 24 N N2 A B ws.length c us.length d hB)
  rw [decide_eq_true hm, decide_eq_true hm2] at HF
  have H29 := Lib.hid (fun w' (hx : Ex w w') => comparable_c N N2 A B c d ws us w' (hC.ex hx) (hD.ex hx) hw hu)
  rw [h] at H29
  have H1 := Lib.hid (fun w' (hx : Ex w w') => union_arg N N2 A B c d ws us w' (hC.ex hx) (hD.ex hx) hw hu h)
  have H2 := Lib.hid (fun w' (hx : Ex w w') => inter_arg N N2 A B c d ws us w' (hC.ex hx) (hD.ex hx) hw hu h)
  have H3 := Lib.hid (fun w' (hx : Ex w w') => minus_arg N N2 A B c d ws us w' (hC.ex hx) (hD.ex hx) hw hu h)
  clear hT hC hD hw hu hm hm2 h
  generalize ws.length = m at *
  generalize us.length = m2 at *
  unfold Zero at *
  go_enter Tryd.func6, Tryd.ntmps6
  go_wp2_with fail
  refine (HAw.out _ (by repeat (first | exact Ex.refl _ | apply Ex.ext | apply Ex.alloc))).mono ?_
  rintro e w' ⟨rfl, y, rfl⟩
  go_wp2_with fail
  refine (HF.out _ _ (Blk.new' (ext _ y) rfl 24 [.int .i64 N, .slice A m c, .int .i64 N2, .slice B m2 d])).mono ?_
  rintro e w' ⟨rfl, hx⟩
  obtain ⟨z, rfl⟩ := Ex.trans (Ex.alloc ⟨y, rfl⟩ _) hx
  clear hx
  have hEx : Ex w (ext ((w.alloc (.cells #[.int .i64 N, .slice A m c] 24)).alloc (.cells #[.int .i64 N2, .slice B m2 d] 24)) z) := (((Ex.refl w).alloc _).alloc _).ext z
  have qa := (((Blk.new w 24 [.int .i64 N, .slice A m c]).alloc (.cells #[.int .i64 N2, .slice B m2 d] 24)).ex ⟨z, rfl⟩)
  have qb := ((Blk.new' (w.alloc (.cells #[.int .i64 N, .slice A m c] 24)) (g := w.heap.size + 1) (by simp) 24 [.int .i64 N2, .slice B m2 d]).ex ⟨z, rfl⟩)
  go_wp2_with fail
  generalize hV0 : ext ((w.alloc (.cells #[.int .i64 N, .slice A m c] 24)).alloc (.cells #[.int .i64 N2, .slice B m2 d] 24)) z = V0 at *
  clear hV0
  refine (H1.out _ hEx).mono ?_
  rintro e w5 ⟨rfl, hx⟩
  have hEx' := hEx.trans hx
  have qa' := qa.ex hx
  have qb' := qb.ex hx
  clear hEx qa qb hx
  have hEx := hEx'.alloc (.cells #[.int .i64 0, .slice none 0 0] 24)
  have qa := qa'.alloc (.cells #[.int .i64 0, .slice none 0 0] 24)
  have qb := qb'.alloc (.cells #[.int .i64 0, .slice none 0 0] 24)
  have q5 := Blk.new w5 24 [.int .i64 0, .slice none 0 0]
  have la := qa'.lt
  have pa := qa'.cell 0
  have oa := qa'.cell 1
  have lb := qb'.lt
  have pb := qb'.cell 0
  have ob := qb'.cell 1
  simp only [List.getElem?_cons_zero, List.getElem?_cons_succ] at pa oa pb ob
  have X := Lib.hid (And.intro hEx ( And.intro qa ( And.intro qb (q5))))
  clear hEx qa qb q5 hEx' qa' qb'
  go_wp2_with fail
  generalize hVV : w5.alloc (.cells #[.int .i64 0, .slice none 0 0] 24) = V5 at *
  generalize w5.heap.size = b5 at *
  clear hVV
  clear la pa oa lb pb ob
  obtain ⟨hEx, qa, qb, q5⟩ := X.out
  clear X
  refine (H2.out _ hEx).mono ?_
  rintro e w7 ⟨rfl, hx⟩
  have hEx' := hEx.trans hx
  have qa' := qa.ex hx
  have qb' := qb.ex hx
  have q5' := q5.ex hx
  clear hEx qa qb q5 hx
  have hEx := hEx'.alloc (.cells #[.int .i64 0, .slice none 0 0] 24)
  have qa := qa'.alloc (.cells #[.int .i64 0, .slice none 0 0] 24)
  have qb := qb'.alloc (.cells #[.int .i64 0, .slice none 0 0] 24)
  have q5 := q5'.alloc (.cells #[.int .i64 0, .slice none 0 0] 24)
  have q7 := Blk.new w7 24 [.int .i64 0, .slice none 0 0]
  have la := qa'.lt
  have pa := qa'.cell 0
  have oa := qa'.cell 1
  have lb := qb'.lt
  have pb := qb'.cell 0
  have ob := qb'.cell 1
  simp only [List.getElem?_cons_zero, List.getElem?_cons_succ] at pa oa pb ob
  have X := Lib.hid (And.intro hEx ( And.intro qa ( And.intro qb ( And.intro q5 (q7)))))
  clear hEx qa qb q5 q7 hEx' qa' qb' q5'
  go_wp2_with fail
  generalize hVV : w7.alloc (.cells #[.int .i64 0, .slice none 0 0] 24) = V7 at *
  generalize w7.heap.size = b7 at *
  clear hVV
  clear la pa oa lb pb ob
  obtain ⟨hEx, qa, qb, q5, q7⟩ := X.out
  clear X
  refine (H3.out _ hEx).mono ?_
  rintro e w9 ⟨rfl, hx⟩
  have hEx' := hEx.trans hx
  have qa' := qa.ex hx
  have qb' := qb.ex hx
  have q5' := q5.ex hx
  have q7' := q7.ex hx
  clear hEx qa qb q5 q7 hx
  have hEx := hEx'.alloc (.cells #[.int .i64 0, .slice none 0 0] 24)
  have qa := qa'.alloc (.cells #[.int .i64 0, .slice none 0 0] 24)
  have qb := qb'.alloc (.cells #[.int .i64 0, .slice none 0 0] 24)
  have q5 := q5'.alloc (.cells #[.int .i64 0, .slice none 0 0] 24)
  have q7 := q7'.alloc (.cells #[.int .i64 0, .slice none 0 0] 24)
  have q9 := Blk.new w9 24 [.int .i64 0, .slice none 0 0]
  have la := qa'.lt
  have pa := qa'.cell 0
  have oa := qa'.cell 1
  have lb := qb'.lt
  have pb := qb'.cell 0
  have ob := qb'.cell 1
  simp only [List.getElem?_cons_zero, List.getElem?_cons_succ] at pa oa pb ob
  have X := Lib.hid (And.intro hEx ( And.intro qa ( And.intro qb ( And.intro q5 ( And.intro q7 (q9))))))
  clear hEx qa qb q5 q7 q9 hEx' qa' qb' q5' q7'
  go_wp2_with fail
  generalize hVV : w9.alloc (.cells #[.int .i64 0, .slice none 0 0] 24) = V9 at *
  generalize w9.heap.size = b9 at *
  clear hVV
  clear la pa oa lb pb ob
  obtain ⟨hEx, qa, qb, q5, q7, q9⟩ := X.out
  clear X
  have la := qa.lt
  have pa := qa.cell 0
  have oa := qa.cell 1
  have lb := qb.lt
  have pb := qb.cell 0
  have ob := qb.cell 1
  have l5 := q5.lt
  have p5 := q5.cell 0
  have o5 := q5.cell 1
  have l7 := q7.lt
  have p7 := q7.cell 0
  have o7 := q7.cell 1
  have l9 := q9.lt
  have p9 := q9.cell 0
  have o9 := q9.cell 1
  simp only [List.getElem?_cons_zero, List.getElem?_cons_succ] at pa oa pb ob p5 o5 p7 o7 p9 o9
  refine (H29.out _ hEx).mono ?_
  rintro e w' ⟨rfl, z1, rfl⟩
  go_wp2_with fail
  refine (Calls.up (W := V9) ⟨_, rfl⟩ (none_zero 0 _)).mono ?_
  rintro e w' ⟨rfl, z2, rfl⟩
  go_wp2_with fail
  refine (Calls.up (W := V9) ⟨_, rfl⟩ (none_zero 0 _)).mono ?_
  rintro e w' ⟨rfl, z3, rfl⟩
  go_wp2_with fail
  refine (Calls.up (W := V9) ⟨_, rfl⟩ (none_zero 0 _)).mono ?_
  rintro e w' ⟨rfl, z4, rfl⟩
  go_wp2
  go_ret
  exact Ret.mk rfl (hEx.ext _)

set_option maxHeartbeats 3200000 in
theorem joins_good (n : Nat) (A B : Option Addr) (c d : Nat) (ws us : List Nat) (w : World) (hT : Tab w) (hC : Cells w A (u64s ws)) (hD : Cells w B (u64s us)) (hw : Wd ws) (hu : Wd us) (hm : ws.length ≤ 20) (hm2 : us.length ≤ 20) (hv : Valid n ws) (hvu : Valid n us) :
    Calls Tryd.prog 6 #[.agg #[.int .i64 n, .slice A ws.length c], .agg #[.int .i64 n, .slice B us.length d]] w (Ret w (.bool true)) := by
  have HAw := Lib.hid (fun w' (hx : Ex w w') => awake_c w' (hT.ex hx))
  have HF := Lib.hid (fun w' g (hB : Blk w' g 24 [.int .i64 n, .slice A ws.length c, .int .i64 n, .slice B us.length d]) => few_two w' g 24 n n A B ws.length c us.length d hB)
  rw [decide_eq_true hm, decide_eq_true hm2] at HF
  have H29 := Lib.hid (fun w' (hx : Ex w w') => comparable_c n n A B c d ws us w' (hC.ex hx) (hD.ex hx) hw hu)
  rw [(validB_iff n ws).2 ⟨n, rfl, hv⟩, (validB_iff n us).2 ⟨n, rfl, hvu⟩, decide_eq_true (rfl : (n : Int) = n)] at H29
  have H1 := Lib.hid (fun w' (hx : Ex w w') => union_ok n A B c d ws us w' (hC.ex hx) (hD.ex hx) hw hu hv hvu)
  have H2 := Lib.hid (fun w' (hx : Ex w w') => inter_ok n A B c d ws us w' (hC.ex hx) (hD.ex hx) hw hu hv hvu)
  have H3 := Lib.hid (fun w' (hx : Ex w w') => minus_ok n A B c d ws us w' (hC.ex hx) (hD.ex hx) hw hu hv hvu)
  have H40 := Lib.hid (fun w' (hx : Ex w w') => (rUnion_c n A B c d ws us w' (hC.ex hx) (hD.ex hx) hw hu hv hvu).mono fun _ _ => NewSet.setR)
  rw [or_both hv hvu hw hu] at H40
  have H41 := Lib.hid (fun w' (hx : Ex w w') => (rInter_c n A B c d ws us w' (hC.ex hx) (hD.ex hx) hw hu hv hvu).mono fun _ _ => NewSet.setR)
  rw [two_and hv hvu hw hu] at H41
  have H42 := Lib.hid (fun w' (hx : Ex w w') => (rMinus_c n A B c d ws us w' (hC.ex hx) (hD.ex hx) hw hu hv hvu).mono fun _ _ => NewSet.setR)
  rw [two_not hv hvu hw hu] at H42
  have hl : ws.length = us.length := by rw [hv.len, hvu.len]
  have z20 : ∀ f : Nat → Nat → Nat, (List.zipWith f ws us).length ≤ 20 := fun f => by rw [List.length_zipWith]; omega
  have S1 := Lib.hid (fun A B c d w' hC hD => same_same n A B c d (List.zipWith (fun x y => x ||| y) ws us) w' hC hD (z20 _))
  have S2 := Lib.hid (fun A B c d w' hC hD => same_same n A B c d (List.zipWith (fun x y => x &&& y) ws us) w' hC hD (z20 _))
  have S3 := Lib.hid (fun A B c d w' hC hD => same_same n A B c d (List.zipWith andNot ws us) w' hC hD (z20 _))
  clear hT hC hD hw hu hm hm2 hv hvu hl z20
  generalize List.zipWith (fun x y => x ||| y) ws us = s1 at *
  generalize List.zipWith (fun x y => x &&& y) ws us = s2 at *
  generalize List.zipWith andNot ws us = s3 at *
  generalize ws.length = m at *
  generalize us.length = m2 at *
  go_enter Tryd.func6, Tryd.ntmps6
  go_wp2_with fail
  refine (HAw.out _ (by repeat (first | exact Ex.refl _ | apply Ex.ext | apply Ex.alloc))).mono ?_
  rintro e w' ⟨rfl, y, rfl⟩
  go_wp2_with fail
  refine (HF.out _ _ (Blk.new' (ext _ y) rfl 24 [.int .i64 n, .slice A m c, .int .i64 n, .slice B m2 d])).mono ?_
  rintro e w' ⟨rfl, hx⟩
  obtain ⟨z, rfl⟩ := Ex.trans (Ex.alloc ⟨y, rfl⟩ _) hx
  clear hx
  have hEx : Ex w (ext ((w.alloc (.cells #[.int .i64 n, .slice A m c] 24)).alloc (.cells #[.int .i64 n, .slice B m2 d] 24)) z) := (((Ex.refl w).alloc _).alloc _).ext z
  have qa := (((Blk.new w 24 [.int .i64 n, .slice A m c]).alloc (.cells #[.int .i64 n, .slice B m2 d] 24)).ex ⟨z, rfl⟩)
  have qb := ((Blk.new' (w.alloc (.cells #[.int .i64 n, .slice A m c] 24)) (g := w.heap.size + 1) (by simp) 24 [.int .i64 n, .slice B m2 d]).ex ⟨z, rfl⟩)
  go_wp2_with fail
  generalize hV0 : ext ((w.alloc (.cells #[.int .i64 n, .slice A m c] 24)).alloc (.cells #[.int .i64 n, .slice B m2 d] 24)) z = V0 at *
  clear hV0
  refine (H1.out _ hEx).mono ?_
  rintro e w5 ⟨g5, rfl, -, h5, hx⟩
  have hEx' := hEx.trans hx
  have qa' := qa.ex hx
  have qb' := qb.ex hx
  clear hEx qa qb hx
  have hEx := hEx'.alloc (.cells #[.int .i64 n, .slice (some ⟨g5, 0, none⟩) s1.length s1.length] 24)
  have qa := qa'.alloc (.cells #[.int .i64 n, .slice (some ⟨g5, 0, none⟩) s1.length s1.length] 24)
  have qb := qb'.alloc (.cells #[.int .i64 n, .slice (some ⟨g5, 0, none⟩) s1.length s1.length] 24)
  have h5' := h5
  clear h5
  have h5 := h5'.alloc (.cells #[.int .i64 n, .slice (some ⟨g5, 0, none⟩) s1.length s1.length] 24)
  have q5 := Blk.new w5 24 [.int .i64 n, .slice (some ⟨g5, 0, none⟩) s1.length s1.length]
  have la := qa'.lt
  have pa := qa'.cell 0
  have oa := qa'.cell 1
  have lb := qb'.lt
  have pb := qb'.cell 0
  have ob := qb'.cell 1
  simp only [List.getElem?_cons_zero, List.getElem?_cons_succ] at pa oa pb ob
  have X := Lib.hid (And.intro hEx ( And.intro qa ( And.intro qb ( And.intro h5 (q5)))))
  clear hEx qa qb h5 q5 hEx' qa' qb' h5'
  go_wp2_with fail
  generalize hVV : w5.alloc (.cells #[.int .i64 n, .slice (some ⟨g5, 0, none⟩) s1.length s1.length] 24) = V5 at *
  generalize w5.heap.size = b5 at *
  clear hVV
  clear la pa oa lb pb ob
  obtain ⟨hEx, qa, qb, h5, q5⟩ := X.out
  clear X
  refine (H2.out _ hEx).mono ?_
  rintro e w7 ⟨g7, rfl, -, h7, hx⟩
  have hEx' := hEx.trans hx
  have qa' := qa.ex hx
  have qb' := qb.ex hx
  have h5' := h5.ex hx
  have q5' := q5.ex hx
  clear hEx qa qb h5 q5 hx
  have hEx := hEx'.alloc (.cells #[.int .i64 n, .slice (some ⟨g7, 0, none⟩) s2.length s2.length] 24)
  have qa := qa'.alloc (.cells #[.int .i64 n, .slice (some ⟨g7, 0, none⟩) s2.length s2.length] 24)
  have qb := qb'.alloc (.cells #[.int .i64 n, .slice (some ⟨g7, 0, none⟩) s2.length s2.length] 24)
  have h5 := h5'.alloc (.cells #[.int .i64 n, .slice (some ⟨g7, 0, none⟩) s2.length s2.length] 24)
  have q5 := q5'.alloc (.cells #[.int .i64 n, .slice (some ⟨g7, 0, none⟩) s2.length s2.length] 24)
  have h7' := h7
  clear h7
  have h7 := h7'.alloc (.cells #[.int .i64 n, .slice (some ⟨g7, 0, none⟩) s2.length s2.length] 24)
  have q7 := Blk.new w7 24 [.int .i64 n, .slice (some ⟨g7, 0, none⟩) s2.length s2.length]
  have la := qa'.lt
  have pa := qa'.cell 0
  have oa := qa'.cell 1
  have lb := qb'.lt
  have pb := qb'.cell 0
  have ob := qb'.cell 1
  simp only [List.getElem?_cons_zero, List.getElem?_cons_succ] at pa oa pb ob
  have X := Lib.hid (And.intro hEx ( And.intro qa ( And.intro qb ( And.intro h5 ( And.intro q5 ( And.intro h7 (q7)))))))
  clear hEx qa qb h5 q5 h7 q7 hEx' qa' qb' h5' q5' h7'
  go_wp2_with fail
  generalize hVV : w7.alloc (.cells #[.int .i64 n, .slice (some ⟨g7, 0, none⟩) s2.length s2.length] 24) = V7 at *
  generalize w7.heap.size = b7 at *
  clear hVV
  clear la pa oa lb pb ob
  obtain ⟨hEx, qa, qb, h5, q5, h7, q7⟩ := X.out
  clear X
  refine (H3.out _ hEx).mono ?_
  rintro e w9 ⟨g9, rfl, -, h9, hx⟩
  have hEx' := hEx.trans hx
  have qa' := qa.ex hx
  have qb' := qb.ex hx
  have h5' := h5.ex hx
  have q5' := q5.ex hx
  have h7' := h7.ex hx
  have q7' := q7.ex hx
  clear hEx qa qb h5 q5 h7 q7 hx
  have hEx := hEx'.alloc (.cells #[.int .i64 n, .slice (some ⟨g9, 0, none⟩) s3.length s3.length] 24)
  have qa := qa'.alloc (.cells #[.int .i64 n, .slice (some ⟨g9, 0, none⟩) s3.length s3.length] 24)
  have qb := qb'.alloc (.cells #[.int .i64 n, .slice (some ⟨g9, 0, none⟩) s3.length s3.length] 24)
  have h5 := h5'.alloc (.cells #[.int .i64 n, .slice (some ⟨g9, 0, none⟩) s3.length s3.length] 24)
  have q5 := q5'.alloc (.cells #[.int .i64 n, .slice (some ⟨g9, 0, none⟩) s3.length s3.length] 24)
  have h7 := h7'.alloc (.cells #[.int .i64 n, .slice (some ⟨g9, 0, none⟩) s3.length s3.length] 24)
  have q7 := q7'.alloc (.cells #[.int .i64 n, .slice (some ⟨g9, 0, none⟩) s3.length s3.length] 24)
  have h9' := h9
  clear h9
  have h9 := h9'.alloc (.cells #[.int .i64 n, .slice (some ⟨g9, 0, none⟩) s3.length s3.length] 24)
  have q9 := Blk.new w9 24 [.int .i64 n, .slice (some ⟨g9, 0, none⟩) s3.length s3.length]
  have la := qa'.lt
  have pa := qa'.cell 0
  have oa := qa'.cell 1
  have lb := qb'.lt
  have pb := qb'.cell 0
  have ob := qb'.cell 1
  simp only [List.getElem?_cons_zero, List.getElem?_cons_succ] at pa oa pb ob
  have X := Lib.hid (And.intro hEx ( And.intro qa ( And.intro qb ( And.intro h5 ( And.intro q5 ( And.intro h7 ( And.intro q7 ( And.intro h9 (q9)))))))))
  clear hEx qa qb h5 q5 h7 q7 h9 q9 hEx' qa' qb' h5' q5' h7' q7' h9'
  go_wp2_with fail
  generalize hVV : w9.alloc (.cells #[.int .i64 n, .slice (some ⟨g9, 0, none⟩) s3.length s3.length] 24) = V9 at *
  generalize w9.heap.size = b9 at *
  clear hVV
  clear la pa oa lb pb ob
  obtain ⟨hEx, qa, qb, h5, q5, h7, q7, h9, q9⟩ := X.out
  clear X
  have la := qa.lt
  have pa := qa.cell 0
  have oa := qa.cell 1
  have lb := qb.lt
  have pb := qb.cell 0
  have ob := qb.cell 1
  have l5 := q5.lt
  have p5 := q5.cell 0
  have o5 := q5.cell 1
  have l7 := q7.lt
  have p7 := q7.cell 0
  have o7 := q7.cell 1
  have l9 := q9.lt
  have p9 := q9.cell 0
  have o9 := q9.cell 1
  simp only [List.getElem?_cons_zero, List.getElem?_cons_succ] at pa oa pb ob p5 o5 p7 o7 p9 o9
  have Y0 := Lib.hid (fun (w' : World) (hx : Ex V9 w') => hEx.trans hx)
  have Y1 := Lib.hid (fun (w' : World) (hx : Ex V9 w') => (h5.ex hx).cells)
  have Y2 := Lib.hid (fun (w' : World) (hx : Ex V9 w') => (h7.ex hx).cells)
  have Y3 := Lib.hid (fun (w' : World) (hx : Ex V9 w') => (h9.ex hx).cells)
  have KS : Hid (∀ w', Ex V9 w' → (fun (w' : World) => w'.cell? ⟨w.heap.size, 0, none⟩ = some (.int .i64 n) ∧ w'.cell? ⟨w.heap.size, 1, none⟩ = some (.slice A m c) ∧ w'.cell? ⟨w.heap.size + 1, 0, none⟩ = some (.int .i64 n) ∧ w'.cell? ⟨w.heap.size + 1, 1, none⟩ = some (.slice B m2 d) ∧ w'.cell? ⟨b5, 0, none⟩ = some (.int .i64 n) ∧ w'.cell? ⟨b5, 1, none⟩ = some (.slice (some ⟨g5, 0, none⟩) s1.length s1.length) ∧ w'.cell? ⟨b7, 0, none⟩ = some (.int .i64 n) ∧ w'.cell? ⟨b7, 1, none⟩ = some (.slice (some ⟨g7, 0, none⟩) s2.length s2.length) ∧ w'.cell? ⟨b9, 0, none⟩ = some (.int .i64 n) ∧ w'.cell? ⟨b9, 1, none⟩ = some (.slice (some ⟨g9, 0, none⟩) s3.length s3.length)) w') := fun w' hx => ⟨(hx.below.cell la).trans pa, (hx.below.cell la).trans oa, (hx.below.cell lb).trans pb, (hx.below.cell lb).trans ob, (hx.below.cell l5).trans p5, (hx.below.cell l5).trans o5, (hx.below.cell l7).trans p7, (hx.below.cell l7).trans o7, (hx.below.cell l9).trans p9, (hx.below.cell l9).trans o9⟩
  refine (H29.out _ hEx).mono ?_
  rintro e w0 ⟨rfl, hx4⟩
  clear hEx qa qb h5 q5 h7 q7 h9 q9 pa oa pb ob p5 o5 p7 o7 p9 o9
  obtain ⟨k1, k2, k3, k4, k5, k6, k7, k8, k9, k10⟩ := KS.out _ hx4
  go_wp2
  go_region_held3 (fun (w' : World) => w'.cell? ⟨w.heap.size, 0, none⟩ = some (.int .i64 n) ∧ w'.cell? ⟨w.heap.size, 1, none⟩ = some (.slice A m c) ∧ w'.cell? ⟨w.heap.size + 1, 0, none⟩ = some (.int .i64 n) ∧ w'.cell? ⟨w.heap.size + 1, 1, none⟩ = some (.slice B m2 d) ∧ w'.cell? ⟨b5, 0, none⟩ = some (.int .i64 n) ∧ w'.cell? ⟨b5, 1, none⟩ = some (.slice (some ⟨g5, 0, none⟩) s1.length s1.length) ∧ w'.cell? ⟨b7, 0, none⟩ = some (.int .i64 n) ∧ w'.cell? ⟨b7, 1, none⟩ = some (.slice (some ⟨g7, 0, none⟩) s2.length s2.length) ∧ w'.cell? ⟨b9, 0, none⟩ = some (.int .i64 n) ∧ w'.cell? ⟨b9, 1, none⟩ = some (.slice (some ⟨g9, 0, none⟩) s3.length s3.length))
    (first | exact KS.out _ hF | exact KS.out _ hEf | exact KS.out _ hD | exact KS.out _ hEd | exact KS.out _ hB | exact KS.out _ hEb | exact KS.out _ hx4.drew | exact KS.out _ hx4)
    (first | (go_at_call 40; refine (H40.out _ (Y0.out _ hx4.drew)).mono ?_; rintro eb wb ⟨Ab, cb, rfl, hCb, hxb⟩; have hEb : Ex V9 wb := Ex.trans hx4.drew hxb) | (go_at_call 41; refine (H41.out _ (Y0.out _ hB)).mono ?_; rintro ed wd ⟨Ad, cd, rfl, hCd, hxd⟩; have hEd : Ex V9 wd := Ex.trans hB hxd) | (go_at_call 42; refine (H42.out _ (Y0.out _ hD)).mono ?_; rintro ef wf ⟨Af, cf, rfl, hCf, hxf⟩; have hEf : Ex V9 wf := Ex.trans hD hxf) | (go_at_call 18; refine (Calls.up (W := V9) hEf (S3.out _ _ _ _ _ (Y3.out _ hEf) hCf)).mono ?_; rintro eg wg ⟨rfl, hF⟩) | (go_at_call 18; refine (Calls.up (W := V9) hEd (S2.out _ _ _ _ _ (Y2.out _ hEd) hCd)).mono ?_; rintro eg wg ⟨rfl, hD⟩) | (go_at_call 18; refine (Calls.up (W := V9) hEb (S1.out _ _ _ _ _ (Y1.out _ hEb) hCb)).mono ?_; rintro eg wg ⟨rfl, hB⟩))
  go_wp2
  go_ret
  exact Ret.mk rfl (Y0.out _ hF)
/-- the law of the joins, whatever the arguments -/
theorem joins_c (N N2 : Int) (A B : Option Addr) (c d : Nat) (ws us : List Nat) (w : World) (hT : Tab w) (hC : Cells w A (u64s ws)) (hD : Cells w B (u64s us)) (hw : Wd ws) (hu : Wd us) :
    Calls Tryd.prog 6 #[.agg #[.int .i64 N, .slice A ws.length c], .agg #[.int .i64 N2, .slice B us.length d]] w (Ret w (.bool true)) := by
  by_cases hm : ws.length ≤ 20 ∧ us.length ≤ 20
  · cases h : (validB N ws && (validB N2 us && decide (N = N2)))
    · exact joins_bad N N2 A B c d ws us w hT hC hD hw hu hm.1 hm.2 h
    · obtain ⟨n, rfl, rfl, hv, hvu⟩ := both_valid h
      exact joins_good n A B c d ws us w hT hC hD hw hu hm.1 hm.2 hv hvu
  · exact joins_guard N N2 A B _ c _ d w hT (few2_guard _ _ (by omega))
end Go.Proofs.YtfinldppcdkeoaaDoor
