/-
  The order is total: plain facts, and the walk of the law Total.
  Conditions: words below 2^64.
-/
import Derived.Test.YtfinldppcdkeoaaDoorWp
namespace Go.Proofs.YtfinldppcdkeoaaDoor
open Go.RowKit Bm
theorem cmpS_range (n : Nat) (ws us : List Nat) : cmpS n ws us = 0 ∨ cmpS n ws us = 1 ∨ cmpS n ws us = -1 := by
  unfold cmpS
  split
  · exact .inr (.inr rfl)
  · split
    · exact .inr (.inl rfl)
    · exact fd_range _ _ _
theorem cmpS_neg (n : Nat) (ws us : List Nat) : cmpS n us ws = - cmpS n ws us := by
  unfold cmpS
  by_cases h1 : (mems n ws).length < (mems n us).length
  · rw [if_neg (by omega), if_pos h1, if_pos h1]; rfl
  · by_cases h2 : (mems n us).length < (mems n ws).length
    · rw [if_pos h2, if_neg h1, if_pos h2]
    · rw [if_neg h2, if_neg h1, if_neg h1, if_neg h2]; exact fd_neg _ _ _
theorem cmpS_zero {n : Nat} {ws us : List Nat} (hv : Valid n ws) (hu : Valid n us) (hw : Wd ws) (hwu : Wd us) (h : cmpS n ws us = 0) : ws = us := by
  unfold cmpS at h
  by_cases h1 : (mems n ws).length < (mems n us).length
  · rw [if_pos h1] at h; omega
  · rw [if_neg h1] at h
    by_cases h2 : (mems n us).length < (mems n ws).length
    · rw [if_pos h2] at h; omega
    · rw [if_neg h2] at h
      exact hv.ext hu hw hwu fun i hi => fd_zero h i (by simpa using hi)
theorem cmpS_self (n : Nat) (ws : List Nat) : cmpS n ws ws = 0 := by
  unfold cmpS
  rw [if_neg (Nat.lt_irrefl _), if_neg (Nat.lt_irrefl _)]
  exact fd_same fun _ _ => rfl
theorem cmpS_trans {n : Nat} {ws us vs : List Nat} (h : cmpS n ws us ≤ 0) (k : cmpS n us vs ≤ 0) : cmpS n ws vs ≤ 0 := by
  unfold cmpS at *
  by_cases h1 : (mems n ws).length < (mems n us).length
  · by_cases k1 : (mems n us).length < (mems n vs).length
    · rw [if_pos (by omega)]; omega
    · rw [if_neg k1] at k
      by_cases k2 : (mems n vs).length < (mems n us).length
      · rw [if_pos k2] at k; omega
      · rw [if_pos (by omega)]; omega
  · rw [if_neg h1] at h
    by_cases h2 : (mems n us).length < (mems n ws).length
    · rw [if_pos h2] at h; omega
    · rw [if_neg h2] at h
      by_cases k1 : (mems n us).length < (mems n vs).length
      · rw [if_pos (by omega)]; omega
      · rw [if_neg k1] at k
        by_cases k2 : (mems n vs).length < (mems n us).length
        · rw [if_pos k2] at k; omega
        · rw [if_neg k2] at k
          rw [if_neg (by omega), if_neg (by omega)]
          exact fd_trans h k
theorem sub_mems {n : Nat} {ws us : List Nat} (h : subS n ws us = true) : (mems n ws).Sublist (mems n us) := by
  have h' := (subS_iff n ws us).1 h
  have e : mems n ws = (mems n us).filter (bitAt ws) := by
    unfold mems
    rw [List.filter_filter]
    apply List.filter_congr
    intro i hi
    have := h' i (by simpa using hi)
    cases hb : bitAt ws i
    · simp
    · simp [this hb]
  rw [e]
  exact List.filter_sublist
theorem sub_le {n : Nat} {ws us : List Nat} (hv : Valid n ws) (hu : Valid n us) (hw : Wd ws) (hwu : Wd us) (h : subS n ws us = true) : cmpS n ws us ≤ 0 := by
  have hs := sub_mems h
  have hl := hs.length_le
  by_cases h1 : (mems n ws).length < (mems n us).length
  · unfold cmpS; rw [if_pos h1]; omega
  · have he := hs.eq_of_length (by omega)
    have : ws = us := hv.ext hu hw hwu fun i hi => by
      have h2 : i ∈ mems n ws ↔ i ∈ mems n us := by rw [he]
      rw [mem_mems, mem_mems] at h2
      rw [Bool.eq_iff_iff]
      simpa [hi] using h2
    rw [this, cmpS_self]; omega
theorem sub_or {n : Nat} {ws us : List Nat} (hv : Valid n ws) (hu : Valid n us) (hw : Wd ws) (hwu : Wd us) : decide (List.zipWith (fun x y => x ||| y) ws us = us) = subS n ws us := by
  have hl : ws.length = us.length := by rw [hv.len, hu.len]
  rw [Bool.eq_iff_iff, decide_eq_true_iff, subS_iff]
  constructor
  · intro h i _ hb
    rw [← h, bit_zip (g := fun x y => x || y) or_bits rfl hl, hb]; rfl
  · intro h
    refine (zip_valid (g := fun x y => x || y) or_bits rfl rfl hv hu).ext hu (zip_wd or_lt hw hwu) hwu fun i hi => ?_
    rw [bit_zip (g := fun x y => x || y) or_bits rfl hl]
    have := h i hi
    cases hb : bitAt ws i
    · simp
    · simp [this hb]
theorem sub_union {n : Nat} {ws us : List Nat} (hv : Valid n ws) (hu : Valid n us) : subS n ws (List.zipWith (fun x y => x ||| y) ws us) = true := by
  have hl : ws.length = us.length := by rw [hv.len, hu.len]
  rw [subS_iff]
  intro i _ hb
  rw [bit_zip (g := fun x y => x || y) or_bits rfl hl, hb]; rfl

set_option maxHeartbeats 800000 in
theorem total_few (N N2 N3 : Int) (A B C : Option Addr) (c d e : Nat) (ws us vs : List Nat) (w : World) (hT : Tab w) (h : (decide (ws.length ≤ 20) && (decide (us.length ≤ 20) && decide (vs.length ≤ 20))) = false) :
    Calls Tryd.prog 9 #[.agg #[.int .i64 N, .slice A ws.length c], .agg #[.int .i64 N2, .slice B us.length d], .agg #[.int .i64 N3, .slice C vs.length e]] w (Ret w (.bool true)) := by
  have HAw := Lib.hid (fun w' (hx : Ex w w') => awake_c w' (hT.ex hx))
  have HF := Lib.hid (fun w' g (hB : Blk w' g 24 [.int .i64 N, .slice A ws.length c, .int .i64 N2, .slice B us.length d, .int .i64 N3, .slice C vs.length e]) => few_three w' g 24 N N2 N3 A B C ws.length c us.length d vs.length e hB)
  rw [h] at HF
  clear hT h
  generalize ws.length = m at *
  generalize us.length = m2 at *
  generalize vs.length = m3 at *
  go_enter Tryd.func9, Tryd.ntmps9
  go_wp2_with fail
  refine (HAw.out _ (by repeat (first | exact Ex.refl _ | apply Ex.ext | apply Ex.alloc))).mono ?_
  rintro e' w' ⟨rfl, y, rfl⟩
  go_wp2_with fail
  refine (HF.out _ _ (Blk.new' (ext _ y) rfl 24 [.int .i64 N, .slice A m c, .int .i64 N2, .slice B m2 d, .int .i64 N3, .slice C m3 e])).mono ?_
  rintro e' w' ⟨rfl, hx⟩
  obtain ⟨z, rfl⟩ := Ex.trans (Ex.alloc ⟨y, rfl⟩ _) hx
  clear hx
  go_wp2_with fail
  refine (Calls.up (W := ((w.alloc (.cells #[.int .i64 N, .slice A m c] 24)).alloc (.cells #[.int .i64 N2, .slice B m2 d] 24)).alloc (.cells #[.int .i64 N3, .slice C m3 e] 24)) ⟨_, rfl⟩ (HAw.out _ (by repeat (first | exact Ex.refl _ | apply Ex.ext | apply Ex.alloc)))).mono ?_
  rintro e' w' ⟨rfl, zz, rfl⟩
  go_wp2
  go_ret
  exact Ret.mk rfl (((((Ex.refl _).alloc _).alloc _).alloc _).ext _)

set_option maxHeartbeats 800000 in
theorem total_ab (N N2 N3 : Int) (A B C : Option Addr) (c d e : Nat) (ws us vs : List Nat) (w : World) (hT : Tab w) (hC : Cells w A (u64s ws)) (hD : Cells w B (u64s us)) (_hE : Cells w C (u64s vs)) (hw : Wd ws) (hu : Wd us) (_hvs : Wd vs) (h20 : (decide (ws.length ≤ 20) && (decide (us.length ≤ 20) && decide (vs.length ≤ 20))) = true) (h : (validB N ws && (validB N2 us && decide (N = N2))) = false) :
    Calls Tryd.prog 9 #[.agg #[.int .i64 N, .slice A ws.length c], .agg #[.int .i64 N2, .slice B us.length d], .agg #[.int .i64 N3, .slice C vs.length e]] w (Ret w (.bool true)) := by
  have HAw := Lib.hid (fun w' (hx : Ex w w') => awake_c w' (hT.ex hx))
  have HF := Lib.hid (fun w' g (hB : Blk w' g 24 [.int .i64 N, .slice A ws.length c, .int .i64 N2, .slice B us.length d, .int .i64 N3, .slice C vs.length e]) => few_three w' g 24 N N2 N3 A B C ws.length c us.length d vs.length e hB)
  rw [h20] at HF
  have H29 := Lib.hid (fun w' (hx : Ex w w') => comparable_c N N2 A B c d ws us w' (hC.ex hx) (hD.ex hx) hw hu)
  rw [h] at H29
  clear hT h hC hD hw hu h20
  generalize ws.length = m at *
  generalize us.length = m2 at *
  generalize vs.length = m3 at *
  go_enter Tryd.func9, Tryd.ntmps9
  go_wp2_with fail
  refine (HAw.out _ (by repeat (first | exact Ex.refl _ | apply Ex.ext | apply Ex.alloc))).mono ?_
  rintro e' w' ⟨rfl, y, rfl⟩
  go_wp2_with fail
  refine (HF.out _ _ (Blk.new' (ext _ y) rfl 24 [.int .i64 N, .slice A m c, .int .i64 N2, .slice B m2 d, .int .i64 N3, .slice C m3 e])).mono ?_
  rintro e' w' ⟨rfl, hx⟩
  obtain ⟨z, rfl⟩ := Ex.trans (Ex.alloc ⟨y, rfl⟩ _) hx
  clear hx
  go_wp2_with fail
  refine (Calls.up (W := ((w.alloc (.cells #[.int .i64 N, .slice A m c] 24)).alloc (.cells #[.int .i64 N2, .slice B m2 d] 24)).alloc (.cells #[.int .i64 N3, .slice C m3 e] 24)) ⟨_, rfl⟩ (H29.out _ (by repeat (first | exact Ex.refl _ | apply Ex.ext | apply Ex.alloc)))).mono ?_
  rintro e' w' ⟨rfl, zz, rfl⟩
  go_wp2_with fail
  refine (Calls.up (W := ((w.alloc (.cells #[.int .i64 N, .slice A m c] 24)).alloc (.cells #[.int .i64 N2, .slice B m2 d] 24)).alloc (.cells #[.int .i64 N3, .slice C m3 e] 24)) ⟨_, rfl⟩ (HAw.out _ (by repeat (first | exact Ex.refl _ | apply Ex.ext | apply Ex.alloc)))).mono ?_
  rintro e' w' ⟨rfl, zz, rfl⟩
  go_wp2
  go_ret
  exact Ret.mk rfl (((((Ex.refl _).alloc _).alloc _).alloc _).ext _)

set_option maxHeartbeats 800000 in
theorem total_bc (N N2 N3 : Int) (A B C : Option Addr) (c d e : Nat) (ws us vs : List Nat) (w : World) (hT : Tab w) (hC : Cells w A (u64s ws)) (hD : Cells w B (u64s us)) (hE : Cells w C (u64s vs)) (hw : Wd ws) (hu : Wd us) (hvs : Wd vs) (h20 : (decide (ws.length ≤ 20) && (decide (us.length ≤ 20) && decide (vs.length ≤ 20))) = true) (h : (validB N ws && (validB N2 us && decide (N = N2))) = true) (h2 : (validB N2 us && (validB N3 vs && decide (N2 = N3))) = false) :
    Calls Tryd.prog 9 #[.agg #[.int .i64 N, .slice A ws.length c], .agg #[.int .i64 N2, .slice B us.length d], .agg #[.int .i64 N3, .slice C vs.length e]] w (Ret w (.bool true)) := by
  have HAw := Lib.hid (fun w' (hx : Ex w w') => awake_c w' (hT.ex hx))
  have HF := Lib.hid (fun w' g (hB : Blk w' g 24 [.int .i64 N, .slice A ws.length c, .int .i64 N2, .slice B us.length d, .int .i64 N3, .slice C vs.length e]) => few_three w' g 24 N N2 N3 A B C ws.length c us.length d vs.length e hB)
  rw [h20] at HF
  have H29 := Lib.hid (fun w' (hx : Ex w w') => comparable_c N N2 A B c d ws us w' (hC.ex hx) (hD.ex hx) hw hu)
  rw [h] at H29
  have H29b := Lib.hid (fun w' (hx : Ex w w') => comparable_c N2 N3 B C d e us vs w' (hD.ex hx) (hE.ex hx) hu hvs)
  rw [h2] at H29b
  clear hT h h2 hC hD hE hw hu hvs h20
  generalize ws.length = m at *
  generalize us.length = m2 at *
  generalize vs.length = m3 at *
  go_enter Tryd.func9, Tryd.ntmps9
  go_wp2_with fail
  refine (HAw.out _ (by repeat (first | exact Ex.refl _ | apply Ex.ext | apply Ex.alloc))).mono ?_
  rintro e' w' ⟨rfl, y, rfl⟩
  go_wp2_with fail
  refine (HF.out _ _ (Blk.new' (ext _ y) rfl 24 [.int .i64 N, .slice A m c, .int .i64 N2, .slice B m2 d, .int .i64 N3, .slice C m3 e])).mono ?_
  rintro e' w' ⟨rfl, hx⟩
  obtain ⟨z, rfl⟩ := Ex.trans (Ex.alloc ⟨y, rfl⟩ _) hx
  clear hx
  go_wp2_with fail
  refine (Calls.up (W := ((w.alloc (.cells #[.int .i64 N, .slice A m c] 24)).alloc (.cells #[.int .i64 N2, .slice B m2 d] 24)).alloc (.cells #[.int .i64 N3, .slice C m3 e] 24)) ⟨_, rfl⟩ (H29.out _ (by repeat (first | exact Ex.refl _ | apply Ex.ext | apply Ex.alloc)))).mono ?_
  rintro e' w' ⟨rfl, zz, rfl⟩
  go_wp2_with fail
  refine (Calls.up (W := ((w.alloc (.cells #[.int .i64 N, .slice A m c] 24)).alloc (.cells #[.int .i64 N2, .slice B m2 d] 24)).alloc (.cells #[.int .i64 N3, .slice C m3 e] 24)) ⟨_, rfl⟩ (H29b.out _ (by repeat (first | exact Ex.refl _ | apply Ex.ext | apply Ex.alloc)))).mono ?_
  rintro e' w' ⟨rfl, zz, rfl⟩
  go_wp2_with fail
  refine (Calls.up (W := ((w.alloc (.cells #[.int .i64 N, .slice A m c] 24)).alloc (.cells #[.int .i64 N2, .slice B m2 d] 24)).alloc (.cells #[.int .i64 N3, .slice C m3 e] 24)) ⟨_, rfl⟩ (HAw.out _ (by repeat (first | exact Ex.refl _ | apply Ex.ext | apply Ex.alloc)))).mono ?_
  rintro e' w' ⟨rfl, zz, rfl⟩
  go_wp2
  go_ret
  exact Ret.mk rfl (((((Ex.refl _).alloc _).alloc _).alloc _).ext _)

set_option maxHeartbeats 3200000 in
theorem total_m_t_t (n : Nat) (A B C : Option Addr) (c d e : Nat) (ws us vs : List Nat) (w : World) (hT : Tab w) (hC : Cells w A (u64s ws)) (hD : Cells w B (u64s us)) (hE : Cells w C (u64s vs)) (hw : Wd ws) (hu : Wd us) (hvs : Wd vs)
    (h20 : (decide (ws.length ≤ 20) && (decide (us.length ≤ 20) && decide (vs.length ≤ 20))) = true) (hv : Valid n ws) (hvu : Valid n us) (hvv : Valid n vs)
    (e1 : cmpS n ws us = -1) (e2 : cmpS n us ws = 1) (e3 : decide (ws = us) = false) (e4 : subS n ws us = true) (e5 : decide (List.zipWith (fun x y => x ||| y) ws us = us) = true) (h3 : cmpS n us vs ≤ 0) (h4 : cmpS n ws vs ≤ 0) :
    Calls Tryd.prog 9 #[.agg #[.int .i64 n, .slice A ws.length c], .agg #[.int .i64 n, .slice B us.length d], .agg #[.int .i64 n, .slice C vs.length e]] w (Ret w (.bool true)) := by
  have HAw := Lib.hid (fun w' (hx : Ex w w') => awake_c w' (hT.ex hx))
  have HF := Lib.hid (fun w' g (hB : Blk w' g 24 [.int .i64 n, .slice A ws.length c, .int .i64 n, .slice B us.length d, .int .i64 n, .slice C vs.length e]) => few_three w' g 24 n n n A B C ws.length c us.length d vs.length e hB)
  rw [h20] at HF
  have hm20 : ws.length ≤ 20 := by have := hv.len; have := hv.le; omega
  have b1 := (validB_iff n ws).2 ⟨n, rfl, hv⟩
  have b2 := (validB_iff n us).2 ⟨n, rfl, hvu⟩
  have b3 := (validB_iff n vs).2 ⟨n, rfl, hvv⟩
  have H29 := Lib.hid (fun w' (hx : Ex w w') => comparable_c n n A B c d ws us w' (hC.ex hx) (hD.ex hx) hw hu)
  rw [b1, b2, decide_eq_true (rfl : (n : Int) = n)] at H29
  have H29b := Lib.hid (fun w' (hx : Ex w w') => comparable_c n n B C d e us vs w' (hD.ex hx) (hE.ex hx) hu hvs)
  rw [b2, b3, decide_eq_true (rfl : (n : Int) = n)] at H29b
  have Hab := Lib.hid (fun w' (hx : Ex w w') => bCompare_ok n A B c d ws us w' (hC.ex hx) (hD.ex hx) hw hu hv hvu)
  have Hba := Lib.hid (fun w' (hx : Ex w w') => bCompare_ok n B A d c us ws w' (hD.ex hx) (hC.ex hx) hu hw hvu hv)
  have Hbc := Lib.hid (fun w' (hx : Ex w w') => bCompare_ok n B C d e us vs w' (hD.ex hx) (hE.ex hx) hu hvs hvu hvv)
  have Hac := Lib.hid (fun w' (hx : Ex w w') => bCompare_ok n A C c e ws vs w' (hC.ex hx) (hE.ex hx) hw hvs hv hvv)
  rw [e1] at Hab
  rw [e2] at Hba
  have Hsm := Lib.hid (fun w' (hx : Ex w w') => same_c n n A B c d ws us w' (hC.ex hx) (hD.ex hx) hm20)
  rw [decide_eq_true (rfl : (n : Int) = n), e3] at Hsm
  have HU := Lib.hid (fun w' (hx : Ex w w') => union_ok n A B c d ws us w' (hC.ex hx) (hD.ex hx) hw hu hv hvu)
  have hzv := zip_valid (g := fun x y => x || y) or_bits rfl rfl hv hvu
  have hzw := zip_wd or_lt hw hu
  have hz20 : (List.zipWith (fun x y => x ||| y) ws us).length ≤ 20 := by have := hzv.len; have := hzv.le; omega
  have Hau := Lib.hid (fun w' g (hx : Ex w w') (hB : Blk w' g 54 (u64s (List.zipWith (fun x y => x ||| y) ws us))) => bSubset_ok n A (some ⟨g, 0, none⟩) c (List.zipWith (fun x y => x ||| y) ws us).length ws (List.zipWith (fun x y => x ||| y) ws us) w' (hC.ex hx) hB.cells hw hzw hv hzv)
  rw [sub_union hv hvu] at Hau
  have Hsb := Lib.hid (fun w' (hx : Ex w w') => bSubset_ok n A B c d ws us w' (hC.ex hx) (hD.ex hx) hw hu hv hvu)
  rw [e4] at Hsb
  have Hub := Lib.hid (fun w' g (hx : Ex w w') (hB : Blk w' g 54 (u64s (List.zipWith (fun x y => x ||| y) ws us))) => same_c n n (some ⟨g, 0, none⟩) B (List.zipWith (fun x y => x ||| y) ws us).length d (List.zipWith (fun x y => x ||| y) ws us) us w' hB.cells (hD.ex hx) hz20)
  rw [decide_eq_true (rfl : (n : Int) = n), e5] at Hub
  clear hT hC hD hE hw hu hvs h20 hv hvu hvv e1 e2 e3 e4 e5 hm20 b1 b2 b3 hzv hzw hz20
  generalize List.zipWith (fun x y => x ||| y) ws us = zs at *
  generalize cmpS n us vs = q3 at *
  generalize cmpS n ws vs = q4 at *
  generalize ws.length = m at *
  generalize us.length = m2 at *
  generalize vs.length = m3 at *
  unfold cmpR at *
  go_enter Tryd.func9, Tryd.ntmps9
  go_wp2_with fail
  refine (HAw.out _ (by repeat (first | exact Ex.refl _ | apply Ex.ext | apply Ex.alloc))).mono ?_
  rintro e' w' ⟨rfl, y, rfl⟩
  go_wp2_with fail
  refine (HF.out _ _ (Blk.new' (ext _ y) rfl 24 [.int .i64 n, .slice A m c, .int .i64 n, .slice B m2 d, .int .i64 n, .slice C m3 e])).mono ?_
  rintro e' w' ⟨rfl, hx⟩
  obtain ⟨z, rfl⟩ := Ex.trans (Ex.alloc ⟨y, rfl⟩ _) hx
  clear hx
  go_wp2_with fail
  refine (Calls.up (W := ((w.alloc (.cells #[.int .i64 n, .slice A m c] 24)).alloc (.cells #[.int .i64 n, .slice B m2 d] 24)).alloc (.cells #[.int .i64 n, .slice C m3 e] 24)) ⟨_, rfl⟩ (H29.out _ (by repeat (first | exact Ex.refl _ | apply Ex.ext | apply Ex.alloc)))).mono ?_
  rintro e' w' ⟨rfl, zz, rfl⟩
  go_wp2_with fail
  refine (Calls.up (W := ((w.alloc (.cells #[.int .i64 n, .slice A m c] 24)).alloc (.cells #[.int .i64 n, .slice B m2 d] 24)).alloc (.cells #[.int .i64 n, .slice C m3 e] 24)) ⟨_, rfl⟩ (H29b.out _ (by repeat (first | exact Ex.refl _ | apply Ex.ext | apply Ex.alloc)))).mono ?_
  rintro e' w' ⟨rfl, zz, rfl⟩
  go_wp2_with fail
  refine (Calls.up (W := ((w.alloc (.cells #[.int .i64 n, .slice A m c] 24)).alloc (.cells #[.int .i64 n, .slice B m2 d] 24)).alloc (.cells #[.int .i64 n, .slice C m3 e] 24)) ⟨_, rfl⟩ (Hab.out _ (by repeat (first | exact Ex.refl _ | apply Ex.ext | apply Ex.alloc)))).mono ?_
  rintro e' w' ⟨rfl, zz, rfl⟩
  go_wp2_with fail
  refine (Calls.up (W := ((w.alloc (.cells #[.int .i64 n, .slice A m c] 24)).alloc (.cells #[.int .i64 n, .slice B m2 d] 24)).alloc (.cells #[.int .i64 n, .slice C m3 e] 24)) ⟨_, rfl⟩ (Hba.out _ (by repeat (first | exact Ex.refl _ | apply Ex.ext | apply Ex.alloc)))).mono ?_
  rintro e' w' ⟨rfl, zz, rfl⟩
  go_wp2_with fail
  refine (Calls.up (W := ((w.alloc (.cells #[.int .i64 n, .slice A m c] 24)).alloc (.cells #[.int .i64 n, .slice B m2 d] 24)).alloc (.cells #[.int .i64 n, .slice C m3 e] 24)) ⟨_, rfl⟩ (Hbc.out _ (by repeat (first | exact Ex.refl _ | apply Ex.ext | apply Ex.alloc)))).mono ?_
  rintro e' w' ⟨rfl, zz, rfl⟩
  go_wp2_with fail
  refine (Calls.up (W := ((w.alloc (.cells #[.int .i64 n, .slice A m c] 24)).alloc (.cells #[.int .i64 n, .slice B m2 d] 24)).alloc (.cells #[.int .i64 n, .slice C m3 e] 24)) ⟨_, rfl⟩ (Hac.out _ (by repeat (first | exact Ex.refl _ | apply Ex.ext | apply Ex.alloc)))).mono ?_
  rintro e' w' ⟨rfl, zz, rfl⟩
  go_wp2_with fail
  refine (Calls.up (W := ((w.alloc (.cells #[.int .i64 n, .slice A m c] 24)).alloc (.cells #[.int .i64 n, .slice B m2 d] 24)).alloc (.cells #[.int .i64 n, .slice C m3 e] 24)) ⟨_, rfl⟩ (Hsm.out _ (by repeat (first | exact Ex.refl _ | apply Ex.ext | apply Ex.alloc)))).mono ?_
  rintro e' w' ⟨rfl, zz, rfl⟩
  go_wp2_with fail
  refine (HU.out _ (by repeat (first | exact Ex.refl _ | apply Ex.ext | apply Ex.alloc))).mono ?_
  rintro e' w' ⟨g, rfl, hg, hB, hx⟩
  have hE := (((((Ex.refl w).alloc (.cells #[.int .i64 n, .slice A m c] 24)).alloc (.cells #[.int .i64 n, .slice B m2 d] 24)).alloc (.cells #[.int .i64 n, .slice C m3 e] 24)).ext _).trans hx
  have hS := ((((Blk.new w 24 [.int .i64 n, .slice A m c]).alloc (.cells #[.int .i64 n, .slice B m2 d] 24)).alloc (.cells #[.int .i64 n, .slice C m3 e] 24)).ex ⟨_, rfl⟩).ex hx
  have hS2 := (((Blk.new' (w.alloc (.cells #[.int .i64 n, .slice A m c] 24)) (g := w.heap.size + 1) (by simp) 24 [.int .i64 n, .slice B m2 d]).alloc (.cells #[.int .i64 n, .slice C m3 e] 24)).ex ⟨_, rfl⟩).ex hx
  clear hx hg
  have hE2 := hE.alloc (.cells #[.int .i64 n, .slice (some ⟨g, 0, none⟩) zs.length zs.length] 24)
  have hS3 := hS.alloc (.cells #[.int .i64 n, .slice (some ⟨g, 0, none⟩) zs.length zs.length] 24)
  have hS4 := hS2.alloc (.cells #[.int .i64 n, .slice (some ⟨g, 0, none⟩) zs.length zs.length] 24)
  have hB2 := hB.alloc (.cells #[.int .i64 n, .slice (some ⟨g, 0, none⟩) zs.length zs.length] 24)
  have hO := Blk.new w' 24 [.int .i64 n, .slice (some ⟨g, 0, none⟩) zs.length zs.length]
  have HX := Lib.hid (And.intro hE2 (And.intro hS3 (And.intro hS4 (And.intro hB2 hO))))
  clear hE hS hS2 hB hE2 hS3 hS4 hB2 hO HU
  go_wp2
  generalize hW4 : w'.alloc (.cells #[.int .i64 n, .slice (some ⟨g, 0, none⟩) zs.length zs.length] 24) = W4 at *
  generalize w'.heap.size = b15 at *
  obtain ⟨hE2, hS3, hS4, hB2, hO⟩ := HX.out
  clear hW4 HX
  have l0 := hS3.lt
  have l1 := hS4.lt
  have l2 := hO.lt
  have f0 := hS3.cell 0
  have f1 := hS3.cell 1
  have f2 := hS4.cell 0
  have f3 := hS4.cell 1
  have f4 := hO.cell 0
  have f5 := hO.cell 1
  simp only [List.getElem?_cons_zero, List.getElem?_cons_succ] at f0 f1 f2 f3 f4 f5
  have HEx := Lib.hid (fun z : Up W4 => hE2.ext z)
  have HBx := Lib.hid (fun z : Up W4 => hB2.ex ⟨z, rfl⟩)
  clear hE2 hS3 hS4 hB2 hO
  refine wp_region_ext (by kernel_rfl) (by kernel_rfl) ?_
  repeat (go_big_quiet_step (fail))
  go_big_quiet_step ((go_at_call 27; exact quiet_ext (Hau.out _ _ (HEx.out _) (HBx.out _))))
  repeat (go_big_quiet_step (fail))
  go_big_quiet_step ((go_at_call 27; exact quiet_ext (Hsb.out _ (HEx.out _))))
  repeat (go_big_quiet_step (fail))
  go_big_quiet_step ((go_at_call 18; exact quiet_ext (Hub.out _ _ (HEx.out _) (HBx.out _))))
  repeat (go_big_quiet_step (fail))
  go_big_quiet_step ((go_at_call 27; exact quiet_ext (Hsb.out _ (HEx.out _))))
  repeat (go_big_quiet_step (fail))
  refine wpQuiet_end (fun z => ?_)
  go_wp2
  go_ret
  exact Ret.mk rfl (HEx.out _)

set_option maxHeartbeats 3200000 in
theorem total_m_t_f (n : Nat) (A B C : Option Addr) (c d e : Nat) (ws us vs : List Nat) (w : World) (hT : Tab w) (hC : Cells w A (u64s ws)) (hD : Cells w B (u64s us)) (hE : Cells w C (u64s vs)) (hw : Wd ws) (hu : Wd us) (hvs : Wd vs)
    (h20 : (decide (ws.length ≤ 20) && (decide (us.length ≤ 20) && decide (vs.length ≤ 20))) = true) (hv : Valid n ws) (hvu : Valid n us) (hvv : Valid n vs)
    (e1 : cmpS n ws us = -1) (e2 : cmpS n us ws = 1) (e3 : decide (ws = us) = false) (e4 : subS n ws us = true) (e5 : decide (List.zipWith (fun x y => x ||| y) ws us = us) = true) (h3 : 0 < cmpS n us vs) :
    Calls Tryd.prog 9 #[.agg #[.int .i64 n, .slice A ws.length c], .agg #[.int .i64 n, .slice B us.length d], .agg #[.int .i64 n, .slice C vs.length e]] w (Ret w (.bool true)) := by
  have HAw := Lib.hid (fun w' (hx : Ex w w') => awake_c w' (hT.ex hx))
  have HF := Lib.hid (fun w' g (hB : Blk w' g 24 [.int .i64 n, .slice A ws.length c, .int .i64 n, .slice B us.length d, .int .i64 n, .slice C vs.length e]) => few_three w' g 24 n n n A B C ws.length c us.length d vs.length e hB)
  rw [h20] at HF
  have hm20 : ws.length ≤ 20 := by have := hv.len; have := hv.le; omega
  have b1 := (validB_iff n ws).2 ⟨n, rfl, hv⟩
  have b2 := (validB_iff n us).2 ⟨n, rfl, hvu⟩
  have b3 := (validB_iff n vs).2 ⟨n, rfl, hvv⟩
  have H29 := Lib.hid (fun w' (hx : Ex w w') => comparable_c n n A B c d ws us w' (hC.ex hx) (hD.ex hx) hw hu)
  rw [b1, b2, decide_eq_true (rfl : (n : Int) = n)] at H29
  have H29b := Lib.hid (fun w' (hx : Ex w w') => comparable_c n n B C d e us vs w' (hD.ex hx) (hE.ex hx) hu hvs)
  rw [b2, b3, decide_eq_true (rfl : (n : Int) = n)] at H29b
  have Hab := Lib.hid (fun w' (hx : Ex w w') => bCompare_ok n A B c d ws us w' (hC.ex hx) (hD.ex hx) hw hu hv hvu)
  have Hba := Lib.hid (fun w' (hx : Ex w w') => bCompare_ok n B A d c us ws w' (hD.ex hx) (hC.ex hx) hu hw hvu hv)
  have Hbc := Lib.hid (fun w' (hx : Ex w w') => bCompare_ok n B C d e us vs w' (hD.ex hx) (hE.ex hx) hu hvs hvu hvv)
  have Hac := Lib.hid (fun w' (hx : Ex w w') => bCompare_ok n A C c e ws vs w' (hC.ex hx) (hE.ex hx) hw hvs hv hvv)
  rw [e1] at Hab
  rw [e2] at Hba
  have Hsm := Lib.hid (fun w' (hx : Ex w w') => same_c n n A B c d ws us w' (hC.ex hx) (hD.ex hx) hm20)
  rw [decide_eq_true (rfl : (n : Int) = n), e3] at Hsm
  have HU := Lib.hid (fun w' (hx : Ex w w') => union_ok n A B c d ws us w' (hC.ex hx) (hD.ex hx) hw hu hv hvu)
  have hzv := zip_valid (g := fun x y => x || y) or_bits rfl rfl hv hvu
  have hzw := zip_wd or_lt hw hu
  have hz20 : (List.zipWith (fun x y => x ||| y) ws us).length ≤ 20 := by have := hzv.len; have := hzv.le; omega
  have Hau := Lib.hid (fun w' g (hx : Ex w w') (hB : Blk w' g 54 (u64s (List.zipWith (fun x y => x ||| y) ws us))) => bSubset_ok n A (some ⟨g, 0, none⟩) c (List.zipWith (fun x y => x ||| y) ws us).length ws (List.zipWith (fun x y => x ||| y) ws us) w' (hC.ex hx) hB.cells hw hzw hv hzv)
  rw [sub_union hv hvu] at Hau
  have Hsb := Lib.hid (fun w' (hx : Ex w w') => bSubset_ok n A B c d ws us w' (hC.ex hx) (hD.ex hx) hw hu hv hvu)
  rw [e4] at Hsb
  have Hub := Lib.hid (fun w' g (hx : Ex w w') (hB : Blk w' g 54 (u64s (List.zipWith (fun x y => x ||| y) ws us))) => same_c n n (some ⟨g, 0, none⟩) B (List.zipWith (fun x y => x ||| y) ws us).length d (List.zipWith (fun x y => x ||| y) ws us) us w' hB.cells (hD.ex hx) hz20)
  rw [decide_eq_true (rfl : (n : Int) = n), e5] at Hub
  clear hT hC hD hE hw hu hvs h20 hv hvu hvv e1 e2 e3 e4 e5 hm20 b1 b2 b3 hzv hzw hz20
  generalize List.zipWith (fun x y => x ||| y) ws us = zs at *
  generalize cmpS n us vs = q3 at *
  generalize cmpS n ws vs = q4 at *
  generalize ws.length = m at *
  generalize us.length = m2 at *
  generalize vs.length = m3 at *
  unfold cmpR at *
  go_enter Tryd.func9, Tryd.ntmps9
  go_wp2_with fail
  refine (HAw.out _ (by repeat (first | exact Ex.refl _ | apply Ex.ext | apply Ex.alloc))).mono ?_
  rintro e' w' ⟨rfl, y, rfl⟩
  go_wp2_with fail
  refine (HF.out _ _ (Blk.new' (ext _ y) rfl 24 [.int .i64 n, .slice A m c, .int .i64 n, .slice B m2 d, .int .i64 n, .slice C m3 e])).mono ?_
  rintro e' w' ⟨rfl, hx⟩
  obtain ⟨z, rfl⟩ := Ex.trans (Ex.alloc ⟨y, rfl⟩ _) hx
  clear hx
  go_wp2_with fail
  refine (Calls.up (W := ((w.alloc (.cells #[.int .i64 n, .slice A m c] 24)).alloc (.cells #[.int .i64 n, .slice B m2 d] 24)).alloc (.cells #[.int .i64 n, .slice C m3 e] 24)) ⟨_, rfl⟩ (H29.out _ (by repeat (first | exact Ex.refl _ | apply Ex.ext | apply Ex.alloc)))).mono ?_
  rintro e' w' ⟨rfl, zz, rfl⟩
  go_wp2_with fail
  refine (Calls.up (W := ((w.alloc (.cells #[.int .i64 n, .slice A m c] 24)).alloc (.cells #[.int .i64 n, .slice B m2 d] 24)).alloc (.cells #[.int .i64 n, .slice C m3 e] 24)) ⟨_, rfl⟩ (H29b.out _ (by repeat (first | exact Ex.refl _ | apply Ex.ext | apply Ex.alloc)))).mono ?_
  rintro e' w' ⟨rfl, zz, rfl⟩
  go_wp2_with fail
  refine (Calls.up (W := ((w.alloc (.cells #[.int .i64 n, .slice A m c] 24)).alloc (.cells #[.int .i64 n, .slice B m2 d] 24)).alloc (.cells #[.int .i64 n, .slice C m3 e] 24)) ⟨_, rfl⟩ (Hab.out _ (by repeat (first | exact Ex.refl _ | apply Ex.ext | apply Ex.alloc)))).mono ?_
  rintro e' w' ⟨rfl, zz, rfl⟩
  go_wp2_with fail
  refine (Calls.up (W := ((w.alloc (.cells #[.int .i64 n, .slice A m c] 24)).alloc (.cells #[.int .i64 n, .slice B m2 d] 24)).alloc (.cells #[.int .i64 n, .slice C m3 e] 24)) ⟨_, rfl⟩ (Hba.out _ (by repeat (first | exact Ex.refl _ | apply Ex.ext | apply Ex.alloc)))).mono ?_
  rintro e' w' ⟨rfl, zz, rfl⟩
  go_wp2_with fail
  refine (Calls.up (W := ((w.alloc (.cells #[.int .i64 n, .slice A m c] 24)).alloc (.cells #[.int .i64 n, .slice B m2 d] 24)).alloc (.cells #[.int .i64 n, .slice C m3 e] 24)) ⟨_, rfl⟩ (Hbc.out _ (by repeat (first | exact Ex.refl _ | apply Ex.ext | apply Ex.alloc)))).mono ?_
  rintro e' w' ⟨rfl, zz, rfl⟩
  go_wp2_with fail
  refine (Calls.up (W := ((w.alloc (.cells #[.int .i64 n, .slice A m c] 24)).alloc (.cells #[.int .i64 n, .slice B m2 d] 24)).alloc (.cells #[.int .i64 n, .slice C m3 e] 24)) ⟨_, rfl⟩ (Hac.out _ (by repeat (first | exact Ex.refl _ | apply Ex.ext | apply Ex.alloc)))).mono ?_
  rintro e' w' ⟨rfl, zz, rfl⟩
  go_wp2_with fail
  refine (Calls.up (W := ((w.alloc (.cells #[.int .i64 n, .slice A m c] 24)).alloc (.cells #[.int .i64 n, .slice B m2 d] 24)).alloc (.cells #[.int .i64 n, .slice C m3 e] 24)) ⟨_, rfl⟩ (Hsm.out _ (by repeat (first | exact Ex.refl _ | apply Ex.ext | apply Ex.alloc)))).mono ?_
  rintro e' w' ⟨rfl, zz, rfl⟩
  go_wp2_with fail
  refine (HU.out _ (by repeat (first | exact Ex.refl _ | apply Ex.ext | apply Ex.alloc))).mono ?_
  rintro e' w' ⟨g, rfl, hg, hB, hx⟩
  have hE := (((((Ex.refl w).alloc (.cells #[.int .i64 n, .slice A m c] 24)).alloc (.cells #[.int .i64 n, .slice B m2 d] 24)).alloc (.cells #[.int .i64 n, .slice C m3 e] 24)).ext _).trans hx
  have hS := ((((Blk.new w 24 [.int .i64 n, .slice A m c]).alloc (.cells #[.int .i64 n, .slice B m2 d] 24)).alloc (.cells #[.int .i64 n, .slice C m3 e] 24)).ex ⟨_, rfl⟩).ex hx
  have hS2 := (((Blk.new' (w.alloc (.cells #[.int .i64 n, .slice A m c] 24)) (g := w.heap.size + 1) (by simp) 24 [.int .i64 n, .slice B m2 d]).alloc (.cells #[.int .i64 n, .slice C m3 e] 24)).ex ⟨_, rfl⟩).ex hx
  clear hx hg
  have hE2 := hE.alloc (.cells #[.int .i64 n, .slice (some ⟨g, 0, none⟩) zs.length zs.length] 24)
  have hS3 := hS.alloc (.cells #[.int .i64 n, .slice (some ⟨g, 0, none⟩) zs.length zs.length] 24)
  have hS4 := hS2.alloc (.cells #[.int .i64 n, .slice (some ⟨g, 0, none⟩) zs.length zs.length] 24)
  have hB2 := hB.alloc (.cells #[.int .i64 n, .slice (some ⟨g, 0, none⟩) zs.length zs.length] 24)
  have hO := Blk.new w' 24 [.int .i64 n, .slice (some ⟨g, 0, none⟩) zs.length zs.length]
  have HX := Lib.hid (And.intro hE2 (And.intro hS3 (And.intro hS4 (And.intro hB2 hO))))
  clear hE hS hS2 hB hE2 hS3 hS4 hB2 hO HU
  go_wp2
  generalize hW4 : w'.alloc (.cells #[.int .i64 n, .slice (some ⟨g, 0, none⟩) zs.length zs.length] 24) = W4 at *
  generalize w'.heap.size = b15 at *
  obtain ⟨hE2, hS3, hS4, hB2, hO⟩ := HX.out
  clear hW4 HX
  have l0 := hS3.lt
  have l1 := hS4.lt
  have l2 := hO.lt
  have f0 := hS3.cell 0
  have f1 := hS3.cell 1
  have f2 := hS4.cell 0
  have f3 := hS4.cell 1
  have f4 := hO.cell 0
  have f5 := hO.cell 1
  simp only [List.getElem?_cons_zero, List.getElem?_cons_succ] at f0 f1 f2 f3 f4 f5
  have HEx := Lib.hid (fun z : Up W4 => hE2.ext z)
  have HBx := Lib.hid (fun z : Up W4 => hB2.ex ⟨z, rfl⟩)
  clear hE2 hS3 hS4 hB2 hO
  refine wp_region_ext (by kernel_rfl) (by kernel_rfl) ?_
  repeat (go_big_quiet_step (fail))
  go_big_quiet_step ((go_at_call 27; exact quiet_ext (Hau.out _ _ (HEx.out _) (HBx.out _))))
  repeat (go_big_quiet_step (fail))
  go_big_quiet_step ((go_at_call 27; exact quiet_ext (Hsb.out _ (HEx.out _))))
  repeat (go_big_quiet_step (fail))
  go_big_quiet_step ((go_at_call 18; exact quiet_ext (Hub.out _ _ (HEx.out _) (HBx.out _))))
  repeat (go_big_quiet_step (fail))
  go_big_quiet_step ((go_at_call 27; exact quiet_ext (Hsb.out _ (HEx.out _))))
  repeat (go_big_quiet_step (fail))
  refine wpQuiet_end (fun z => ?_)
  go_wp2
  go_ret
  exact Ret.mk rfl (HEx.out _)

set_option maxHeartbeats 3200000 in
theorem total_m_f_t (n : Nat) (A B C : Option Addr) (c d e : Nat) (ws us vs : List Nat) (w : World) (hT : Tab w) (hC : Cells w A (u64s ws)) (hD : Cells w B (u64s us)) (hE : Cells w C (u64s vs)) (hw : Wd ws) (hu : Wd us) (hvs : Wd vs)
    (h20 : (decide (ws.length ≤ 20) && (decide (us.length ≤ 20) && decide (vs.length ≤ 20))) = true) (hv : Valid n ws) (hvu : Valid n us) (hvv : Valid n vs)
    (e1 : cmpS n ws us = -1) (e2 : cmpS n us ws = 1) (e3 : decide (ws = us) = false) (e4 : subS n ws us = false) (e5 : decide (List.zipWith (fun x y => x ||| y) ws us = us) = false) (h3 : cmpS n us vs ≤ 0) (h4 : cmpS n ws vs ≤ 0) :
    Calls Tryd.prog 9 #[.agg #[.int .i64 n, .slice A ws.length c], .agg #[.int .i64 n, .slice B us.length d], .agg #[.int .i64 n, .slice C vs.length e]] w (Ret w (.bool true)) := by
  have HAw := Lib.hid (fun w' (hx : Ex w w') => awake_c w' (hT.ex hx))
  have HF := Lib.hid (fun w' g (hB : Blk w' g 24 [.int .i64 n, .slice A ws.length c, .int .i64 n, .slice B us.length d, .int .i64 n, .slice C vs.length e]) => few_three w' g 24 n n n A B C ws.length c us.length d vs.length e hB)
  rw [h20] at HF
  have hm20 : ws.length ≤ 20 := by have := hv.len; have := hv.le; omega
  have b1 := (validB_iff n ws).2 ⟨n, rfl, hv⟩
  have b2 := (validB_iff n us).2 ⟨n, rfl, hvu⟩
  have b3 := (validB_iff n vs).2 ⟨n, rfl, hvv⟩
  have H29 := Lib.hid (fun w' (hx : Ex w w') => comparable_c n n A B c d ws us w' (hC.ex hx) (hD.ex hx) hw hu)
  rw [b1, b2, decide_eq_true (rfl : (n : Int) = n)] at H29
  have H29b := Lib.hid (fun w' (hx : Ex w w') => comparable_c n n B C d e us vs w' (hD.ex hx) (hE.ex hx) hu hvs)
  rw [b2, b3, decide_eq_true (rfl : (n : Int) = n)] at H29b
  have Hab := Lib.hid (fun w' (hx : Ex w w') => bCompare_ok n A B c d ws us w' (hC.ex hx) (hD.ex hx) hw hu hv hvu)
  have Hba := Lib.hid (fun w' (hx : Ex w w') => bCompare_ok n B A d c us ws w' (hD.ex hx) (hC.ex hx) hu hw hvu hv)
  have Hbc := Lib.hid (fun w' (hx : Ex w w') => bCompare_ok n B C d e us vs w' (hD.ex hx) (hE.ex hx) hu hvs hvu hvv)
  have Hac := Lib.hid (fun w' (hx : Ex w w') => bCompare_ok n A C c e ws vs w' (hC.ex hx) (hE.ex hx) hw hvs hv hvv)
  rw [e1] at Hab
  rw [e2] at Hba
  have Hsm := Lib.hid (fun w' (hx : Ex w w') => same_c n n A B c d ws us w' (hC.ex hx) (hD.ex hx) hm20)
  rw [decide_eq_true (rfl : (n : Int) = n), e3] at Hsm
  have HU := Lib.hid (fun w' (hx : Ex w w') => union_ok n A B c d ws us w' (hC.ex hx) (hD.ex hx) hw hu hv hvu)
  have hzv := zip_valid (g := fun x y => x || y) or_bits rfl rfl hv hvu
  have hzw := zip_wd or_lt hw hu
  have hz20 : (List.zipWith (fun x y => x ||| y) ws us).length ≤ 20 := by have := hzv.len; have := hzv.le; omega
  have Hau := Lib.hid (fun w' g (hx : Ex w w') (hB : Blk w' g 54 (u64s (List.zipWith (fun x y => x ||| y) ws us))) => bSubset_ok n A (some ⟨g, 0, none⟩) c (List.zipWith (fun x y => x ||| y) ws us).length ws (List.zipWith (fun x y => x ||| y) ws us) w' (hC.ex hx) hB.cells hw hzw hv hzv)
  rw [sub_union hv hvu] at Hau
  have Hsb := Lib.hid (fun w' (hx : Ex w w') => bSubset_ok n A B c d ws us w' (hC.ex hx) (hD.ex hx) hw hu hv hvu)
  rw [e4] at Hsb
  have Hub := Lib.hid (fun w' g (hx : Ex w w') (hB : Blk w' g 54 (u64s (List.zipWith (fun x y => x ||| y) ws us))) => same_c n n (some ⟨g, 0, none⟩) B (List.zipWith (fun x y => x ||| y) ws us).length d (List.zipWith (fun x y => x ||| y) ws us) us w' hB.cells (hD.ex hx) hz20)
  rw [decide_eq_true (rfl : (n : Int) = n), e5] at Hub
  clear hT hC hD hE hw hu hvs h20 hv hvu hvv e1 e2 e3 e4 e5 hm20 b1 b2 b3 hzv hzw hz20
  generalize List.zipWith (fun x y => x ||| y) ws us = zs at *
  generalize cmpS n us vs = q3 at *
  generalize cmpS n ws vs = q4 at *
  generalize ws.length = m at *
  generalize us.length = m2 at *
  generalize vs.length = m3 at *
  unfold cmpR at *
  go_enter Tryd.func9, Tryd.ntmps9
  go_wp2_with fail
  refine (HAw.out _ (by repeat (first | exact Ex.refl _ | apply Ex.ext | apply Ex.alloc))).mono ?_
  rintro e' w' ⟨rfl, y, rfl⟩
  go_wp2_with fail
  refine (HF.out _ _ (Blk.new' (ext _ y) rfl 24 [.int .i64 n, .slice A m c, .int .i64 n, .slice B m2 d, .int .i64 n, .slice C m3 e])).mono ?_
  rintro e' w' ⟨rfl, hx⟩
  obtain ⟨z, rfl⟩ := Ex.trans (Ex.alloc ⟨y, rfl⟩ _) hx
  clear hx
  go_wp2_with fail
  refine (Calls.up (W := ((w.alloc (.cells #[.int .i64 n, .slice A m c] 24)).alloc (.cells #[.int .i64 n, .slice B m2 d] 24)).alloc (.cells #[.int .i64 n, .slice C m3 e] 24)) ⟨_, rfl⟩ (H29.out _ (by repeat (first | exact Ex.refl _ | apply Ex.ext | apply Ex.alloc)))).mono ?_
  rintro e' w' ⟨rfl, zz, rfl⟩
  go_wp2_with fail
  refine (Calls.up (W := ((w.alloc (.cells #[.int .i64 n, .slice A m c] 24)).alloc (.cells #[.int .i64 n, .slice B m2 d] 24)).alloc (.cells #[.int .i64 n, .slice C m3 e] 24)) ⟨_, rfl⟩ (H29b.out _ (by repeat (first | exact Ex.refl _ | apply Ex.ext | apply Ex.alloc)))).mono ?_
  rintro e' w' ⟨rfl, zz, rfl⟩
  go_wp2_with fail
  refine (Calls.up (W := ((w.alloc (.cells #[.int .i64 n, .slice A m c] 24)).alloc (.cells #[.int .i64 n, .slice B m2 d] 24)).alloc (.cells #[.int .i64 n, .slice C m3 e] 24)) ⟨_, rfl⟩ (Hab.out _ (by repeat (first | exact Ex.refl _ | apply Ex.ext | apply Ex.alloc)))).mono ?_
  rintro e' w' ⟨rfl, zz, rfl⟩
  go_wp2_with fail
  refine (Calls.up (W := ((w.alloc (.cells #[.int .i64 n, .slice A m c] 24)).alloc (.cells #[.int .i64 n, .slice B m2 d] 24)).alloc (.cells #[.int .i64 n, .slice C m3 e] 24)) ⟨_, rfl⟩ (Hba.out _ (by repeat (first | exact Ex.refl _ | apply Ex.ext | apply Ex.alloc)))).mono ?_
  rintro e' w' ⟨rfl, zz, rfl⟩
  go_wp2_with fail
  refine (Calls.up (W := ((w.alloc (.cells #[.int .i64 n, .slice A m c] 24)).alloc (.cells #[.int .i64 n, .slice B m2 d] 24)).alloc (.cells #[.int .i64 n, .slice C m3 e] 24)) ⟨_, rfl⟩ (Hbc.out _ (by repeat (first | exact Ex.refl _ | apply Ex.ext | apply Ex.alloc)))).mono ?_
  rintro e' w' ⟨rfl, zz, rfl⟩
  go_wp2_with fail
  refine (Calls.up (W := ((w.alloc (.cells #[.int .i64 n, .slice A m c] 24)).alloc (.cells #[.int .i64 n, .slice B m2 d] 24)).alloc (.cells #[.int .i64 n, .slice C m3 e] 24)) ⟨_, rfl⟩ (Hac.out _ (by repeat (first | exact Ex.refl _ | apply Ex.ext | apply Ex.alloc)))).mono ?_
  rintro e' w' ⟨rfl, zz, rfl⟩
  go_wp2_with fail
  refine (Calls.up (W := ((w.alloc (.cells #[.int .i64 n, .slice A m c] 24)).alloc (.cells #[.int .i64 n, .slice B m2 d] 24)).alloc (.cells #[.int .i64 n, .slice C m3 e] 24)) ⟨_, rfl⟩ (Hsm.out _ (by repeat (first | exact Ex.refl _ | apply Ex.ext | apply Ex.alloc)))).mono ?_
  rintro e' w' ⟨rfl, zz, rfl⟩
  go_wp2_with fail
  refine (HU.out _ (by repeat (first | exact Ex.refl _ | apply Ex.ext | apply Ex.alloc))).mono ?_
  rintro e' w' ⟨g, rfl, hg, hB, hx⟩
  have hE := (((((Ex.refl w).alloc (.cells #[.int .i64 n, .slice A m c] 24)).alloc (.cells #[.int .i64 n, .slice B m2 d] 24)).alloc (.cells #[.int .i64 n, .slice C m3 e] 24)).ext _).trans hx
  have hS := ((((Blk.new w 24 [.int .i64 n, .slice A m c]).alloc (.cells #[.int .i64 n, .slice B m2 d] 24)).alloc (.cells #[.int .i64 n, .slice C m3 e] 24)).ex ⟨_, rfl⟩).ex hx
  have hS2 := (((Blk.new' (w.alloc (.cells #[.int .i64 n, .slice A m c] 24)) (g := w.heap.size + 1) (by simp) 24 [.int .i64 n, .slice B m2 d]).alloc (.cells #[.int .i64 n, .slice C m3 e] 24)).ex ⟨_, rfl⟩).ex hx
  clear hx hg
  have hE2 := hE.alloc (.cells #[.int .i64 n, .slice (some ⟨g, 0, none⟩) zs.length zs.length] 24)
  have hS3 := hS.alloc (.cells #[.int .i64 n, .slice (some ⟨g, 0, none⟩) zs.length zs.length] 24)
  have hS4 := hS2.alloc (.cells #[.int .i64 n, .slice (some ⟨g, 0, none⟩) zs.length zs.length] 24)
  have hB2 := hB.alloc (.cells #[.int .i64 n, .slice (some ⟨g, 0, none⟩) zs.length zs.length] 24)
  have hO := Blk.new w' 24 [.int .i64 n, .slice (some ⟨g, 0, none⟩) zs.length zs.length]
  have HX := Lib.hid (And.intro hE2 (And.intro hS3 (And.intro hS4 (And.intro hB2 hO))))
  clear hE hS hS2 hB hE2 hS3 hS4 hB2 hO HU
  go_wp2
  generalize hW4 : w'.alloc (.cells #[.int .i64 n, .slice (some ⟨g, 0, none⟩) zs.length zs.length] 24) = W4 at *
  generalize w'.heap.size = b15 at *
  obtain ⟨hE2, hS3, hS4, hB2, hO⟩ := HX.out
  clear hW4 HX
  have l0 := hS3.lt
  have l1 := hS4.lt
  have l2 := hO.lt
  have f0 := hS3.cell 0
  have f1 := hS3.cell 1
  have f2 := hS4.cell 0
  have f3 := hS4.cell 1
  have f4 := hO.cell 0
  have f5 := hO.cell 1
  simp only [List.getElem?_cons_zero, List.getElem?_cons_succ] at f0 f1 f2 f3 f4 f5
  have HEx := Lib.hid (fun z : Up W4 => hE2.ext z)
  have HBx := Lib.hid (fun z : Up W4 => hB2.ex ⟨z, rfl⟩)
  clear hE2 hS3 hS4 hB2 hO
  refine wp_region_ext (by kernel_rfl) (by kernel_rfl) ?_
  repeat (go_big_quiet_step (fail))
  go_big_quiet_step ((go_at_call 27; exact quiet_ext (Hau.out _ _ (HEx.out _) (HBx.out _))))
  repeat (go_big_quiet_step (fail))
  go_big_quiet_step ((go_at_call 27; exact quiet_ext (Hsb.out _ (HEx.out _))))
  repeat (go_big_quiet_step (fail))
  go_big_quiet_step ((go_at_call 18; exact quiet_ext (Hub.out _ _ (HEx.out _) (HBx.out _))))
  repeat (go_big_quiet_step (fail))
  go_big_quiet_step ((go_at_call 27; exact quiet_ext (Hsb.out _ (HEx.out _))))
  repeat (go_big_quiet_step (fail))
  refine wpQuiet_end (fun z => ?_)
  go_wp2
  go_ret
  exact Ret.mk rfl (HEx.out _)

set_option maxHeartbeats 3200000 in
theorem total_m_f_f (n : Nat) (A B C : Option Addr) (c d e : Nat) (ws us vs : List Nat) (w : World) (hT : Tab w) (hC : Cells w A (u64s ws)) (hD : Cells w B (u64s us)) (hE : Cells w C (u64s vs)) (hw : Wd ws) (hu : Wd us) (hvs : Wd vs)
    (h20 : (decide (ws.length ≤ 20) && (decide (us.length ≤ 20) && decide (vs.length ≤ 20))) = true) (hv : Valid n ws) (hvu : Valid n us) (hvv : Valid n vs)
    (e1 : cmpS n ws us = -1) (e2 : cmpS n us ws = 1) (e3 : decide (ws = us) = false) (e4 : subS n ws us = false) (e5 : decide (List.zipWith (fun x y => x ||| y) ws us = us) = false) (h3 : 0 < cmpS n us vs) :
    Calls Tryd.prog 9 #[.agg #[.int .i64 n, .slice A ws.length c], .agg #[.int .i64 n, .slice B us.length d], .agg #[.int .i64 n, .slice C vs.length e]] w (Ret w (.bool true)) := by
  have HAw := Lib.hid (fun w' (hx : Ex w w') => awake_c w' (hT.ex hx))
  have HF := Lib.hid (fun w' g (hB : Blk w' g 24 [.int .i64 n, .slice A ws.length c, .int .i64 n, .slice B us.length d, .int .i64 n, .slice C vs.length e]) => few_three w' g 24 n n n A B C ws.length c us.length d vs.length e hB)
  rw [h20] at HF
  have hm20 : ws.length ≤ 20 := by have := hv.len; have := hv.le; omega
  have b1 := (validB_iff n ws).2 ⟨n, rfl, hv⟩
  have b2 := (validB_iff n us).2 ⟨n, rfl, hvu⟩
  have b3 := (validB_iff n vs).2 ⟨n, rfl, hvv⟩
  have H29 := Lib.hid (fun w' (hx : Ex w w') => comparable_c n n A B c d ws us w' (hC.ex hx) (hD.ex hx) hw hu)
  rw [b1, b2, decide_eq_true (rfl : (n : Int) = n)] at H29
  have H29b := Lib.hid (fun w' (hx : Ex w w') => comparable_c n n B C d e us vs w' (hD.ex hx) (hE.ex hx) hu hvs)
  rw [b2, b3, decide_eq_true (rfl : (n : Int) = n)] at H29b
  have Hab := Lib.hid (fun w' (hx : Ex w w') => bCompare_ok n A B c d ws us w' (hC.ex hx) (hD.ex hx) hw hu hv hvu)
  have Hba := Lib.hid (fun w' (hx : Ex w w') => bCompare_ok n B A d c us ws w' (hD.ex hx) (hC.ex hx) hu hw hvu hv)
  have Hbc := Lib.hid (fun w' (hx : Ex w w') => bCompare_ok n B C d e us vs w' (hD.ex hx) (hE.ex hx) hu hvs hvu hvv)
  have Hac := Lib.hid (fun w' (hx : Ex w w') => bCompare_ok n A C c e ws vs w' (hC.ex hx) (hE.ex hx) hw hvs hv hvv)
  rw [e1] at Hab
  rw [e2] at Hba
  have Hsm := Lib.hid (fun w' (hx : Ex w w') => same_c n n A B c d ws us w' (hC.ex hx) (hD.ex hx) hm20)
  rw [decide_eq_true (rfl : (n : Int) = n), e3] at Hsm
  have HU := Lib.hid (fun w' (hx : Ex w w') => union_ok n A B c d ws us w' (hC.ex hx) (hD.ex hx) hw hu hv hvu)
  have hzv := zip_valid (g := fun x y => x || y) or_bits rfl rfl hv hvu
  have hzw := zip_wd or_lt hw hu
  have hz20 : (List.zipWith (fun x y => x ||| y) ws us).length ≤ 20 := by have := hzv.len; have := hzv.le; omega
  have Hau := Lib.hid (fun w' g (hx : Ex w w') (hB : Blk w' g 54 (u64s (List.zipWith (fun x y => x ||| y) ws us))) => bSubset_ok n A (some ⟨g, 0, none⟩) c (List.zipWith (fun x y => x ||| y) ws us).length ws (List.zipWith (fun x y => x ||| y) ws us) w' (hC.ex hx) hB.cells hw hzw hv hzv)
  rw [sub_union hv hvu] at Hau
  have Hsb := Lib.hid (fun w' (hx : Ex w w') => bSubset_ok n A B c d ws us w' (hC.ex hx) (hD.ex hx) hw hu hv hvu)
  rw [e4] at Hsb
  have Hub := Lib.hid (fun w' g (hx : Ex w w') (hB : Blk w' g 54 (u64s (List.zipWith (fun x y => x ||| y) ws us))) => same_c n n (some ⟨g, 0, none⟩) B (List.zipWith (fun x y => x ||| y) ws us).length d (List.zipWith (fun x y => x ||| y) ws us) us w' hB.cells (hD.ex hx) hz20)
  rw [decide_eq_true (rfl : (n : Int) = n), e5] at Hub
  clear hT hC hD hE hw hu hvs h20 hv hvu hvv e1 e2 e3 e4 e5 hm20 b1 b2 b3 hzv hzw hz20
  generalize List.zipWith (fun x y => x ||| y) ws us = zs at *
  generalize cmpS n us vs = q3 at *
  generalize cmpS n ws vs = q4 at *
  generalize ws.length = m at *
  generalize us.length = m2 at *
  generalize vs.length = m3 at *
  unfold cmpR at *
  go_enter Tryd.func9, Tryd.ntmps9
  go_wp2_with fail
  refine (HAw.out _ (by repeat (first | exact Ex.refl _ | apply Ex.ext | apply Ex.alloc))).mono ?_
  rintro e' w' ⟨rfl, y, rfl⟩
  go_wp2_with fail
  refine (HF.out _ _ (Blk.new' (ext _ y) rfl 24 [.int .i64 n, .slice A m c, .int .i64 n, .slice B m2 d, .int .i64 n, .slice C m3 e])).mono ?_
  rintro e' w' ⟨rfl, hx⟩
  obtain ⟨z, rfl⟩ := Ex.trans (Ex.alloc ⟨y, rfl⟩ _) hx
  clear hx
  go_wp2_with fail
  refine (Calls.up (W := ((w.alloc (.cells #[.int .i64 n, .slice A m c] 24)).alloc (.cells #[.int .i64 n, .slice B m2 d] 24)).alloc (.cells #[.int .i64 n, .slice C m3 e] 24)) ⟨_, rfl⟩ (H29.out _ (by repeat (first | exact Ex.refl _ | apply Ex.ext | apply Ex.alloc)))).mono ?_
  rintro e' w' ⟨rfl, zz, rfl⟩
  go_wp2_with fail
  refine (Calls.up (W := ((w.alloc (.cells #[.int .i64 n, .slice A m c] 24)).alloc (.cells #[.int .i64 n, .slice B m2 d] 24)).alloc (.cells #[.int .i64 n, .slice C m3 e] 24)) ⟨_, rfl⟩ (H29b.out _ (by repeat (first | exact Ex.refl _ | apply Ex.ext | apply Ex.alloc)))).mono ?_
  rintro e' w' ⟨rfl, zz, rfl⟩
  go_wp2_with fail
  refine (Calls.up (W := ((w.alloc (.cells #[.int .i64 n, .slice A m c] 24)).alloc (.cells #[.int .i64 n, .slice B m2 d] 24)).alloc (.cells #[.int .i64 n, .slice C m3 e] 24)) ⟨_, rfl⟩ (Hab.out _ (by repeat (first | exact Ex.refl _ | apply Ex.ext | apply Ex.alloc)))).mono ?_
  rintro e' w' ⟨rfl, zz, rfl⟩
  go_wp2_with fail
  refine (Calls.up (W := ((w.alloc (.cells #[.int .i64 n, .slice A m c] 24)).alloc (.cells #[.int .i64 n, .slice B m2 d] 24)).alloc (.cells #[.int .i64 n, .slice C m3 e] 24)) ⟨_, rfl⟩ (Hba.out _ (by repeat (first | exact Ex.refl _ | apply Ex.ext | apply Ex.alloc)))).mono ?_
  rintro e' w' ⟨rfl, zz, rfl⟩
  go_wp2_with fail
  refine (Calls.up (W := ((w.alloc (.cells #[.int .i64 n, .slice A m c] 24)).alloc (.cells #[.int .i64 n, .slice B m2 d] 24)).alloc (.cells #[.int .i64 n, .slice C m3 e] 24)) ⟨_, rfl⟩ (Hbc.out _ (by repeat (first | exact Ex.refl _ | apply Ex.ext | apply Ex.alloc)))).mono ?_
  rintro e' w' ⟨rfl, zz, rfl⟩
  go_wp2_with fail
  refine (Calls.up (W := ((w.alloc (.cells #[.int .i64 n, .slice A m c] 24)).alloc (.cells #[.int .i64 n, .slice B m2 d] 24)).alloc (.cells #[.int .i64 n, .slice C m3 e] 24)) ⟨_, rfl⟩ (Hac.out _ (by repeat (first | exact Ex.refl _ | apply Ex.ext | apply Ex.alloc)))).mono ?_
  rintro e' w' ⟨rfl, zz, rfl⟩
  go_wp2_with fail
  refine (Calls.up (W := ((w.alloc (.cells #[.int .i64 n, .slice A m c] 24)).alloc (.cells #[.int .i64 n, .slice B m2 d] 24)).alloc (.cells #[.int .i64 n, .slice C m3 e] 24)) ⟨_, rfl⟩ (Hsm.out _ (by repeat (first | exact Ex.refl _ | apply Ex.ext | apply Ex.alloc)))).mono ?_
  rintro e' w' ⟨rfl, zz, rfl⟩
  go_wp2_with fail
  refine (HU.out _ (by repeat (first | exact Ex.refl _ | apply Ex.ext | apply Ex.alloc))).mono ?_
  rintro e' w' ⟨g, rfl, hg, hB, hx⟩
  have hE := (((((Ex.refl w).alloc (.cells #[.int .i64 n, .slice A m c] 24)).alloc (.cells #[.int .i64 n, .slice B m2 d] 24)).alloc (.cells #[.int .i64 n, .slice C m3 e] 24)).ext _).trans hx
  have hS := ((((Blk.new w 24 [.int .i64 n, .slice A m c]).alloc (.cells #[.int .i64 n, .slice B m2 d] 24)).alloc (.cells #[.int .i64 n, .slice C m3 e] 24)).ex ⟨_, rfl⟩).ex hx
  have hS2 := (((Blk.new' (w.alloc (.cells #[.int .i64 n, .slice A m c] 24)) (g := w.heap.size + 1) (by simp) 24 [.int .i64 n, .slice B m2 d]).alloc (.cells #[.int .i64 n, .slice C m3 e] 24)).ex ⟨_, rfl⟩).ex hx
  clear hx hg
  have hE2 := hE.alloc (.cells #[.int .i64 n, .slice (some ⟨g, 0, none⟩) zs.length zs.length] 24)
  have hS3 := hS.alloc (.cells #[.int .i64 n, .slice (some ⟨g, 0, none⟩) zs.length zs.length] 24)
  have hS4 := hS2.alloc (.cells #[.int .i64 n, .slice (some ⟨g, 0, none⟩) zs.length zs.length] 24)
  have hB2 := hB.alloc (.cells #[.int .i64 n, .slice (some ⟨g, 0, none⟩) zs.length zs.length] 24)
  have hO := Blk.new w' 24 [.int .i64 n, .slice (some ⟨g, 0, none⟩) zs.length zs.length]
  have HX := Lib.hid (And.intro hE2 (And.intro hS3 (And.intro hS4 (And.intro hB2 hO))))
  clear hE hS hS2 hB hE2 hS3 hS4 hB2 hO HU
  go_wp2
  generalize hW4 : w'.alloc (.cells #[.int .i64 n, .slice (some ⟨g, 0, none⟩) zs.length zs.length] 24) = W4 at *
  generalize w'.heap.size = b15 at *
  obtain ⟨hE2, hS3, hS4, hB2, hO⟩ := HX.out
  clear hW4 HX
  have l0 := hS3.lt
  have l1 := hS4.lt
  have l2 := hO.lt
  have f0 := hS3.cell 0
  have f1 := hS3.cell 1
  have f2 := hS4.cell 0
  have f3 := hS4.cell 1
  have f4 := hO.cell 0
  have f5 := hO.cell 1
  simp only [List.getElem?_cons_zero, List.getElem?_cons_succ] at f0 f1 f2 f3 f4 f5
  have HEx := Lib.hid (fun z : Up W4 => hE2.ext z)
  have HBx := Lib.hid (fun z : Up W4 => hB2.ex ⟨z, rfl⟩)
  clear hE2 hS3 hS4 hB2 hO
  refine wp_region_ext (by kernel_rfl) (by kernel_rfl) ?_
  repeat (go_big_quiet_step (fail))
  go_big_quiet_step ((go_at_call 27; exact quiet_ext (Hau.out _ _ (HEx.out _) (HBx.out _))))
  repeat (go_big_quiet_step (fail))
  go_big_quiet_step ((go_at_call 27; exact quiet_ext (Hsb.out _ (HEx.out _))))
  repeat (go_big_quiet_step (fail))
  go_big_quiet_step ((go_at_call 18; exact quiet_ext (Hub.out _ _ (HEx.out _) (HBx.out _))))
  repeat (go_big_quiet_step (fail))
  go_big_quiet_step ((go_at_call 27; exact quiet_ext (Hsb.out _ (HEx.out _))))
  repeat (go_big_quiet_step (fail))
  refine wpQuiet_end (fun z => ?_)
  go_wp2
  go_ret
  exact Ret.mk rfl (HEx.out _)

set_option maxHeartbeats 3200000 in
theorem total_z_t (n : Nat) (A B C : Option Addr) (c d e : Nat) (ws us vs : List Nat) (w : World) (hT : Tab w) (hC : Cells w A (u64s ws)) (hD : Cells w B (u64s us)) (hE : Cells w C (u64s vs)) (hw : Wd ws) (hu : Wd us) (hvs : Wd vs)
    (h20 : (decide (ws.length ≤ 20) && (decide (us.length ≤ 20) && decide (vs.length ≤ 20))) = true) (hv : Valid n ws) (hvu : Valid n us) (hvv : Valid n vs)
    (e1 : cmpS n ws us = 0) (e2 : cmpS n us ws = 0) (e3 : decide (ws = us) = true) (e4 : subS n ws us = true) (e5 : decide (List.zipWith (fun x y => x ||| y) ws us = us) = true) (h3 : cmpS n us vs ≤ 0) (h4 : cmpS n ws vs ≤ 0) :
    Calls Tryd.prog 9 #[.agg #[.int .i64 n, .slice A ws.length c], .agg #[.int .i64 n, .slice B us.length d], .agg #[.int .i64 n, .slice C vs.length e]] w (Ret w (.bool true)) := by
  have HAw := Lib.hid (fun w' (hx : Ex w w') => awake_c w' (hT.ex hx))
  have HF := Lib.hid (fun w' g (hB : Blk w' g 24 [.int .i64 n, .slice A ws.length c, .int .i64 n, .slice B us.length d, .int .i64 n, .slice C vs.length e]) => few_three w' g 24 n n n A B C ws.length c us.length d vs.length e hB)
  rw [h20] at HF
  have hm20 : ws.length ≤ 20 := by have := hv.len; have := hv.le; omega
  have b1 := (validB_iff n ws).2 ⟨n, rfl, hv⟩
  have b2 := (validB_iff n us).2 ⟨n, rfl, hvu⟩
  have b3 := (validB_iff n vs).2 ⟨n, rfl, hvv⟩
  have H29 := Lib.hid (fun w' (hx : Ex w w') => comparable_c n n A B c d ws us w' (hC.ex hx) (hD.ex hx) hw hu)
  rw [b1, b2, decide_eq_true (rfl : (n : Int) = n)] at H29
  have H29b := Lib.hid (fun w' (hx : Ex w w') => comparable_c n n B C d e us vs w' (hD.ex hx) (hE.ex hx) hu hvs)
  rw [b2, b3, decide_eq_true (rfl : (n : Int) = n)] at H29b
  have Hab := Lib.hid (fun w' (hx : Ex w w') => bCompare_ok n A B c d ws us w' (hC.ex hx) (hD.ex hx) hw hu hv hvu)
  have Hba := Lib.hid (fun w' (hx : Ex w w') => bCompare_ok n B A d c us ws w' (hD.ex hx) (hC.ex hx) hu hw hvu hv)
  have Hbc := Lib.hid (fun w' (hx : Ex w w') => bCompare_ok n B C d e us vs w' (hD.ex hx) (hE.ex hx) hu hvs hvu hvv)
  have Hac := Lib.hid (fun w' (hx : Ex w w') => bCompare_ok n A C c e ws vs w' (hC.ex hx) (hE.ex hx) hw hvs hv hvv)
  rw [e1] at Hab
  rw [e2] at Hba
  have Hsm := Lib.hid (fun w' (hx : Ex w w') => same_c n n A B c d ws us w' (hC.ex hx) (hD.ex hx) hm20)
  rw [decide_eq_true (rfl : (n : Int) = n), e3] at Hsm
  have HU := Lib.hid (fun w' (hx : Ex w w') => union_ok n A B c d ws us w' (hC.ex hx) (hD.ex hx) hw hu hv hvu)
  have hzv := zip_valid (g := fun x y => x || y) or_bits rfl rfl hv hvu
  have hzw := zip_wd or_lt hw hu
  have hz20 : (List.zipWith (fun x y => x ||| y) ws us).length ≤ 20 := by have := hzv.len; have := hzv.le; omega
  have Hau := Lib.hid (fun w' g (hx : Ex w w') (hB : Blk w' g 54 (u64s (List.zipWith (fun x y => x ||| y) ws us))) => bSubset_ok n A (some ⟨g, 0, none⟩) c (List.zipWith (fun x y => x ||| y) ws us).length ws (List.zipWith (fun x y => x ||| y) ws us) w' (hC.ex hx) hB.cells hw hzw hv hzv)
  rw [sub_union hv hvu] at Hau
  have Hsb := Lib.hid (fun w' (hx : Ex w w') => bSubset_ok n A B c d ws us w' (hC.ex hx) (hD.ex hx) hw hu hv hvu)
  rw [e4] at Hsb
  have Hub := Lib.hid (fun w' g (hx : Ex w w') (hB : Blk w' g 54 (u64s (List.zipWith (fun x y => x ||| y) ws us))) => same_c n n (some ⟨g, 0, none⟩) B (List.zipWith (fun x y => x ||| y) ws us).length d (List.zipWith (fun x y => x ||| y) ws us) us w' hB.cells (hD.ex hx) hz20)
  rw [decide_eq_true (rfl : (n : Int) = n), e5] at Hub
  clear hT hC hD hE hw hu hvs h20 hv hvu hvv e1 e2 e3 e4 e5 hm20 b1 b2 b3 hzv hzw hz20
  generalize List.zipWith (fun x y => x ||| y) ws us = zs at *
  generalize cmpS n us vs = q3 at *
  generalize cmpS n ws vs = q4 at *
  generalize ws.length = m at *
  generalize us.length = m2 at *
  generalize vs.length = m3 at *
  unfold cmpR at *
  go_enter Tryd.func9, Tryd.ntmps9
  go_wp2_with fail
  refine (HAw.out _ (by repeat (first | exact Ex.refl _ | apply Ex.ext | apply Ex.alloc))).mono ?_
  rintro e' w' ⟨rfl, y, rfl⟩
  go_wp2_with fail
  refine (HF.out _ _ (Blk.new' (ext _ y) rfl 24 [.int .i64 n, .slice A m c, .int .i64 n, .slice B m2 d, .int .i64 n, .slice C m3 e])).mono ?_
  rintro e' w' ⟨rfl, hx⟩
  obtain ⟨z, rfl⟩ := Ex.trans (Ex.alloc ⟨y, rfl⟩ _) hx
  clear hx
  go_wp2_with fail
  refine (Calls.up (W := ((w.alloc (.cells #[.int .i64 n, .slice A m c] 24)).alloc (.cells #[.int .i64 n, .slice B m2 d] 24)).alloc (.cells #[.int .i64 n, .slice C m3 e] 24)) ⟨_, rfl⟩ (H29.out _ (by repeat (first | exact Ex.refl _ | apply Ex.ext | apply Ex.alloc)))).mono ?_
  rintro e' w' ⟨rfl, zz, rfl⟩
  go_wp2_with fail
  refine (Calls.up (W := ((w.alloc (.cells #[.int .i64 n, .slice A m c] 24)).alloc (.cells #[.int .i64 n, .slice B m2 d] 24)).alloc (.cells #[.int .i64 n, .slice C m3 e] 24)) ⟨_, rfl⟩ (H29b.out _ (by repeat (first | exact Ex.refl _ | apply Ex.ext | apply Ex.alloc)))).mono ?_
  rintro e' w' ⟨rfl, zz, rfl⟩
  go_wp2_with fail
  refine (Calls.up (W := ((w.alloc (.cells #[.int .i64 n, .slice A m c] 24)).alloc (.cells #[.int .i64 n, .slice B m2 d] 24)).alloc (.cells #[.int .i64 n, .slice C m3 e] 24)) ⟨_, rfl⟩ (Hab.out _ (by repeat (first | exact Ex.refl _ | apply Ex.ext | apply Ex.alloc)))).mono ?_
  rintro e' w' ⟨rfl, zz, rfl⟩
  go_wp2_with fail
  refine (Calls.up (W := ((w.alloc (.cells #[.int .i64 n, .slice A m c] 24)).alloc (.cells #[.int .i64 n, .slice B m2 d] 24)).alloc (.cells #[.int .i64 n, .slice C m3 e] 24)) ⟨_, rfl⟩ (Hba.out _ (by repeat (first | exact Ex.refl _ | apply Ex.ext | apply Ex.alloc)))).mono ?_
  rintro e' w' ⟨rfl, zz, rfl⟩
  go_wp2_with fail
  refine (Calls.up (W := ((w.alloc (.cells #[.int .i64 n, .slice A m c] 24)).alloc (.cells #[.int .i64 n, .slice B m2 d] 24)).alloc (.cells #[.int .i64 n, .slice C m3 e] 24)) ⟨_, rfl⟩ (Hbc.out _ (by repeat (first | exact Ex.refl _ | apply Ex.ext | apply Ex.alloc)))).mono ?_
  rintro e' w' ⟨rfl, zz, rfl⟩
  go_wp2_with fail
  refine (Calls.up (W := ((w.alloc (.cells #[.int .i64 n, .slice A m c] 24)).alloc (.cells #[.int .i64 n, .slice B m2 d] 24)).alloc (.cells #[.int .i64 n, .slice C m3 e] 24)) ⟨_, rfl⟩ (Hac.out _ (by repeat (first | exact Ex.refl _ | apply Ex.ext | apply Ex.alloc)))).mono ?_
  rintro e' w' ⟨rfl, zz, rfl⟩
  go_wp2_with fail
  refine (Calls.up (W := ((w.alloc (.cells #[.int .i64 n, .slice A m c] 24)).alloc (.cells #[.int .i64 n, .slice B m2 d] 24)).alloc (.cells #[.int .i64 n, .slice C m3 e] 24)) ⟨_, rfl⟩ (Hsm.out _ (by repeat (first | exact Ex.refl _ | apply Ex.ext | apply Ex.alloc)))).mono ?_
  rintro e' w' ⟨rfl, zz, rfl⟩
  go_wp2_with fail
  refine (HU.out _ (by repeat (first | exact Ex.refl _ | apply Ex.ext | apply Ex.alloc))).mono ?_
  rintro e' w' ⟨g, rfl, hg, hB, hx⟩
  have hE := (((((Ex.refl w).alloc (.cells #[.int .i64 n, .slice A m c] 24)).alloc (.cells #[.int .i64 n, .slice B m2 d] 24)).alloc (.cells #[.int .i64 n, .slice C m3 e] 24)).ext _).trans hx
  have hS := ((((Blk.new w 24 [.int .i64 n, .slice A m c]).alloc (.cells #[.int .i64 n, .slice B m2 d] 24)).alloc (.cells #[.int .i64 n, .slice C m3 e] 24)).ex ⟨_, rfl⟩).ex hx
  have hS2 := (((Blk.new' (w.alloc (.cells #[.int .i64 n, .slice A m c] 24)) (g := w.heap.size + 1) (by simp) 24 [.int .i64 n, .slice B m2 d]).alloc (.cells #[.int .i64 n, .slice C m3 e] 24)).ex ⟨_, rfl⟩).ex hx
  clear hx hg
  have hE2 := hE.alloc (.cells #[.int .i64 n, .slice (some ⟨g, 0, none⟩) zs.length zs.length] 24)
  have hS3 := hS.alloc (.cells #[.int .i64 n, .slice (some ⟨g, 0, none⟩) zs.length zs.length] 24)
  have hS4 := hS2.alloc (.cells #[.int .i64 n, .slice (some ⟨g, 0, none⟩) zs.length zs.length] 24)
  have hB2 := hB.alloc (.cells #[.int .i64 n, .slice (some ⟨g, 0, none⟩) zs.length zs.length] 24)
  have hO := Blk.new w' 24 [.int .i64 n, .slice (some ⟨g, 0, none⟩) zs.length zs.length]
  have HX := Lib.hid (And.intro hE2 (And.intro hS3 (And.intro hS4 (And.intro hB2 hO))))
  clear hE hS hS2 hB hE2 hS3 hS4 hB2 hO HU
  go_wp2
  generalize hW4 : w'.alloc (.cells #[.int .i64 n, .slice (some ⟨g, 0, none⟩) zs.length zs.length] 24) = W4 at *
  generalize w'.heap.size = b15 at *
  obtain ⟨hE2, hS3, hS4, hB2, hO⟩ := HX.out
  clear hW4 HX
  have l0 := hS3.lt
  have l1 := hS4.lt
  have l2 := hO.lt
  have f0 := hS3.cell 0
  have f1 := hS3.cell 1
  have f2 := hS4.cell 0
  have f3 := hS4.cell 1
  have f4 := hO.cell 0
  have f5 := hO.cell 1
  simp only [List.getElem?_cons_zero, List.getElem?_cons_succ] at f0 f1 f2 f3 f4 f5
  have HEx := Lib.hid (fun z : Up W4 => hE2.ext z)
  have HBx := Lib.hid (fun z : Up W4 => hB2.ex ⟨z, rfl⟩)
  clear hE2 hS3 hS4 hB2 hO
  refine wp_region_ext (by kernel_rfl) (by kernel_rfl) ?_
  repeat (go_big_quiet_step (fail))
  go_big_quiet_step ((go_at_call 27; exact quiet_ext (Hau.out _ _ (HEx.out _) (HBx.out _))))
  repeat (go_big_quiet_step (fail))
  go_big_quiet_step ((go_at_call 27; exact quiet_ext (Hsb.out _ (HEx.out _))))
  repeat (go_big_quiet_step (fail))
  go_big_quiet_step ((go_at_call 18; exact quiet_ext (Hub.out _ _ (HEx.out _) (HBx.out _))))
  repeat (go_big_quiet_step (fail))
  go_big_quiet_step ((go_at_call 27; exact quiet_ext (Hsb.out _ (HEx.out _))))
  repeat (go_big_quiet_step (fail))
  refine wpQuiet_end (fun z => ?_)
  go_wp2
  go_ret
  exact Ret.mk rfl (HEx.out _)

set_option maxHeartbeats 3200000 in
theorem total_z_f (n : Nat) (A B C : Option Addr) (c d e : Nat) (ws us vs : List Nat) (w : World) (hT : Tab w) (hC : Cells w A (u64s ws)) (hD : Cells w B (u64s us)) (hE : Cells w C (u64s vs)) (hw : Wd ws) (hu : Wd us) (hvs : Wd vs)
    (h20 : (decide (ws.length ≤ 20) && (decide (us.length ≤ 20) && decide (vs.length ≤ 20))) = true) (hv : Valid n ws) (hvu : Valid n us) (hvv : Valid n vs)
    (e1 : cmpS n ws us = 0) (e2 : cmpS n us ws = 0) (e3 : decide (ws = us) = true) (e4 : subS n ws us = true) (e5 : decide (List.zipWith (fun x y => x ||| y) ws us = us) = true) (h3 : 0 < cmpS n us vs) :
    Calls Tryd.prog 9 #[.agg #[.int .i64 n, .slice A ws.length c], .agg #[.int .i64 n, .slice B us.length d], .agg #[.int .i64 n, .slice C vs.length e]] w (Ret w (.bool true)) := by
  have HAw := Lib.hid (fun w' (hx : Ex w w') => awake_c w' (hT.ex hx))
  have HF := Lib.hid (fun w' g (hB : Blk w' g 24 [.int .i64 n, .slice A ws.length c, .int .i64 n, .slice B us.length d, .int .i64 n, .slice C vs.length e]) => few_three w' g 24 n n n A B C ws.length c us.length d vs.length e hB)
  rw [h20] at HF
  have hm20 : ws.length ≤ 20 := by have := hv.len; have := hv.le; omega
  have b1 := (validB_iff n ws).2 ⟨n, rfl, hv⟩
  have b2 := (validB_iff n us).2 ⟨n, rfl, hvu⟩
  have b3 := (validB_iff n vs).2 ⟨n, rfl, hvv⟩
  have H29 := Lib.hid (fun w' (hx : Ex w w') => comparable_c n n A B c d ws us w' (hC.ex hx) (hD.ex hx) hw hu)
  rw [b1, b2, decide_eq_true (rfl : (n : Int) = n)] at H29
  have H29b := Lib.hid (fun w' (hx : Ex w w') => comparable_c n n B C d e us vs w' (hD.ex hx) (hE.ex hx) hu hvs)
  rw [b2, b3, decide_eq_true (rfl : (n : Int) = n)] at H29b
  have Hab := Lib.hid (fun w' (hx : Ex w w') => bCompare_ok n A B c d ws us w' (hC.ex hx) (hD.ex hx) hw hu hv hvu)
  have Hba := Lib.hid (fun w' (hx : Ex w w') => bCompare_ok n B A d c us ws w' (hD.ex hx) (hC.ex hx) hu hw hvu hv)
  have Hbc := Lib.hid (fun w' (hx : Ex w w') => bCompare_ok n B C d e us vs w' (hD.ex hx) (hE.ex hx) hu hvs hvu hvv)
  have Hac := Lib.hid (fun w' (hx : Ex w w') => bCompare_ok n A C c e ws vs w' (hC.ex hx) (hE.ex hx) hw hvs hv hvv)
  rw [e1] at Hab
  rw [e2] at Hba
  have Hsm := Lib.hid (fun w' (hx : Ex w w') => same_c n n A B c d ws us w' (hC.ex hx) (hD.ex hx) hm20)
  rw [decide_eq_true (rfl : (n : Int) = n), e3] at Hsm
  have HU := Lib.hid (fun w' (hx : Ex w w') => union_ok n A B c d ws us w' (hC.ex hx) (hD.ex hx) hw hu hv hvu)
  have hzv := zip_valid (g := fun x y => x || y) or_bits rfl rfl hv hvu
  have hzw := zip_wd or_lt hw hu
  have hz20 : (List.zipWith (fun x y => x ||| y) ws us).length ≤ 20 := by have := hzv.len; have := hzv.le; omega
  have Hau := Lib.hid (fun w' g (hx : Ex w w') (hB : Blk w' g 54 (u64s (List.zipWith (fun x y => x ||| y) ws us))) => bSubset_ok n A (some ⟨g, 0, none⟩) c (List.zipWith (fun x y => x ||| y) ws us).length ws (List.zipWith (fun x y => x ||| y) ws us) w' (hC.ex hx) hB.cells hw hzw hv hzv)
  rw [sub_union hv hvu] at Hau
  have Hsb := Lib.hid (fun w' (hx : Ex w w') => bSubset_ok n A B c d ws us w' (hC.ex hx) (hD.ex hx) hw hu hv hvu)
  rw [e4] at Hsb
  have Hub := Lib.hid (fun w' g (hx : Ex w w') (hB : Blk w' g 54 (u64s (List.zipWith (fun x y => x ||| y) ws us))) => same_c n n (some ⟨g, 0, none⟩) B (List.zipWith (fun x y => x ||| y) ws us).length d (List.zipWith (fun x y => x ||| y) ws us) us w' hB.cells (hD.ex hx) hz20)
  rw [decide_eq_true (rfl : (n : Int) = n), e5] at Hub
  clear hT hC hD hE hw hu hvs h20 hv hvu hvv e1 e2 e3 e4 e5 hm20 b1 b2 b3 hzv hzw hz20
  generalize List.zipWith (fun x y => x ||| y) ws us = zs at *
  generalize cmpS n us vs = q3 at *
  generalize cmpS n ws vs = q4 at *
  generalize ws.length = m at *
  generalize us.length = m2 at *
  generalize vs.length = m3 at *
  unfold cmpR at *
  go_enter Tryd.func9, Tryd.ntmps9
  go_wp2_with fail
  refine (HAw.out _ (by repeat (first | exact Ex.refl _ | apply Ex.ext | apply Ex.alloc))).mono ?_
  rintro e' w' ⟨rfl, y, rfl⟩
  go_wp2_with fail
  refine (HF.out _ _ (Blk.new' (ext _ y) rfl 24 [.int .i64 n, .slice A m c, .int .i64 n, .slice B m2 d, .int .i64 n, .slice C m3 e])).mono ?_
  rintro e' w' ⟨rfl, hx⟩
  obtain ⟨z, rfl⟩ := Ex.trans (Ex.alloc ⟨y, rfl⟩ _) hx
  clear hx
  go_wp2_with fail
  refine (Calls.up (W := ((w.alloc (.cells #[.int .i64 n, .slice A m c] 24)).alloc (.cells #[.int .i64 n, .slice B m2 d] 24)).alloc (.cells #[.int .i64 n, .slice C m3 e] 24)) ⟨_, rfl⟩ (H29.out _ (by repeat (first | exact Ex.refl _ | apply Ex.ext | apply Ex.alloc)))).mono ?_
  rintro e' w' ⟨rfl, zz, rfl⟩
  go_wp2_with fail
  refine (Calls.up (W := ((w.alloc (.cells #[.int .i64 n, .slice A m c] 24)).alloc (.cells #[.int .i64 n, .slice B m2 d] 24)).alloc (.cells #[.int .i64 n, .slice C m3 e] 24)) ⟨_, rfl⟩ (H29b.out _ (by repeat (first | exact Ex.refl _ | apply Ex.ext | apply Ex.alloc)))).mono ?_
  rintro e' w' ⟨rfl, zz, rfl⟩
  go_wp2_with fail
  refine (Calls.up (W := ((w.alloc (.cells #[.int .i64 n, .slice A m c] 24)).alloc (.cells #[.int .i64 n, .slice B m2 d] 24)).alloc (.cells #[.int .i64 n, .slice C m3 e] 24)) ⟨_, rfl⟩ (Hab.out _ (by repeat (first | exact Ex.refl _ | apply Ex.ext | apply Ex.alloc)))).mono ?_
  rintro e' w' ⟨rfl, zz, rfl⟩
  go_wp2_with fail
  refine (Calls.up (W := ((w.alloc (.cells #[.int .i64 n, .slice A m c] 24)).alloc (.cells #[.int .i64 n, .slice B m2 d] 24)).alloc (.cells #[.int .i64 n, .slice C m3 e] 24)) ⟨_, rfl⟩ (Hba.out _ (by repeat (first | exact Ex.refl _ | apply Ex.ext | apply Ex.alloc)))).mono ?_
  rintro e' w' ⟨rfl, zz, rfl⟩
  go_wp2_with fail
  refine (Calls.up (W := ((w.alloc (.cells #[.int .i64 n, .slice A m c] 24)).alloc (.cells #[.int .i64 n, .slice B m2 d] 24)).alloc (.cells #[.int .i64 n, .slice C m3 e] 24)) ⟨_, rfl⟩ (Hbc.out _ (by repeat (first | exact Ex.refl _ | apply Ex.ext | apply Ex.alloc)))).mono ?_
  rintro e' w' ⟨rfl, zz, rfl⟩
  go_wp2_with fail
  refine (Calls.up (W := ((w.alloc (.cells #[.int .i64 n, .slice A m c] 24)).alloc (.cells #[.int .i64 n, .slice B m2 d] 24)).alloc (.cells #[.int .i64 n, .slice C m3 e] 24)) ⟨_, rfl⟩ (Hac.out _ (by repeat (first | exact Ex.refl _ | apply Ex.ext | apply Ex.alloc)))).mono ?_
  rintro e' w' ⟨rfl, zz, rfl⟩
  go_wp2_with fail
  refine (Calls.up (W := ((w.alloc (.cells #[.int .i64 n, .slice A m c] 24)).alloc (.cells #[.int .i64 n, .slice B m2 d] 24)).alloc (.cells #[.int .i64 n, .slice C m3 e] 24)) ⟨_, rfl⟩ (Hsm.out _ (by repeat (first | exact Ex.refl _ | apply Ex.ext | apply Ex.alloc)))).mono ?_
  rintro e' w' ⟨rfl, zz, rfl⟩
  go_wp2_with fail
  refine (HU.out _ (by repeat (first | exact Ex.refl _ | apply Ex.ext | apply Ex.alloc))).mono ?_
  rintro e' w' ⟨g, rfl, hg, hB, hx⟩
  have hE := (((((Ex.refl w).alloc (.cells #[.int .i64 n, .slice A m c] 24)).alloc (.cells #[.int .i64 n, .slice B m2 d] 24)).alloc (.cells #[.int .i64 n, .slice C m3 e] 24)).ext _).trans hx
  have hS := ((((Blk.new w 24 [.int .i64 n, .slice A m c]).alloc (.cells #[.int .i64 n, .slice B m2 d] 24)).alloc (.cells #[.int .i64 n, .slice C m3 e] 24)).ex ⟨_, rfl⟩).ex hx
  have hS2 := (((Blk.new' (w.alloc (.cells #[.int .i64 n, .slice A m c] 24)) (g := w.heap.size + 1) (by simp) 24 [.int .i64 n, .slice B m2 d]).alloc (.cells #[.int .i64 n, .slice C m3 e] 24)).ex ⟨_, rfl⟩).ex hx
  clear hx hg
  have hE2 := hE.alloc (.cells #[.int .i64 n, .slice (some ⟨g, 0, none⟩) zs.length zs.length] 24)
  have hS3 := hS.alloc (.cells #[.int .i64 n, .slice (some ⟨g, 0, none⟩) zs.length zs.length] 24)
  have hS4 := hS2.alloc (.cells #[.int .i64 n, .slice (some ⟨g, 0, none⟩) zs.length zs.length] 24)
  have hB2 := hB.alloc (.cells #[.int .i64 n, .slice (some ⟨g, 0, none⟩) zs.length zs.length] 24)
  have hO := Blk.new w' 24 [.int .i64 n, .slice (some ⟨g, 0, none⟩) zs.length zs.length]
  have HX := Lib.hid (And.intro hE2 (And.intro hS3 (And.intro hS4 (And.intro hB2 hO))))
  clear hE hS hS2 hB hE2 hS3 hS4 hB2 hO HU
  go_wp2
  generalize hW4 : w'.alloc (.cells #[.int .i64 n, .slice (some ⟨g, 0, none⟩) zs.length zs.length] 24) = W4 at *
  generalize w'.heap.size = b15 at *
  obtain ⟨hE2, hS3, hS4, hB2, hO⟩ := HX.out
  clear hW4 HX
  have l0 := hS3.lt
  have l1 := hS4.lt
  have l2 := hO.lt
  have f0 := hS3.cell 0
  have f1 := hS3.cell 1
  have f2 := hS4.cell 0
  have f3 := hS4.cell 1
  have f4 := hO.cell 0
  have f5 := hO.cell 1
  simp only [List.getElem?_cons_zero, List.getElem?_cons_succ] at f0 f1 f2 f3 f4 f5
  have HEx := Lib.hid (fun z : Up W4 => hE2.ext z)
  have HBx := Lib.hid (fun z : Up W4 => hB2.ex ⟨z, rfl⟩)
  clear hE2 hS3 hS4 hB2 hO
  refine wp_region_ext (by kernel_rfl) (by kernel_rfl) ?_
  repeat (go_big_quiet_step (fail))
  go_big_quiet_step ((go_at_call 27; exact quiet_ext (Hau.out _ _ (HEx.out _) (HBx.out _))))
  repeat (go_big_quiet_step (fail))
  go_big_quiet_step ((go_at_call 27; exact quiet_ext (Hsb.out _ (HEx.out _))))
  repeat (go_big_quiet_step (fail))
  go_big_quiet_step ((go_at_call 18; exact quiet_ext (Hub.out _ _ (HEx.out _) (HBx.out _))))
  repeat (go_big_quiet_step (fail))
  go_big_quiet_step ((go_at_call 27; exact quiet_ext (Hsb.out _ (HEx.out _))))
  repeat (go_big_quiet_step (fail))
  refine wpQuiet_end (fun z => ?_)
  go_wp2
  go_ret
  exact Ret.mk rfl (HEx.out _)

set_option maxHeartbeats 3200000 in
theorem total_p (n : Nat) (A B C : Option Addr) (c d e : Nat) (ws us vs : List Nat) (w : World) (hT : Tab w) (hC : Cells w A (u64s ws)) (hD : Cells w B (u64s us)) (hE : Cells w C (u64s vs)) (hw : Wd ws) (hu : Wd us) (hvs : Wd vs)
    (h20 : (decide (ws.length ≤ 20) && (decide (us.length ≤ 20) && decide (vs.length ≤ 20))) = true) (hv : Valid n ws) (hvu : Valid n us) (hvv : Valid n vs)
    (e1 : cmpS n ws us = 1) (e2 : cmpS n us ws = -1) (e3 : decide (ws = us) = false) (e4 : subS n ws us = false) (e5 : decide (List.zipWith (fun x y => x ||| y) ws us = us) = false) :
    Calls Tryd.prog 9 #[.agg #[.int .i64 n, .slice A ws.length c], .agg #[.int .i64 n, .slice B us.length d], .agg #[.int .i64 n, .slice C vs.length e]] w (Ret w (.bool true)) := by
  have HAw := Lib.hid (fun w' (hx : Ex w w') => awake_c w' (hT.ex hx))
  have HF := Lib.hid (fun w' g (hB : Blk w' g 24 [.int .i64 n, .slice A ws.length c, .int .i64 n, .slice B us.length d, .int .i64 n, .slice C vs.length e]) => few_three w' g 24 n n n A B C ws.length c us.length d vs.length e hB)
  rw [h20] at HF
  have hm20 : ws.length ≤ 20 := by have := hv.len; have := hv.le; omega
  have b1 := (validB_iff n ws).2 ⟨n, rfl, hv⟩
  have b2 := (validB_iff n us).2 ⟨n, rfl, hvu⟩
  have b3 := (validB_iff n vs).2 ⟨n, rfl, hvv⟩
  have H29 := Lib.hid (fun w' (hx : Ex w w') => comparable_c n n A B c d ws us w' (hC.ex hx) (hD.ex hx) hw hu)
  rw [b1, b2, decide_eq_true (rfl : (n : Int) = n)] at H29
  have H29b := Lib.hid (fun w' (hx : Ex w w') => comparable_c n n B C d e us vs w' (hD.ex hx) (hE.ex hx) hu hvs)
  rw [b2, b3, decide_eq_true (rfl : (n : Int) = n)] at H29b
  have Hab := Lib.hid (fun w' (hx : Ex w w') => bCompare_ok n A B c d ws us w' (hC.ex hx) (hD.ex hx) hw hu hv hvu)
  have Hba := Lib.hid (fun w' (hx : Ex w w') => bCompare_ok n B A d c us ws w' (hD.ex hx) (hC.ex hx) hu hw hvu hv)
  have Hbc := Lib.hid (fun w' (hx : Ex w w') => bCompare_ok n B C d e us vs w' (hD.ex hx) (hE.ex hx) hu hvs hvu hvv)
  have Hac := Lib.hid (fun w' (hx : Ex w w') => bCompare_ok n A C c e ws vs w' (hC.ex hx) (hE.ex hx) hw hvs hv hvv)
  rw [e1] at Hab
  rw [e2] at Hba
  have Hsm := Lib.hid (fun w' (hx : Ex w w') => same_c n n A B c d ws us w' (hC.ex hx) (hD.ex hx) hm20)
  rw [decide_eq_true (rfl : (n : Int) = n), e3] at Hsm
  have HU := Lib.hid (fun w' (hx : Ex w w') => union_ok n A B c d ws us w' (hC.ex hx) (hD.ex hx) hw hu hv hvu)
  have hzv := zip_valid (g := fun x y => x || y) or_bits rfl rfl hv hvu
  have hzw := zip_wd or_lt hw hu
  have hz20 : (List.zipWith (fun x y => x ||| y) ws us).length ≤ 20 := by have := hzv.len; have := hzv.le; omega
  have Hau := Lib.hid (fun w' g (hx : Ex w w') (hB : Blk w' g 54 (u64s (List.zipWith (fun x y => x ||| y) ws us))) => bSubset_ok n A (some ⟨g, 0, none⟩) c (List.zipWith (fun x y => x ||| y) ws us).length ws (List.zipWith (fun x y => x ||| y) ws us) w' (hC.ex hx) hB.cells hw hzw hv hzv)
  rw [sub_union hv hvu] at Hau
  have Hsb := Lib.hid (fun w' (hx : Ex w w') => bSubset_ok n A B c d ws us w' (hC.ex hx) (hD.ex hx) hw hu hv hvu)
  rw [e4] at Hsb
  have Hub := Lib.hid (fun w' g (hx : Ex w w') (hB : Blk w' g 54 (u64s (List.zipWith (fun x y => x ||| y) ws us))) => same_c n n (some ⟨g, 0, none⟩) B (List.zipWith (fun x y => x ||| y) ws us).length d (List.zipWith (fun x y => x ||| y) ws us) us w' hB.cells (hD.ex hx) hz20)
  rw [decide_eq_true (rfl : (n : Int) = n), e5] at Hub
  clear hT hC hD hE hw hu hvs h20 hv hvu hvv e1 e2 e3 e4 e5 hm20 b1 b2 b3 hzv hzw hz20
  generalize List.zipWith (fun x y => x ||| y) ws us = zs at *
  generalize cmpS n us vs = q3 at *
  generalize cmpS n ws vs = q4 at *
  generalize ws.length = m at *
  generalize us.length = m2 at *
  generalize vs.length = m3 at *
  unfold cmpR at *
  go_enter Tryd.func9, Tryd.ntmps9
  go_wp2_with fail
  refine (HAw.out _ (by repeat (first | exact Ex.refl _ | apply Ex.ext | apply Ex.alloc))).mono ?_
  rintro e' w' ⟨rfl, y, rfl⟩
  go_wp2_with fail
  refine (HF.out _ _ (Blk.new' (ext _ y) rfl 24 [.int .i64 n, .slice A m c, .int .i64 n, .slice B m2 d, .int .i64 n, .slice C m3 e])).mono ?_
  rintro e' w' ⟨rfl, hx⟩
  obtain ⟨z, rfl⟩ := Ex.trans (Ex.alloc ⟨y, rfl⟩ _) hx
  clear hx
  go_wp2_with fail
  refine (Calls.up (W := ((w.alloc (.cells #[.int .i64 n, .slice A m c] 24)).alloc (.cells #[.int .i64 n, .slice B m2 d] 24)).alloc (.cells #[.int .i64 n, .slice C m3 e] 24)) ⟨_, rfl⟩ (H29.out _ (by repeat (first | exact Ex.refl _ | apply Ex.ext | apply Ex.alloc)))).mono ?_
  rintro e' w' ⟨rfl, zz, rfl⟩
  go_wp2_with fail
  refine (Calls.up (W := ((w.alloc (.cells #[.int .i64 n, .slice A m c] 24)).alloc (.cells #[.int .i64 n, .slice B m2 d] 24)).alloc (.cells #[.int .i64 n, .slice C m3 e] 24)) ⟨_, rfl⟩ (H29b.out _ (by repeat (first | exact Ex.refl _ | apply Ex.ext | apply Ex.alloc)))).mono ?_
  rintro e' w' ⟨rfl, zz, rfl⟩
  go_wp2_with fail
  refine (Calls.up (W := ((w.alloc (.cells #[.int .i64 n, .slice A m c] 24)).alloc (.cells #[.int .i64 n, .slice B m2 d] 24)).alloc (.cells #[.int .i64 n, .slice C m3 e] 24)) ⟨_, rfl⟩ (Hab.out _ (by repeat (first | exact Ex.refl _ | apply Ex.ext | apply Ex.alloc)))).mono ?_
  rintro e' w' ⟨rfl, zz, rfl⟩
  go_wp2_with fail
  refine (Calls.up (W := ((w.alloc (.cells #[.int .i64 n, .slice A m c] 24)).alloc (.cells #[.int .i64 n, .slice B m2 d] 24)).alloc (.cells #[.int .i64 n, .slice C m3 e] 24)) ⟨_, rfl⟩ (Hba.out _ (by repeat (first | exact Ex.refl _ | apply Ex.ext | apply Ex.alloc)))).mono ?_
  rintro e' w' ⟨rfl, zz, rfl⟩
  go_wp2_with fail
  refine (Calls.up (W := ((w.alloc (.cells #[.int .i64 n, .slice A m c] 24)).alloc (.cells #[.int .i64 n, .slice B m2 d] 24)).alloc (.cells #[.int .i64 n, .slice C m3 e] 24)) ⟨_, rfl⟩ (Hbc.out _ (by repeat (first | exact Ex.refl _ | apply Ex.ext | apply Ex.alloc)))).mono ?_
  rintro e' w' ⟨rfl, zz, rfl⟩
  go_wp2_with fail
  refine (Calls.up (W := ((w.alloc (.cells #[.int .i64 n, .slice A m c] 24)).alloc (.cells #[.int .i64 n, .slice B m2 d] 24)).alloc (.cells #[.int .i64 n, .slice C m3 e] 24)) ⟨_, rfl⟩ (Hac.out _ (by repeat (first | exact Ex.refl _ | apply Ex.ext | apply Ex.alloc)))).mono ?_
  rintro e' w' ⟨rfl, zz, rfl⟩
  go_wp2_with fail
  refine (Calls.up (W := ((w.alloc (.cells #[.int .i64 n, .slice A m c] 24)).alloc (.cells #[.int .i64 n, .slice B m2 d] 24)).alloc (.cells #[.int .i64 n, .slice C m3 e] 24)) ⟨_, rfl⟩ (Hsm.out _ (by repeat (first | exact Ex.refl _ | apply Ex.ext | apply Ex.alloc)))).mono ?_
  rintro e' w' ⟨rfl, zz, rfl⟩
  go_wp2_with fail
  refine (HU.out _ (by repeat (first | exact Ex.refl _ | apply Ex.ext | apply Ex.alloc))).mono ?_
  rintro e' w' ⟨g, rfl, hg, hB, hx⟩
  have hE := (((((Ex.refl w).alloc (.cells #[.int .i64 n, .slice A m c] 24)).alloc (.cells #[.int .i64 n, .slice B m2 d] 24)).alloc (.cells #[.int .i64 n, .slice C m3 e] 24)).ext _).trans hx
  have hS := ((((Blk.new w 24 [.int .i64 n, .slice A m c]).alloc (.cells #[.int .i64 n, .slice B m2 d] 24)).alloc (.cells #[.int .i64 n, .slice C m3 e] 24)).ex ⟨_, rfl⟩).ex hx
  have hS2 := (((Blk.new' (w.alloc (.cells #[.int .i64 n, .slice A m c] 24)) (g := w.heap.size + 1) (by simp) 24 [.int .i64 n, .slice B m2 d]).alloc (.cells #[.int .i64 n, .slice C m3 e] 24)).ex ⟨_, rfl⟩).ex hx
  clear hx hg
  have hE2 := hE.alloc (.cells #[.int .i64 n, .slice (some ⟨g, 0, none⟩) zs.length zs.length] 24)
  have hS3 := hS.alloc (.cells #[.int .i64 n, .slice (some ⟨g, 0, none⟩) zs.length zs.length] 24)
  have hS4 := hS2.alloc (.cells #[.int .i64 n, .slice (some ⟨g, 0, none⟩) zs.length zs.length] 24)
  have hB2 := hB.alloc (.cells #[.int .i64 n, .slice (some ⟨g, 0, none⟩) zs.length zs.length] 24)
  have hO := Blk.new w' 24 [.int .i64 n, .slice (some ⟨g, 0, none⟩) zs.length zs.length]
  have HX := Lib.hid (And.intro hE2 (And.intro hS3 (And.intro hS4 (And.intro hB2 hO))))
  clear hE hS hS2 hB hE2 hS3 hS4 hB2 hO HU
  go_wp2
  generalize hW4 : w'.alloc (.cells #[.int .i64 n, .slice (some ⟨g, 0, none⟩) zs.length zs.length] 24) = W4 at *
  generalize w'.heap.size = b15 at *
  obtain ⟨hE2, hS3, hS4, hB2, hO⟩ := HX.out
  clear hW4 HX
  have l0 := hS3.lt
  have l1 := hS4.lt
  have l2 := hO.lt
  have f0 := hS3.cell 0
  have f1 := hS3.cell 1
  have f2 := hS4.cell 0
  have f3 := hS4.cell 1
  have f4 := hO.cell 0
  have f5 := hO.cell 1
  simp only [List.getElem?_cons_zero, List.getElem?_cons_succ] at f0 f1 f2 f3 f4 f5
  have HEx := Lib.hid (fun z : Up W4 => hE2.ext z)
  have HBx := Lib.hid (fun z : Up W4 => hB2.ex ⟨z, rfl⟩)
  clear hE2 hS3 hS4 hB2 hO
  refine wp_region_ext (by kernel_rfl) (by kernel_rfl) ?_
  repeat (go_big_quiet_step (fail))
  go_big_quiet_step ((go_at_call 27; exact quiet_ext (Hau.out _ _ (HEx.out _) (HBx.out _))))
  repeat (go_big_quiet_step (fail))
  go_big_quiet_step ((go_at_call 27; exact quiet_ext (Hsb.out _ (HEx.out _))))
  repeat (go_big_quiet_step (fail))
  go_big_quiet_step ((go_at_call 18; exact quiet_ext (Hub.out _ _ (HEx.out _) (HBx.out _))))
  repeat (go_big_quiet_step (fail))
  go_big_quiet_step ((go_at_call 27; exact quiet_ext (Hsb.out _ (HEx.out _))))
  repeat (go_big_quiet_step (fail))
  refine wpQuiet_end (fun z => ?_)
  go_wp2
  go_ret
  exact Ret.mk rfl (HEx.out _)
theorem total_c (N N2 N3 : Int) (A B C : Option Addr) (c d e : Nat) (ws us vs : List Nat) (w : World) (hT : Tab w) (hC : Cells w A (u64s ws)) (hD : Cells w B (u64s us)) (hE : Cells w C (u64s vs)) (hw : Wd ws) (hu : Wd us) (hvs : Wd vs) :
    Calls Tryd.prog 9 #[.agg #[.int .i64 N, .slice A ws.length c], .agg #[.int .i64 N2, .slice B us.length d], .agg #[.int .i64 N3, .slice C vs.length e]] w (Ret w (.bool true)) := by
  cases h20 : (decide (ws.length ≤ 20) && (decide (us.length ≤ 20) && decide (vs.length ≤ 20)))
  · exact total_few N N2 N3 A B C c d e ws us vs w hT h20
  cases h : (validB N ws && (validB N2 us && decide (N = N2)))
  · exact total_ab N N2 N3 A B C c d e ws us vs w hT hC hD hE hw hu hvs h20 h
  cases h2 : (validB N2 us && (validB N3 vs && decide (N2 = N3)))
  · exact total_bc N N2 N3 A B C c d e ws us vs w hT hC hD hE hw hu hvs h20 h h2
  obtain ⟨n, rfl, rfl, hv, hvu⟩ := both_valid h
  obtain ⟨n', e0, rfl, -, hvv⟩ := both_valid h2
  have : n' = n := by omega
  subst this
  have e5 := sub_or hv hvu hw hu
  have hneg := cmpS_neg n' ws us
  have hle := sub_le hv hvu hw hu
  have htr := fun h k => cmpS_trans (n := n') (ws := ws) (us := us) (vs := vs) h k
  rcases cmpS_range n' ws us with h1 | h1 | h1
  · have hq := cmpS_zero hv hvu hw hu h1
    have hR : subS n' ws us = true := by rw [subS_iff, hq]; exact fun _ _ h => h
    rw [hR] at e5
    rw [h1] at hneg
    by_cases h3 : cmpS n' us vs ≤ 0
    · exact total_z_t n' A B C c d e ws us vs w hT hC hD hE hw hu hvs h20 hv hvu hvv h1 hneg (by simpa using hq) hR e5 h3 (htr (by omega) h3)
    · exact total_z_f n' A B C c d e ws us vs w hT hC hD hE hw hu hvs h20 hv hvu hvv h1 hneg (by simpa using hq) hR e5 (by omega)
  · have hq : decide (ws = us) = false := by rw [decide_eq_false_iff_not]; intro h; rw [h, cmpS_self] at h1; omega
    have hR : subS n' ws us = false := by rw [Bool.eq_false_iff]; intro h; have := hle h; omega
    rw [hR] at e5
    rw [h1] at hneg
    exact total_p n' A B C c d e ws us vs w hT hC hD hE hw hu hvs h20 hv hvu hvv h1 hneg hq hR e5
  · have hq : decide (ws = us) = false := by rw [decide_eq_false_iff_not]; intro h; rw [h, cmpS_self] at h1; omega
    rw [h1] at hneg
    cases hR : subS n' ws us
    · rw [hR] at e5
      by_cases h3 : cmpS n' us vs ≤ 0
      · exact total_m_f_t n' A B C c d e ws us vs w hT hC hD hE hw hu hvs h20 hv hvu hvv h1 hneg hq hR e5 h3 (htr (by omega) h3)
      · exact total_m_f_f n' A B C c d e ws us vs w hT hC hD hE hw hu hvs h20 hv hvu hvv h1 hneg hq hR e5 (by omega)
    · rw [hR] at e5
      by_cases h3 : cmpS n' us vs ≤ 0
      · exact total_m_t_t n' A B C c d e ws us vs w hT hC hD hE hw hu hvs h20 hv hvu hvv h1 hneg hq hR e5 h3 (htr (by omega) h3)
      · exact total_m_t_f n' A B C c d e ws us vs w hT hC hD hE hw hu hvs h20 hv hvu hvv h1 hneg hq hR e5 (by omega)
end Go.Proofs.YtfinldppcdkeoaaDoor
