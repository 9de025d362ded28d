/-
  Subset and the reference's order; the law of the orders: its walk.
  Conditions: words below 2^64.
-/
import Derived.Test.YtfinldppcdkeoaaDoorWo
namespace Go.Proofs.YtfinldppcdkeoaaDoor
open Go.RowKit Bm
theorem zip_valid {f : Nat → Nat → Nat} {g : Bool → Bool → Bool} (hf : ∀ x y t, t < 64 → (f x y).testBit t = g (x.testBit t) (y.testBit t)) (h0 : f 0 0 = 0) (hg : g false false = false) {n : Nat} {ws us : List Nat} (hv : Valid n ws) (hu : Valid n us) : Valid n (List.zipWith f ws us) := by
  have hl : ws.length = us.length := by rw [hv.len, hu.len]
  refine ⟨hv.le, by rw [List.length_zipWith, ← hl, Nat.min_self, hv.len], fun i hi => ?_⟩
  rw [bit_zip hf h0 hl, hv.clean i hi, hu.clean i hi, hg]
theorem zip_wd {f : Nat → Nat → Nat} (hf : ∀ x y, x < 2 ^ 64 → y < 2 ^ 64 → f x y < 2 ^ 64) {ws us : List Nat} (hw : Wd ws) (hu : Wd us) : Wd (List.zipWith f ws us) := by
  intro x hx
  obtain ⟨i, hi, rfl⟩ := List.getElem_of_mem hx
  rw [List.getElem_zipWith]
  exact hf _ _ (hw _ (List.getElem_mem _)) (hu _ (List.getElem_mem _))
theorem andNot_lt (x y : Nat) (hx : x < 2 ^ 64) (_hy : y < 2 ^ 64) : andNot x y < 2 ^ 64 := by
  unfold andNot; exact Nat.lt_of_le_of_lt Nat.and_le_left hx
theorem or_lt (x y : Nat) (hx : x < 2 ^ 64) (hy : y < 2 ^ 64) : (fun x y => x ||| y) x y < 2 ^ 64 := Nat.or_lt_two_pow hx hy
theorem and_lt (x y : Nat) (hx : x < 2 ^ 64) (_hy : y < 2 ^ 64) : (fun x y => x &&& y) x y < 2 ^ 64 := Nat.lt_of_le_of_lt Nat.and_le_left hx
theorem or_bits (x y t : Nat) (_ht : t < 64) : ((fun x y => x ||| y) x y).testBit t = (x.testBit t || y.testBit t) := Nat.testBit_or x y t
theorem and_bits (x y t : Nat) (_ht : t < 64) : ((fun x y => x &&& y) x y).testBit t = (x.testBit t && y.testBit t) := Nat.testBit_and x y t
theorem andNot_bits (x y t : Nat) (ht : t < 64) : (andNot x y).testBit t = (x.testBit t && !y.testBit t) := testBit_andNot x y t ht
def subS (n : Nat) (ws us : List Nat) : Bool := (List.range n).all fun i => !bitAt ws i || bitAt us i
theorem subS_iff (n : Nat) (ws us : List Nat) : subS n ws us = true ↔ ∀ i, i < n → bitAt ws i = true → bitAt us i = true := by
  unfold subS
  rw [List.all_eq_true]
  constructor
  · intro h i hi hb
    have := h i (by simpa using hi)
    simpa [hb] using this
  · intro h i hi
    have := h i (by simpa using hi)
    cases hb : bitAt ws i
    · simp
    · simp [this hb]
theorem subS_minus {n : Nat} {ws us : List Nat} (hl : ws.length = us.length) : subS n ws us = decide ((mems n (List.zipWith andNot ws us)).length = 0) := by
  rw [Bool.eq_iff_iff, subS_iff, decide_eq_true_iff, List.length_eq_zero_iff, List.eq_nil_iff_forall_not_mem]
  constructor
  · intro h i hi
    rw [mem_mems, bit_zip (g := fun x y => x && !y) (fun x y t ht => andNot_bits x y t ht) rfl hl] at hi
    have h2 := h i hi.1
    cases ha : bitAt ws i <;> cases hb : bitAt us i <;> simp [ha, hb] at hi h2
  · intro h i hi hb
    have h2 := h i
    rw [mem_mems, bit_zip (g := fun x y => x && !y) (fun x y t ht => andNot_bits x y t ht) rfl hl] at h2
    cases hc : bitAt us i
    · exact absurd ⟨hi, by simp [hb, hc]⟩ h2
    · rfl
set_option maxHeartbeats 800000 in
theorem bSubset_ok (n : Nat) (A B : Option Addr) (c d : Nat) (ws us : List Nat) (w : World) (hC : Cells w A (u64s ws)) (hD : Cells w B (u64s us)) (hw : Wd ws) (hu : Wd us) (hv : Valid n ws) (hvu : Valid n us) :
    Calls Tryd.prog 27 #[.agg #[.int .i64 n, .slice A ws.length c], .agg #[.int .i64 n, .slice B us.length d]] w (Ret w (.bool (subS n ws us))) := by
  have hl : ws.length = us.length := by rw [hv.len, hvu.len]
  have H1 := Lib.hid (fun w' (hx : Ex w w') => minus_ok n A B c d ws us w' (hC.ex hx) (hD.ex hx) hw hu hv hvu)
  have hvz := zip_valid (f := andNot) (g := fun x y => x && !y) andNot_bits rfl rfl hv hvu
  have hwz := zip_wd andNot_lt hw hu
  have HV := Lib.hid (subS_minus (n := n) hl)
  rw [← cntB_ok hvz] at HV
  have H2 := Lib.hid (fun w' g (hB : Blk w' g 54 (u64s (List.zipWith andNot ws us))) => bCount_c n (some ⟨g, 0, none⟩) (List.zipWith andNot ws us).length (List.zipWith andNot ws us) w' hB.cells hwz)
  have hq : ((cntB n (List.zipWith andNot ws us) : Int) == 0) = decide (cntB n (List.zipWith andNot ws us) = 0) := by rw [Bool.eq_iff_iff, beq_iff_eq, decide_eq_true_iff]; omega
  clear hC hD hw hu hv hvu hvz hwz hl
  generalize subS n ws us = R at *
  generalize List.zipWith andNot ws us = zs at *
  generalize cntB n zs = k at *
  generalize ws.length = m at *
  generalize us.length = m2 at *
  go_enter Tryd.func27, Tryd.ntmps27
  go_wp2_with fail
  refine (H1.out _ (by repeat (first | exact Ex.refl _ | apply Ex.ext | apply Ex.alloc))).mono ?_
  rintro e w' ⟨g, rfl, hg, hB, hx⟩
  have hE := (((Ex.refl w).alloc (.cells #[.int .i64 n, .slice A m c] 24)).alloc (.cells #[.int .i64 n, .slice B m2 d] 24)).trans hx
  clear hx hg H1
  have hB2 := hB.alloc (.cells #[.int .i64 n, .slice (some ⟨g, 0, none⟩) zs.length zs.length] 24)
  have hE2 := hE.alloc (.cells #[.int .i64 n, .slice (some ⟨g, 0, none⟩) zs.length zs.length] 24)
  have HB2 := Lib.hid hB2
  have HE2 := Lib.hid hE2
  clear hB hE hB2 hE2
  go_wp2_with fail
  refine (H2.out _ _ HB2.out).mono ?_
  rintro e w2 ⟨rfl, hx⟩
  have HE3 := Lib.hid (HE2.out.trans hx)
  clear hx
  go_wp2
  go_ret
  exact Ret.mk (by rw [HV.out]; rfl) HE3.out
set_option maxHeartbeats 800000 in
theorem bSubset_bad (n p : Int) (A B : Option Addr) (c d : Nat) (ws us : List Nat) (w : World) (hC : Cells w A (u64s ws)) (hD : Cells w B (u64s us)) (hw : Wd ws) (hu : Wd us) (h : (validB n ws && (validB p us && decide (n = p))) = false) :
    Calls Tryd.prog 27 #[.agg #[.int .i64 n, .slice A ws.length c], .agg #[.int .i64 p, .slice B us.length d]] w (Ret w (.bool false)) := by
  have H1 := Lib.hid (fun w' (hx : Ex w w') => minus_arg n p A B c d ws us w' (hC.ex hx) (hD.ex hx) hw hu h)
  clear hC hD hw hu h
  generalize ws.length = m at *
  generalize us.length = m2 at *
  go_enter Tryd.func27, Tryd.ntmps27
  go_wp2_with fail
  refine (H1.out _ (by repeat (first | exact Ex.refl _ | apply Ex.ext | apply Ex.alloc))).mono ?_
  rintro e w' ⟨rfl, hx⟩
  unfold Zero
  have HE := Lib.hid (((((Ex.refl w).alloc (.cells #[.int .i64 n, .slice A m c] 24)).alloc (.cells #[.int .i64 p, .slice B m2 d] 24)).trans hx).alloc (.cells #[.int .i64 0, .slice none 0 0] 24))
  clear hx H1
  go_wp2
  go_ret
  exact Ret.mk rfl HE.out
set_option maxHeartbeats 800000 in
theorem rSubset_bad (n p : Int) (A B : Option Addr) (c d : Nat) (ws us : List Nat) (w : World) (hC : Cells w A (u64s ws)) (hD : Cells w B (u64s us)) (hw : Wd ws) (hu : Wd us) (h : (validB n ws && (validB p us && decide (n = p))) = false) :
    Calls Tryd.prog 28 #[.agg #[.int .i64 n, .slice A ws.length c], .agg #[.int .i64 p, .slice B us.length d]] w (Ret w (.bool false)) := by
  have H1 := Lib.hid (fun w' (hx : Ex w w') => comparable_c n p A B c d ws us w' (hC.ex hx) (hD.ex hx) hw hu)
  rw [h] at H1
  clear hC hD hw hu h
  generalize ws.length = m at *
  generalize us.length = m2 at *
  go_enter Tryd.func28, Tryd.ntmps28
  go_wp2_with fail
  refine (H1.out _ (by repeat (first | exact Ex.refl _ | apply Ex.ext | apply Ex.alloc))).mono ?_
  rintro e w' ⟨rfl, y, rfl⟩
  go_wp2
  go_ret
  exact Ret.mk rfl ((((Ex.refl _).alloc _).alloc _).ext _)
set_option maxHeartbeats 1600000 in
theorem rSubset_ok (n : Nat) (A B : Option Addr) (c d : Nat) (ws us : List Nat) (w : World) (hC : Cells w A (u64s ws)) (hD : Cells w B (u64s us)) (hw : Wd ws) (hu : Wd us) (hv : Valid n ws) (hvu : Valid n us) :
    Calls Tryd.prog 28 #[.agg #[.int .i64 n, .slice A ws.length c], .agg #[.int .i64 n, .slice B us.length d]] w (Ret w (.bool (subS n ws us))) := by
  have H1 := Lib.hid (fun w' (hx : Ex w w') => comparable_c n n A B c d ws us w' (hC.ex hx) (hD.ex hx) hw hu)
  rw [(validB_iff n ws).2 ⟨n, rfl, hv⟩, (validB_iff n us).2 ⟨n, rfl, hvu⟩, decide_eq_true (rfl : (n : Int) = n)] at H1
  have HA := Lib.hid (fun (w' : World) (hx : Ex w w') (i : Nat) (hi : i < n) => bit_c n i A c w' ws (hC.ex hx) hw (by have := hv.len; have := hv.le; omega) (by have := hv.len; have := hv.le; omega))
  have HB := Lib.hid (fun (w' : World) (hx : Ex w w') (i : Nat) (hi : i < n) => bit_c n i B d w' us (hD.ex hx) hu (by have := hvu.len; have := hvu.le; omega) (by have := hvu.len; have := hvu.le; omega))
  have HV := Lib.hid (subS_iff n ws us)
  have hn := hv.le
  clear hC hD hw hu hv hvu
  generalize subS n ws us = R at *
  generalize ws.length = m at *
  generalize us.length = m2 at *
  go_enter Tryd.func28, Tryd.ntmps28
  go_wp2_with fail
  refine (H1.out _ (by repeat (first | exact Ex.refl _ | apply Ex.ext | apply Ex.alloc))).mono ?_
  rintro e w' ⟨rfl, y, rfl⟩
  go_wp2
  go_loopw [5] (fun i wr => ∃ k : Nat, i = .int .i64 k ∧ k ≤ n ∧ Hid (∀ j, j < k → bitAt ws j = true → bitAt us j = true) ∧ Ex ((w.alloc (.cells #[.int .i64 n, .slice A m c] 24)).alloc (.cells #[.int .i64 n, .slice B m2 d] 24)) wr)
    (fun i _ => n - (intOf i).toNat)
  case atStart => exact ⟨0, rfl, by omega, fun j _ => by omega, ⟨_, rfl⟩⟩
  case round =>
    obtain ⟨k, rfl, hk, hk3, z, rfl⟩ := hrel
    by_cases hlt : k < n
    · have HAk := Lib.hid (fun w' hx => HA.out w' hx k hlt)
      have HBk := Lib.hid (fun w' hx => HB.out w' hx k hlt)
      cases ha : bitAt ws k
      · have HN : Hid (bitAt ws k = true → bitAt us k = true) := fun h => by rw [ha] at h; cases h
        rw [ha] at HAk; clear ha
        go_wp2_with fail
        refine (Calls.up (W := (w.alloc (.cells #[.int .i64 n, .slice A m c] 24)).alloc (.cells #[.int .i64 n, .slice B m2 d] 24)) ⟨_, rfl⟩ (HAk.out _ (by repeat (first | exact Ex.refl _ | apply Ex.ext | apply Ex.alloc)))).mono ?_
        rintro e w' ⟨rfl, y2, rfl⟩
        go_wp2
        go_roundw
        case rel =>
          refine ⟨k + 1, by go_num, by omega, ?_, ⟨_, rfl⟩⟩
          intro j h1
          by_cases hj : j = k
          · rw [hj]; exact HN.out
          · exact hk3 j (by omega)
        case measure => simp [intOf]; omega
      · cases hb : bitAt us k
        · have HR : Hid (R = false) := by
            show R = false
            rw [Bool.eq_false_iff]
            intro hR
            have := HV.out.1 hR k hlt ha
            rw [hb] at this; cases this
          rw [ha] at HAk; rw [hb] at HBk; clear ha hb
          go_wp2_with fail
          refine (Calls.up (W := (w.alloc (.cells #[.int .i64 n, .slice A m c] 24)).alloc (.cells #[.int .i64 n, .slice B m2 d] 24)) ⟨_, rfl⟩ (HAk.out _ (by repeat (first | exact Ex.refl _ | apply Ex.ext | apply Ex.alloc)))).mono ?_
          rintro e w' ⟨rfl, y2, rfl⟩
          go_wp2_with fail
          refine (Calls.up (W := (w.alloc (.cells #[.int .i64 n, .slice A m c] 24)).alloc (.cells #[.int .i64 n, .slice B m2 d] 24)) ⟨_, rfl⟩ (HBk.out _ (by repeat (first | exact Ex.refl _ | apply Ex.ext | apply Ex.alloc)))).mono ?_
          rintro e w' ⟨rfl, y3, rfl⟩
          go_wp2
          go_ret
          exact Ret.mk (by rw [HR.out]; rfl) ((((Ex.refl _).alloc _).alloc _).ext _)
        · have HN : Hid (bitAt ws k = true → bitAt us k = true) := fun _ => hb
          rw [ha] at HAk; rw [hb] at HBk; clear ha hb
          go_wp2_with fail
          refine (Calls.up (W := (w.alloc (.cells #[.int .i64 n, .slice A m c] 24)).alloc (.cells #[.int .i64 n, .slice B m2 d] 24)) ⟨_, rfl⟩ (HAk.out _ (by repeat (first | exact Ex.refl _ | apply Ex.ext | apply Ex.alloc)))).mono ?_
          rintro e w' ⟨rfl, y2, rfl⟩
          go_wp2_with fail
          refine (Calls.up (W := (w.alloc (.cells #[.int .i64 n, .slice A m c] 24)).alloc (.cells #[.int .i64 n, .slice B m2 d] 24)) ⟨_, rfl⟩ (HBk.out _ (by repeat (first | exact Ex.refl _ | apply Ex.ext | apply Ex.alloc)))).mono ?_
          rintro e w' ⟨rfl, y3, rfl⟩
          go_wp2
          go_roundw
          case rel =>
            refine ⟨k + 1, by go_num, by omega, ?_, ⟨_, rfl⟩⟩
            intro j h1
            by_cases hj : j = k
            · rw [hj]; exact HN.out
            · exact hk3 j (by omega)
          case measure => simp [intOf]; omega
    · have HR : Hid (R = true) := HV.out.2 fun i hi => hk3 i (by omega)
      go_wp2
      go_ret
      exact Ret.mk (by rw [HR.out]; rfl) ((((Ex.refl _).alloc _).alloc _).ext _)
theorem fd_here {a b : Nat → Bool} {n k : Nat} (hk : k < n) (hlow : ∀ j, j < k → a j = b j) (h : a k ≠ b k) : fd a b (List.range n) = if a k then -1 else 1 := by
  obtain ⟨r, rfl⟩ : ∃ r, n = k + (1 + r) := ⟨n - k - 1, by omega⟩
  rw [range_cut, fd_append, fd_at h]
  intro i hi
  exact hlow i (by simpa using hi)

set_option maxHeartbeats 800000 in
theorem rCompare_lt (n : Nat) (A B : Option Addr) (c d : Nat) (ws us : List Nat) (w : World) (hC : Cells w A (u64s ws)) (hD : Cells w B (u64s us)) (hw : Wd ws) (hu : Wd us) (hv : Valid n ws) (hvu : Valid n us)
    (h : (mems n ws).length < (mems n us).length) :
    Calls Tryd.prog 30 #[.agg #[.int .i64 n, .slice A ws.length c], .agg #[.int .i64 n, .slice B us.length d]] w (Ret w (.int .i64 (-1))) := by
  have H1 := Lib.hid (fun w' (hx : Ex w w') => rCount_c n A c ws w' (hC.ex hx) hw)
  have H2 := Lib.hid (fun w' (hx : Ex w w') => rCount_c n B d us w' (hD.ex hx) hu)
  rw [cntB_ok hv] at H1
  rw [cntB_ok hvu] at H2
  clear hC hD hw hu hv hvu
  generalize (mems n ws).length = x at *
  generalize (mems n us).length = y at *
  generalize ws.length = m at *
  generalize us.length = m2 at *
  have h2 : (x : Int) < (y : Int) := by omega

  go_enter Tryd.func30, Tryd.ntmps30
  go_wp2
  refine wp_region_ext (by kernel_rfl) (by kernel_rfl) ?_
  repeat (go_big_quiet_step (fail))
  go_big_quiet_step ((go_at_call 26; exact quiet_ext (H1.out _ (by repeat (first | exact Ex.refl _ | apply Ex.ext | apply Ex.alloc)))))
  repeat (go_big_quiet_step (fail))
  go_big_quiet_step ((go_at_call 26; exact quiet_ext (H2.out _ (by repeat (first | exact Ex.refl _ | apply Ex.ext | apply Ex.alloc)))))
  repeat (go_big_quiet_step (fail))
  refine wpQuiet_end (fun z => ?_)
  go_wp2
  go_ret
  exact Ret.mk rfl ((((Ex.refl _).alloc _).alloc _).ext _)

set_option maxHeartbeats 800000 in
theorem rCompare_gt (n : Nat) (A B : Option Addr) (c d : Nat) (ws us : List Nat) (w : World) (hC : Cells w A (u64s ws)) (hD : Cells w B (u64s us)) (hw : Wd ws) (hu : Wd us) (hv : Valid n ws) (hvu : Valid n us)
    (h : (mems n us).length < (mems n ws).length) :
    Calls Tryd.prog 30 #[.agg #[.int .i64 n, .slice A ws.length c], .agg #[.int .i64 n, .slice B us.length d]] w (Ret w (.int .i64 (1))) := by
  have H1 := Lib.hid (fun w' (hx : Ex w w') => rCount_c n A c ws w' (hC.ex hx) hw)
  have H2 := Lib.hid (fun w' (hx : Ex w w') => rCount_c n B d us w' (hD.ex hx) hu)
  rw [cntB_ok hv] at H1
  rw [cntB_ok hvu] at H2
  clear hC hD hw hu hv hvu
  generalize (mems n ws).length = x at *
  generalize (mems n us).length = y at *
  generalize ws.length = m at *
  generalize us.length = m2 at *
  have h2 : (y : Int) < (x : Int) := by omega
  have h3 : ¬ x < y := by omega
  go_enter Tryd.func30, Tryd.ntmps30
  go_wp2
  refine wp_region_ext (by kernel_rfl) (by kernel_rfl) ?_
  repeat (go_big_quiet_step (fail))
  go_big_quiet_step ((go_at_call 26; exact quiet_ext (H1.out _ (by repeat (first | exact Ex.refl _ | apply Ex.ext | apply Ex.alloc)))))
  repeat (go_big_quiet_step (fail))
  go_big_quiet_step ((go_at_call 26; exact quiet_ext (H2.out _ (by repeat (first | exact Ex.refl _ | apply Ex.ext | apply Ex.alloc)))))
  repeat (go_big_quiet_step (fail))
  refine wpQuiet_end (fun z => ?_)
  go_wp2
  go_ret
  exact Ret.mk rfl ((((Ex.refl _).alloc _).alloc _).ext _)

set_option maxHeartbeats 1600000 in
theorem rCompare_eq (n : Nat) (A B : Option Addr) (c d : Nat) (ws us : List Nat) (w : World) (hC : Cells w A (u64s ws)) (hD : Cells w B (u64s us)) (hw : Wd ws) (hu : Wd us) (hv : Valid n ws) (hvu : Valid n us)
    (h : (mems n ws).length = (mems n us).length) :
    Calls Tryd.prog 30 #[.agg #[.int .i64 n, .slice A ws.length c], .agg #[.int .i64 n, .slice B us.length d]] w (Ret w (.int .i64 (fd (bitAt ws) (bitAt us) (List.range n)))) := by
  have H1 := Lib.hid (fun w' (hx : Ex w w') => rCount_c n A c ws w' (hC.ex hx) hw)
  have H2 := Lib.hid (fun w' (hx : Ex w w') => rCount_c n B d us w' (hD.ex hx) hu)
  rw [cntB_ok hv] at H1
  rw [cntB_ok hvu] at H2
  have HA := Lib.hid (fun (w' : World) (hx : Ex w w') (i : Nat) (hi : i < n) => bit_c n i A c w' ws (hC.ex hx) hw (by have := hv.len; have := hv.le; omega) (by have := hv.len; have := hv.le; omega))
  have HB := Lib.hid (fun (w' : World) (hx : Ex w w') (i : Nat) (hi : i < n) => bit_c n i B d w' us (hD.ex hx) hu (by have := hvu.len; have := hvu.le; omega) (by have := hvu.len; have := hvu.le; omega))
  have HF := Lib.hid (fun k hk => fd_here (a := bitAt ws) (b := bitAt us) (n := n) (k := k) hk)
  have HS : Hid ((∀ i ∈ List.range n, bitAt ws i = bitAt us i) → fd (bitAt ws) (bitAt us) (List.range n) = 0) := fun h => fd_same h
  have hn := hv.le
  clear hC hD hw hu hv hvu
  rw [← h] at H2
  clear h
  generalize fd (bitAt ws) (bitAt us) (List.range n) = R at *
  generalize (mems n ws).length = x at *
  generalize ws.length = m at *
  generalize us.length = m2 at *
  have g1 : decide ((x : Int) < (x : Int)) = false := by simp
  go_enter Tryd.func30, Tryd.ntmps30
  go_wp2
  refine wp_region_ext (by kernel_rfl) (by kernel_rfl) ?_
  repeat (go_big_quiet_step (fail))
  go_big_quiet_step ((go_at_call 26; exact quiet_ext (H1.out _ (by repeat (first | exact Ex.refl _ | apply Ex.ext | apply Ex.alloc)))))
  repeat (go_big_quiet_step (fail))
  go_big_quiet_step ((go_at_call 26; exact quiet_ext (H2.out _ (by repeat (first | exact Ex.refl _ | apply Ex.ext | apply Ex.alloc)))))
  repeat (go_big_quiet_step (fail))
  refine wpQuiet_end (fun z => ?_)
  go_wp2
  go_loopw [7] (fun i wr => ∃ k : Nat, i = .int .i64 k ∧ k ≤ n ∧ Hid (∀ j, j < k → bitAt ws j = bitAt us j) ∧ Ex ((w.alloc (.cells #[.int .i64 n, .slice A m c] 24)).alloc (.cells #[.int .i64 n, .slice B m2 d] 24)) wr)
    (fun i _ => n - (intOf i).toNat)
  case atStart => exact ⟨0, rfl, by omega, fun j _ => by omega, ⟨_, rfl⟩⟩
  case round =>
    obtain ⟨k, rfl, hk, hk3, z2, rfl⟩ := hrel
    by_cases hlt : k < n
    · have HAk := Lib.hid (fun w' hx => HA.out w' hx k hlt)
      have HBk := Lib.hid (fun w' hx => HB.out w' hx k hlt)
      have HFk := Lib.hid (HF.out k hlt hk3)
      clear g1 H1 H2
      cases ha : bitAt ws k
      · cases hb : bitAt us k
        · have HN : Hid (bitAt ws k = bitAt us k) := by show bitAt ws k = bitAt us k; rw [ha, hb]
          rw [ha] at HAk; rw [hb] at HBk; clear ha hb HFk
          go_wp2_with fail
          refine (Calls.up (W := (w.alloc (.cells #[.int .i64 n, .slice A m c] 24)).alloc (.cells #[.int .i64 n, .slice B m2 d] 24)) ⟨_, rfl⟩ (HAk.out _ (by repeat (first | exact Ex.refl _ | apply Ex.ext | apply Ex.alloc)))).mono ?_
          rintro e w' ⟨rfl, y1, rfl⟩
          go_wp2_with fail
          refine (Calls.up (W := (w.alloc (.cells #[.int .i64 n, .slice A m c] 24)).alloc (.cells #[.int .i64 n, .slice B m2 d] 24)) ⟨_, rfl⟩ (HAk.out _ (by repeat (first | exact Ex.refl _ | apply Ex.ext | apply Ex.alloc)))).mono ?_
          rintro e w' ⟨rfl, y2, rfl⟩
          go_wp2_with fail
          refine (Calls.up (W := (w.alloc (.cells #[.int .i64 n, .slice A m c] 24)).alloc (.cells #[.int .i64 n, .slice B m2 d] 24)) ⟨_, rfl⟩ (HBk.out _ (by repeat (first | exact Ex.refl _ | apply Ex.ext | apply Ex.alloc)))).mono ?_
          rintro e w' ⟨rfl, y3, rfl⟩
          go_wp2
          go_roundw
          case rel =>
            refine ⟨k + 1, by go_num, by omega, ?_, ⟨_, rfl⟩⟩
            intro j h1
            by_cases hj : j = k
            · rw [hj]; exact HN.out
            · exact hk3 j (by omega)
          case measure => simp [intOf]; omega
        · have HR : Hid (R = 1) := by
            show R = 1
            rw [HFk.out (by rw [ha, hb]; decide), ha]; rfl
          rw [ha] at HAk; rw [hb] at HBk; clear ha hb HFk
          go_wp2_with fail
          refine (Calls.up (W := (w.alloc (.cells #[.int .i64 n, .slice A m c] 24)).alloc (.cells #[.int .i64 n, .slice B m2 d] 24)) ⟨_, rfl⟩ (HAk.out _ (by repeat (first | exact Ex.refl _ | apply Ex.ext | apply Ex.alloc)))).mono ?_
          rintro e w' ⟨rfl, y1, rfl⟩
          go_wp2_with fail
          refine (Calls.up (W := (w.alloc (.cells #[.int .i64 n, .slice A m c] 24)).alloc (.cells #[.int .i64 n, .slice B m2 d] 24)) ⟨_, rfl⟩ (HAk.out _ (by repeat (first | exact Ex.refl _ | apply Ex.ext | apply Ex.alloc)))).mono ?_
          rintro e w' ⟨rfl, y2, rfl⟩
          go_wp2_with fail
          refine (Calls.up (W := (w.alloc (.cells #[.int .i64 n, .slice A m c] 24)).alloc (.cells #[.int .i64 n, .slice B m2 d] 24)) ⟨_, rfl⟩ (HBk.out _ (by repeat (first | exact Ex.refl _ | apply Ex.ext | apply Ex.alloc)))).mono ?_
          rintro e w' ⟨rfl, y3, rfl⟩
          go_wp2
          go_ret
          exact Ret.mk (by rw [HR.out]; rfl) ((((Ex.refl _).alloc _).alloc _).ext _)
      · cases hb : bitAt us k
        · have HR : Hid (R = -1) := by
            show R = -1
            rw [HFk.out (by rw [ha, hb]; decide), ha]; rfl
          rw [ha] at HAk; rw [hb] at HBk; clear ha hb HFk
          go_wp2_with fail
          refine (Calls.up (W := (w.alloc (.cells #[.int .i64 n, .slice A m c] 24)).alloc (.cells #[.int .i64 n, .slice B m2 d] 24)) ⟨_, rfl⟩ (HAk.out _ (by repeat (first | exact Ex.refl _ | apply Ex.ext | apply Ex.alloc)))).mono ?_
          rintro e w' ⟨rfl, y1, rfl⟩
          go_wp2_with fail
          refine (Calls.up (W := (w.alloc (.cells #[.int .i64 n, .slice A m c] 24)).alloc (.cells #[.int .i64 n, .slice B m2 d] 24)) ⟨_, rfl⟩ (HBk.out _ (by repeat (first | exact Ex.refl _ | apply Ex.ext | apply Ex.alloc)))).mono ?_
          rintro e w' ⟨rfl, y2, rfl⟩
          go_wp2
          go_ret
          exact Ret.mk (by rw [HR.out]; rfl) ((((Ex.refl _).alloc _).alloc _).ext _)
        · have HN : Hid (bitAt ws k = bitAt us k) := by show bitAt ws k = bitAt us k; rw [ha, hb]
          rw [ha] at HAk; rw [hb] at HBk; clear ha hb HFk
          go_wp2_with fail
          refine (Calls.up (W := (w.alloc (.cells #[.int .i64 n, .slice A m c] 24)).alloc (.cells #[.int .i64 n, .slice B m2 d] 24)) ⟨_, rfl⟩ (HAk.out _ (by repeat (first | exact Ex.refl _ | apply Ex.ext | apply Ex.alloc)))).mono ?_
          rintro e w' ⟨rfl, y1, rfl⟩
          go_wp2_with fail
          refine (Calls.up (W := (w.alloc (.cells #[.int .i64 n, .slice A m c] 24)).alloc (.cells #[.int .i64 n, .slice B m2 d] 24)) ⟨_, rfl⟩ (HBk.out _ (by repeat (first | exact Ex.refl _ | apply Ex.ext | apply Ex.alloc)))).mono ?_
          rintro e w' ⟨rfl, y2, rfl⟩
          go_wp2_with fail
          refine (Calls.up (W := (w.alloc (.cells #[.int .i64 n, .slice A m c] 24)).alloc (.cells #[.int .i64 n, .slice B m2 d] 24)) ⟨_, rfl⟩ (HAk.out _ (by repeat (first | exact Ex.refl _ | apply Ex.ext | apply Ex.alloc)))).mono ?_
          rintro e w' ⟨rfl, y3, rfl⟩
          go_wp2
          go_roundw
          case rel =>
            refine ⟨k + 1, by go_num, by omega, ?_, ⟨_, rfl⟩⟩
            intro j h1
            by_cases hj : j = k
            · rw [hj]; exact HN.out
            · exact hk3 j (by omega)
          case measure => simp [intOf]; omega
    · have HR : Hid (R = 0) := HS.out fun i hi => hk3 i (by have := List.mem_range.1 hi; omega)
      go_wp2
      go_ret
      exact Ret.mk (by rw [HR.out]; rfl) ((((Ex.refl _).alloc _).alloc _).ext _)
theorem rCompare_ok (n : Nat) (A B : Option Addr) (c d : Nat) (ws us : List Nat) (w : World) (hC : Cells w A (u64s ws)) (hD : Cells w B (u64s us)) (hw : Wd ws) (hu : Wd us) (hv : Valid n ws) (hvu : Valid n us) :
    Calls Tryd.prog 30 #[.agg #[.int .i64 n, .slice A ws.length c], .agg #[.int .i64 n, .slice B us.length d]] w (Ret w (.int .i64 (cmpS n ws us))) := by
  unfold cmpS
  by_cases h1 : (mems n ws).length < (mems n us).length
  · rw [if_pos h1]; exact rCompare_lt n A B c d ws us w hC hD hw hu hv hvu h1
  · rw [if_neg h1]
    by_cases h2 : (mems n us).length < (mems n ws).length
    · rw [if_pos h2]; exact rCompare_gt n A B c d ws us w hC hD hw hu hv hvu h2
    · rw [if_neg h2]; exact rCompare_eq n A B c d ws us w hC hD hw hu hv hvu (by omega)

theorem few2_guard (m m2 : Nat) (h : 20 < m ∨ 20 < m2) : (decide (m ≤ 20) && decide (m2 ≤ 20)) = false := by
  rw [Bool.and_eq_false_iff, decide_eq_false_iff_not, decide_eq_false_iff_not]; omega
set_option maxHeartbeats 800000 in
theorem orders_guard (N N2 : Int) (A B : Option Addr) (m c m2 d : Nat) (w : World) (hT : Tab w) (h : (decide (m ≤ 20) && decide (m2 ≤ 20)) = false) :
    Calls Tryd.prog 4 #[.agg #[.int .i64 N, .slice A m c], .agg #[.int .i64 N2, .slice B m2 d]] w (Ret w (.bool true)) := by
  have HAw := Lib.hid (fun w' (hx : Ex w w') => awake_c w' (hT.ex hx))
  have HF := Lib.hid (fun w' g (hB : Blk w' g 24 [.int .i64 N, .slice A m c, .int .i64 N2, .slice B m2 d]) => few_two w' g 24 N N2 A B m c m2 d hB)
  rw [h] at HF
  clear hT h
  go_enter Tryd.func4, Tryd.ntmps4
  go_wp2_with fail
  refine (HAw.out _ (by repeat (first | exact Ex.refl _ | apply Ex.ext | apply Ex.alloc))).mono ?_
  rintro e w' ⟨rfl, y, rfl⟩
  go_wp2_with fail
  refine (HF.out _ _ (Blk.new' (ext _ y) rfl 24 [.int .i64 N, .slice A m c, .int .i64 N2, .slice B m2 d])).mono ?_
  rintro e w' ⟨rfl, hx⟩
  obtain ⟨z, rfl⟩ := Ex.trans (Ex.alloc ⟨y, rfl⟩ _) hx
  clear hx
  go_wp2_with fail
  refine (HAw.out _ (by repeat (first | exact Ex.refl _ | apply Ex.ext | apply Ex.alloc))).mono ?_
  rintro e w' ⟨rfl, y2, rfl⟩
  go_wp2
  go_ret
  exact Ret.mk rfl ((((Ex.refl _).alloc _).alloc _).ext _ |>.ext _)

set_option maxHeartbeats 1600000 in
theorem orders_bad (N N2 : Int) (A B : Option Addr) (c d : Nat) (ws us : List Nat) (w : World) (hT : Tab w) (hC : Cells w A (u64s ws)) (hD : Cells w B (u64s us)) (hw : Wd ws) (hu : Wd us) (hm : ws.length ≤ 20) (hm2 : us.length ≤ 20) (h : (validB N ws && (validB N2 us && decide (N = N2))) = false) :
    Calls Tryd.prog 4 #[.agg #[.int .i64 N, .slice A ws.length c], .agg #[.int .i64 N2, .slice B us.length d]] w (Ret w (.bool true)) := by
  have HAw := Lib.hid (fun w' (hx : Ex w w') => awake_c w' (hT.ex hx))
  have HF := Lib.hid (fun w' g (hB : Blk w' g 24 [.int .i64 N, .slice A ws.length c, .int .i64 N2, .slice B us.length d]) => few_two w' g 24 N N2 A B ws.length c us.length d hB)
  rw [decide_eq_true hm, decide_eq_true hm2] at HF
  have H25 := Lib.hid (fun w' (hx : Ex w w') => bCount_c N A c ws w' (hC.ex hx) hw)
  have H26 := Lib.hid (fun w' (hx : Ex w w') => rCount_c N A c ws w' (hC.ex hx) hw)
  have H29 := Lib.hid (fun w' (hx : Ex w w') => comparable_c N N2 A B c d ws us w' (hC.ex hx) (hD.ex hx) hw hu)
  rw [h] at H29
  have H24 := Lib.hid (fun w' (hx : Ex w w') => bCompare_bad N N2 A B c d ws us w' (hC.ex hx) (hD.ex hx) hw hu h)
  have H27 := Lib.hid (fun w' (hx : Ex w w') => bSubset_bad N N2 A B c d ws us w' (hC.ex hx) (hD.ex hx) hw hu h)
  have H28 := Lib.hid (fun w' (hx : Ex w w') => rSubset_bad N N2 A B c d ws us w' (hC.ex hx) (hD.ex hx) hw hu h)
  clear hC hD hw hu hm hm2 h hT
  generalize cntB N ws = k at *
  have hkk : ((k : Int) != (k : Int)) = false := by simp
  unfold cmpR at *
  generalize ws.length = m at *
  generalize us.length = m2 at *
  go_enter Tryd.func4, Tryd.ntmps4
  go_wp2_with fail
  refine (HAw.out _ (by repeat (first | exact Ex.refl _ | apply Ex.ext | apply Ex.alloc))).mono ?_
  rintro e w' ⟨rfl, y, rfl⟩
  go_wp2_with fail
  refine (HF.out _ _ (Blk.new' (ext _ y) rfl 24 [.int .i64 N, .slice A m c, .int .i64 N2, .slice B m2 d])).mono ?_
  rintro e w' ⟨rfl, hx⟩
  obtain ⟨z, rfl⟩ := Ex.trans (Ex.alloc ⟨y, rfl⟩ _) hx
  clear hx HF HAw
  go_wp2_with fail
  refine (Calls.up (W := ((w.alloc (.cells #[.int .i64 N, .slice A m c] 24)).alloc (.cells #[.int .i64 N2, .slice B m2 d] 24))) ⟨_, rfl⟩ (H24.out _ (by repeat (first | exact Ex.refl _ | apply Ex.ext | apply Ex.alloc)))).mono ?_
  rintro e w' ⟨rfl, z1, rfl⟩
  go_wp2
  refine wp_region_exu (by kernel_rfl) (by kernel_rfl) ?_
  repeat (go_big_quiet_step (fail))
  go_big_quiet_step ((go_at_call 25; exact quiet_ext (H25.out _ (by repeat (first | exact Ex.refl _ | apply Ex.ext | apply Ex.alloc)))))
  repeat (go_big_quiet_step (fail))
  go_big_quiet_step ((go_at_call 26; exact quiet_ext (H26.out _ (by repeat (first | exact Ex.refl _ | apply Ex.ext | apply Ex.alloc)))))
  repeat (go_big_quiet_step (fail))
  go_big_quiet_step ((go_at_call 27; exact quiet_ext (H27.out _ (by repeat (first | exact Ex.refl _ | apply Ex.ext | apply Ex.alloc)))))
  repeat (go_big_quiet_step (fail))
  go_big_quiet_step ((go_at_call 28; exact quiet_ext (H28.out _ (by repeat (first | exact Ex.refl _ | apply Ex.ext | apply Ex.alloc)))))
  repeat (go_big_quiet_step (fail))
  refine wpQuiet_nil (fun w' ⟨z2, hz⟩ => ?_)
  subst hz
  go_wp2_with fail
  refine (Calls.up (W := ((w.alloc (.cells #[.int .i64 N, .slice A m c] 24)).alloc (.cells #[.int .i64 N2, .slice B m2 d] 24))) ⟨_, rfl⟩ (H29.out _ (by repeat (first | exact Ex.refl _ | apply Ex.ext | apply Ex.alloc)))).mono ?_
  rintro e w' ⟨rfl, z3, rfl⟩
  go_wp2
  go_ret
  exact Ret.mk rfl ((((Ex.refl _).alloc _).alloc _).ext _)

set_option maxHeartbeats 1600000 in
theorem orders_good (n : Nat) (A B : Option Addr) (c d : Nat) (ws us : List Nat) (w : World) (hT : Tab w) (hC : Cells w A (u64s ws)) (hD : Cells w B (u64s us)) (hw : Wd ws) (hu : Wd us) (hm : ws.length ≤ 20) (hm2 : us.length ≤ 20) (hv : Valid n ws) (hvu : Valid n us) :
    Calls Tryd.prog 4 #[.agg #[.int .i64 n, .slice A ws.length c], .agg #[.int .i64 n, .slice B us.length d]] w (Ret w (.bool true)) := by
  have HAw := Lib.hid (fun w' (hx : Ex w w') => awake_c w' (hT.ex hx))
  have HF := Lib.hid (fun w' g (hB : Blk w' g 24 [.int .i64 n, .slice A ws.length c, .int .i64 n, .slice B us.length d]) => few_two w' g 24 n n A B ws.length c us.length d hB)
  rw [decide_eq_true hm, decide_eq_true hm2] at HF
  have H25 := Lib.hid (fun w' (hx : Ex w w') => bCount_c n A c ws w' (hC.ex hx) hw)
  have H26 := Lib.hid (fun w' (hx : Ex w w') => rCount_c n A c ws w' (hC.ex hx) hw)
  have H29 := Lib.hid (fun w' (hx : Ex w w') => comparable_c n n A B c d ws us w' (hC.ex hx) (hD.ex hx) hw hu)
  rw [(validB_iff n ws).2 ⟨n, rfl, hv⟩, (validB_iff n us).2 ⟨n, rfl, hvu⟩, decide_eq_true (rfl : (n : Int) = n)] at H29
  have H24 := Lib.hid (fun w' (hx : Ex w w') => bCompare_ok n A B c d ws us w' (hC.ex hx) (hD.ex hx) hw hu hv hvu)
  have H27 := Lib.hid (fun w' (hx : Ex w w') => bSubset_ok n A B c d ws us w' (hC.ex hx) (hD.ex hx) hw hu hv hvu)
  have H28 := Lib.hid (fun w' (hx : Ex w w') => rSubset_ok n A B c d ws us w' (hC.ex hx) (hD.ex hx) hw hu hv hvu)
  have H30 := Lib.hid (fun w' (hx : Ex w w') => rCompare_ok n A B c d ws us w' (hC.ex hx) (hD.ex hx) hw hu hv hvu)
  clear hC hD hw hu hm hm2 hv hvu hT
  generalize subS n ws us = R at *
  generalize cmpS n ws us = r at *
  have hrr : (r == r) = true := by simp
  have hRR : (R != R) = false := by simp
  generalize cntB n ws = k at *
  have hkk : ((k : Int) != (k : Int)) = false := by simp
  unfold cmpR at *
  generalize ws.length = m at *
  generalize us.length = m2 at *
  go_enter Tryd.func4, Tryd.ntmps4
  go_wp2_with fail
  refine (HAw.out _ (by repeat (first | exact Ex.refl _ | apply Ex.ext | apply Ex.alloc))).mono ?_
  rintro e w' ⟨rfl, y, rfl⟩
  go_wp2_with fail
  refine (HF.out _ _ (Blk.new' (ext _ y) rfl 24 [.int .i64 n, .slice A m c, .int .i64 n, .slice B m2 d])).mono ?_
  rintro e w' ⟨rfl, hx⟩
  obtain ⟨z, rfl⟩ := Ex.trans (Ex.alloc ⟨y, rfl⟩ _) hx
  clear hx HF HAw
  go_wp2_with fail
  refine (Calls.up (W := ((w.alloc (.cells #[.int .i64 n, .slice A m c] 24)).alloc (.cells #[.int .i64 n, .slice B m2 d] 24))) ⟨_, rfl⟩ (H24.out _ (by repeat (first | exact Ex.refl _ | apply Ex.ext | apply Ex.alloc)))).mono ?_
  rintro e w' ⟨rfl, z1, rfl⟩
  go_wp2
  refine wp_region_exu (by kernel_rfl) (by kernel_rfl) ?_
  repeat (go_big_quiet_step (fail))
  go_big_quiet_step ((go_at_call 25; exact quiet_ext (H25.out _ (by repeat (first | exact Ex.refl _ | apply Ex.ext | apply Ex.alloc)))))
  repeat (go_big_quiet_step (fail))
  go_big_quiet_step ((go_at_call 26; exact quiet_ext (H26.out _ (by repeat (first | exact Ex.refl _ | apply Ex.ext | apply Ex.alloc)))))
  repeat (go_big_quiet_step (fail))
  go_big_quiet_step ((go_at_call 27; exact quiet_ext (H27.out _ (by repeat (first | exact Ex.refl _ | apply Ex.ext | apply Ex.alloc)))))
  repeat (go_big_quiet_step (fail))
  go_big_quiet_step ((go_at_call 28; exact quiet_ext (H28.out _ (by repeat (first | exact Ex.refl _ | apply Ex.ext | apply Ex.alloc)))))
  repeat (go_big_quiet_step (fail))
  refine wpQuiet_nil (fun w' ⟨z2, hz⟩ => ?_)
  subst hz
  go_wp2_with fail
  refine (Calls.up (W := ((w.alloc (.cells #[.int .i64 n, .slice A m c] 24)).alloc (.cells #[.int .i64 n, .slice B m2 d] 24))) ⟨_, rfl⟩ (H29.out _ (by repeat (first | exact Ex.refl _ | apply Ex.ext | apply Ex.alloc)))).mono ?_
  rintro e w' ⟨rfl, z3, rfl⟩
  go_wp2_with fail
  refine (Calls.up (W := ((w.alloc (.cells #[.int .i64 n, .slice A m c] 24)).alloc (.cells #[.int .i64 n, .slice B m2 d] 24))) ⟨_, rfl⟩ (H30.out _ (by repeat (first | exact Ex.refl _ | apply Ex.ext | apply Ex.alloc)))).mono ?_
  rintro e w' ⟨rfl, z4, rfl⟩
  go_wp2
  go_ret
  exact Ret.mk rfl ((((Ex.refl _).alloc _).alloc _).ext _)
theorem both_valid {N N2 : Int} {ws us : List Nat} (h : (validB N ws && (validB N2 us && decide (N = N2))) = true) : ∃ n : Nat, N = n ∧ N2 = n ∧ Valid n ws ∧ Valid n us := by
  rw [Bool.and_eq_true, Bool.and_eq_true, decide_eq_true_iff] at h
  obtain ⟨h1, h2, h3⟩ := h
  obtain ⟨n, e1, v1⟩ := (validB_iff N ws).1 h1
  obtain ⟨p, e2, v2⟩ := (validB_iff N2 us).1 h2
  have : p = n := by omega
  subst this
  exact ⟨p, e1, e2, v1, v2⟩
/-- the law of the orders, whatever the arguments -/
theorem orders_c (N N2 : Int) (A B : Option Addr) (c d : Nat) (ws us : List Nat) (w : World) (hT : Tab w) (hC : Cells w A (u64s ws)) (hD : Cells w B (u64s us)) (hw : Wd ws) (hu : Wd us) :
    Calls Tryd.prog 4 #[.agg #[.int .i64 N, .slice A ws.length c], .agg #[.int .i64 N2, .slice B us.length d]] w (Ret w (.bool true)) := by
  by_cases hm : ws.length ≤ 20 ∧ us.length ≤ 20
  · cases h : (validB N ws && (validB N2 us && decide (N = N2)))
    · exact orders_bad N N2 A B c d ws us w hT hC hD hw hu hm.1 hm.2 h
    · obtain ⟨n, rfl, rfl, hv, hvu⟩ := both_valid h
      exact orders_good n A B c d ws us w hT hC hD hw hu hm.1 hm.2 hv hvu
  · exact orders_guard N N2 A B _ c _ d w hT (few2_guard _ _ (by omega))
end Go.Proofs.YtfinldppcdkeoaaDoor
