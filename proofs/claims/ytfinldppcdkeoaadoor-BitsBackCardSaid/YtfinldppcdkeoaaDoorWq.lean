/-
  The reference's set algebra: intersection, difference, union, one number more or less.
  Conditions: valid sets of one size, words below 2^64.
-/
import Derived.Test.YtfinldppcdkeoaaDoorWp
import Derived.Deep.AppendLies
namespace Go.Proofs.YtfinldppcdkeoaaDoor
open Go.RowKit Bm
theorem ofL_eq {n : Nat} {l zs : List Nat} (hl : ∀ x ∈ l, x < n) (hv : Valid n zs) (hw : Wd zs) (h : ∀ i, i < n → (i ∈ l ↔ bitAt zs i = true)) : ofL n l = zs :=
  (valid_ofL hv.le hl).ext hv (wd_ofL _ _) hw fun i hi => by
    rw [bit_ofL hl, Bool.eq_iff_iff, decide_eq_true_eq, h i hi]
def two (n : Nat) (ws us : List Nat) (b : Bool) : List Nat := (List.range n).filter fun i => bitAt ws i && (bitAt us i == b)
theorem two_succ (k : Nat) (ws us : List Nat) (b : Bool) : two (k + 1) ws us b = two k ws us b ++ if bitAt ws k && (bitAt us k == b) then [k] else [] := by
  unfold two; rw [List.range_succ, List.filter_append]; cases h : (bitAt ws k && (bitAt us k == b)) <;> simp [h]
theorem two_le (k : Nat) (ws us : List Nat) (b : Bool) : (two k ws us b).length ≤ k := by
  unfold two; have := List.length_filter_le (fun i => bitAt ws i && (bitAt us i == b)) (List.range k); simpa using this
theorem two_lt (n : Nat) (ws us : List Nat) (b : Bool) : ∀ x ∈ two n ws us b, x < n := fun x hx => by
  unfold two at hx; rw [List.mem_filter, List.mem_range] at hx; exact hx.1
theorem mem_two {n : Nat} {ws us : List Nat} {b : Bool} {i : Nat} : i ∈ two n ws us b ↔ i < n ∧ bitAt ws i = true ∧ bitAt us i = b := by
  unfold two; rw [List.mem_filter, List.mem_range, Bool.and_eq_true, beq_iff_eq]
theorem two_and {n : Nat} {ws us : List Nat} (hv : Valid n ws) (hu : Valid n us) (hw : Wd ws) (hwu : Wd us) : ofL n (two n ws us true) = List.zipWith (fun x y => x &&& y) ws us :=
  ofL_eq (two_lt _ _ _ _) (zip_valid (g := fun x y => x && y) and_bits rfl rfl hv hu) (zip_wd and_lt hw hwu) fun i hi => by
    rw [mem_two, bit_zip (g := fun x y => x && y) and_bits rfl (by rw [hv.len, hu.len]), Bool.and_eq_true]
    simp [hi]
theorem two_not {n : Nat} {ws us : List Nat} (hv : Valid n ws) (hu : Valid n us) (hw : Wd ws) (hwu : Wd us) : ofL n (two n ws us false) = List.zipWith andNot ws us :=
  ofL_eq (two_lt _ _ _ _) (zip_valid (g := fun x y => x && !y) andNot_bits rfl rfl hv hu) (zip_wd andNot_lt hw hwu) fun i hi => by
    rw [mem_two, bit_zip (g := fun x y => x && !y) andNot_bits rfl (by rw [hv.len, hu.len]), Bool.and_eq_true]
    simp [hi]
theorem or_both {n : Nat} {ws us : List Nat} (hv : Valid n ws) (hu : Valid n us) (hw : Wd ws) (hwu : Wd us) : ofL n (mems n ws ++ mems n us) = List.zipWith (fun x y => x ||| y) ws us :=
  ofL_eq (fun x hx => by rw [List.mem_append] at hx; rcases hx with hx | hx <;> exact mems_lt x hx) (zip_valid (g := fun x y => x || y) or_bits rfl rfl hv hu) (zip_wd or_lt hw hwu) fun i hi => by
    rw [List.mem_append, mem_mems, mem_mems, bit_zip (g := fun x y => x || y) or_bits rfl (by rw [hv.len, hu.len]), Bool.or_eq_true]
    simp [hi]
theorem set_valid {n i : Nat} {ws : List Nat} (hv : Valid n ws) (hi : i < n) : Valid n (setBit ws i) := by
  have := hv.len
  refine ⟨hv.le, by rw [length_setBit, hv.len], fun j hj => ?_⟩
  rw [bitAt_setBit ws i j (by omega), hv.clean j hj]
  simp; omega
theorem with_set {n i : Nat} {ws : List Nat} (hv : Valid n ws) (hw : Wd ws) (hi : i < n) : ofL n (mems n ws ++ [i]) = setBit ws i := by
  have := hv.len
  refine ofL_eq (fun x hx => ?_) (set_valid hv hi) (Wd.setBit hw i) fun j hj => ?_
  · rw [List.mem_append, List.mem_singleton] at hx
    rcases hx with hx | hx
    · exact mems_lt x hx
    · omega
  · rw [List.mem_append, List.mem_singleton, mem_mems, bitAt_setBit ws i j (by omega), Bool.or_eq_true, decide_eq_true_iff]
    simp [hj]
theorem info3' : ∃ i0, Tryd.prog.info? 3 = some i0 ∧ i0.zero = some (.int .i64 0) ∧ i0.size = 1 ∧ i0.bytes = 8 := info_parts info3

set_option maxHeartbeats 3200000 in
theorem rInter_c (n : Nat) (A B : Option Addr) (c d : Nat) (ws us : List Nat) (w : World) (hC : Cells w A (u64s ws)) (hD : Cells w B (u64s us)) (hw : Wd ws) (hu : Wd us) (hv : Valid n ws) (hvu : Valid n us) :
    Calls Tryd.prog 41 #[.agg #[.int .i64 n, .slice A ws.length c], .agg #[.int .i64 n, .slice B us.length d]] w (NewSet w n (ofL n (two n ws us true))) := by
  have HA := Lib.hid (fun (w' : World) (hx : Ex w w') (i : Nat) (hi : i < n) => bit_c n i A c w' ws (hC.ex hx) hw (by have := hv.len; have := hv.le; omega) (by have := hv.len; have := hv.le; omega))
  have HB := Lib.hid (fun (w' : World) (hx : Ex w w') (i : Nat) (hi : i < n) => bit_c n i B d w' us (hD.ex hx) hu (by have := hvu.len; have := hvu.le; omega) (by have := hvu.len; have := hvu.le; omega))
  have hn := hv.le
  obtain ⟨i0, hi, hz0, hz1, hz2⟩ := info_parts info3
  have HMl := Lib.hid (fun k => two_le k ws us true)
  have HMs := Lib.hid (fun k => two_succ k ws us true)
  have H19 := Lib.hid (fun w' A c hC => rOf_c n (two n ws us true) A c w' hn (two_lt n ws us true) hC (by have := two_le n ws us true; omega))
  have h00 : natsV (two 0 ws us true) = [] := rfl
  have HM0 := Lib.hid h00
  clear hC hD hw hu hv hvu h00
  generalize ws.length = m at *
  generalize us.length = m2 at *
  go_enter Tryd.func41, Tryd.ntmps41
  go_wp2
  go_loopw [5, 6] (fun v i wr => ∃ k : Nat, i = .int .i64 k ∧ k ≤ n ∧ wr.ownsRow (w.heap.size + 1 + 1 + 1) 3 1 v (natsV (two k ws us true)).length (natsV (two k ws us true)) ∧ Ex (((w.alloc (.cells #[.int .i64 n, .slice A m c] 24)).alloc (.cells #[.int .i64 n, .slice B m2 d] 24)).alloc (.cells #[.int .i64 0, .slice none 0 0] 24)) wr)
    (fun _ i _ => n - (intOf i).toNat)
  case atStart => exact ⟨0, rfl, by omega, by rw [HM0.out]; exact World.ownsRow_nil _ _ _ _, Ex.refl _⟩
  case round =>
    obtain ⟨k, rfl, hk, hown, z, rfl⟩ := hrel
    by_cases hlt : k < n
    · have hle := HMl.out k
      rw [← natsV_length] at hle
      have HAk := Lib.hid (fun w' hx => HA.out w' hx k hlt)
      have HBk := Lib.hid (fun w' hx => HB.out w' hx k hlt)
      have HO := Lib.hid hown; clear hown
      cases ha : bitAt ws k
      · have HBit : Hid ((if bitAt ws k && (bitAt us k == true) then [k] else []) = []) := by show _ = _; rw [ha]; rfl
        rw [ha] at HAk; clear ha
        go_wp2_with fail
        refine (HAk.out _ (by repeat (first | exact Ex.refl _ | apply Ex.ext | apply Ex.alloc))).mono ?_
        rintro e w' ⟨rfl, hx⟩
        have HO1 := Lib.hid (own_ex HO.out hx)
        obtain ⟨y1, rfl⟩ := Ex.trans (show Ex (((w.alloc (.cells #[.int .i64 n, .slice A m c] 24)).alloc (.cells #[.int .i64 n, .slice B m2 d] 24)).alloc (.cells #[.int .i64 0, .slice none 0 0] 24)) _ from ⟨_, rfl⟩) hx
        clear hx
        have HO2 := HO1
        go_wp2
        go_roundw
        case rel =>
          refine ⟨k + 1, by go_num, by omega, ?_, ⟨_, rfl⟩⟩
          rw [HMs.out, HBit.out]
          simpa using HO2.out
        case measure => simp [intOf]; omega
      · cases hb : bitAt us k
        · have HBit : Hid ((if bitAt ws k && (bitAt us k == true) then [k] else []) = []) := by show _ = _; rw [ha, hb]; rfl
          rw [ha] at HAk; rw [hb] at HBk; clear ha hb
          go_wp2_with fail
          refine (HAk.out _ (by repeat (first | exact Ex.refl _ | apply Ex.ext | apply Ex.alloc))).mono ?_
          rintro e w' ⟨rfl, hx⟩
          have HO1 := Lib.hid (own_ex HO.out hx)
          obtain ⟨y1, rfl⟩ := Ex.trans (show Ex (((w.alloc (.cells #[.int .i64 n, .slice A m c] 24)).alloc (.cells #[.int .i64 n, .slice B m2 d] 24)).alloc (.cells #[.int .i64 0, .slice none 0 0] 24)) _ from ⟨_, rfl⟩) hx
          clear hx
          go_wp2_with fail
          refine (HBk.out _ (by repeat (first | exact Ex.refl _ | apply Ex.ext | apply Ex.alloc))).mono ?_
          rintro e w' ⟨rfl, hx⟩
          have HO2 := Lib.hid (own_ex HO1.out hx)
          obtain ⟨y2, rfl⟩ := Ex.trans (show Ex (((w.alloc (.cells #[.int .i64 n, .slice A m c] 24)).alloc (.cells #[.int .i64 n, .slice B m2 d] 24)).alloc (.cells #[.int .i64 0, .slice none 0 0] 24)) _ from ⟨_, rfl⟩) hx
          clear hx
          go_wp2
          go_roundw
          case rel =>
            refine ⟨k + 1, by go_num, by omega, ?_, ⟨_, rfl⟩⟩
            rw [HMs.out, HBit.out]
            simpa using HO2.out
          case measure => simp [intOf]; omega
        · have HBit : Hid ((if bitAt ws k && (bitAt us k == true) then [k] else []) = [k]) := by show _ = _; rw [ha, hb]; rfl
          rw [ha] at HAk; rw [hb] at HBk; clear ha hb
          go_wp2_with fail
          refine (HAk.out _ (by repeat (first | exact Ex.refl _ | apply Ex.ext | apply Ex.alloc))).mono ?_
          rintro e w' ⟨rfl, hx⟩
          have HO1 := Lib.hid (own_ex HO.out hx)
          obtain ⟨y1, rfl⟩ := Ex.trans (show Ex (((w.alloc (.cells #[.int .i64 n, .slice A m c] 24)).alloc (.cells #[.int .i64 n, .slice B m2 d] 24)).alloc (.cells #[.int .i64 0, .slice none 0 0] 24)) _ from ⟨_, rfl⟩) hx
          clear hx
          go_wp2_with fail
          refine (HBk.out _ (by repeat (first | exact Ex.refl _ | apply Ex.ext | apply Ex.alloc))).mono ?_
          rintro e w' ⟨rfl, hx⟩
          have HO2 := Lib.hid (own_ex HO1.out hx)
          obtain ⟨y2, rfl⟩ := Ex.trans (show Ex (((w.alloc (.cells #[.int .i64 n, .slice A m c] 24)).alloc (.cells #[.int .i64 n, .slice B m2 d] 24)).alloc (.cells #[.int .i64 0, .slice none 0 0] 24)) _ from ⟨_, rfl⟩) hx
          clear hx
          go_wp2_with (at_builtin; refine wpList_append_own _ rfl _ _ 25 rfl (w.heap.size + 1 + 1 + 1) 3 i0 (.int .i64 0) 1 8 Tryd.underlying25 hi hz0 hz1 hz2 rfl (by decide) _ _ _ rfl (HO2.out.alloc _) ⟨(ext (((w.alloc (.cells #[.int .i64 n, .slice A m c] 24)).alloc (.cells #[.int .i64 n, .slice B m2 d] 24)).alloc (.cells #[.int .i64 0, .slice none 0 0] 24)) y2).heap.size, 0, none⟩ 1 1 [.int .i64 k] rfl rfl ?c1 ?c2 ?c3 ?c4 ?c5 ?_)
          case c1 => exact cell_one_new _ _ _
          case c2 => intro u hu; simp at hu; subst hu; rfl
          case c3 => unfold maxLen; omega
          case c4 => omega
          case c5 => have := (ext_below (((w.alloc (.cells #[.int .i64 n, .slice A m c] 24)).alloc (.cells #[.int .i64 n, .slice B m2 d] 24)).alloc (.cells #[.int .i64 0, .slice none 0 0] 24)) y2).size; simp at this ⊢; omega
          · intro v' w2 hown2 hg _
            have hE2 : Ex (((w.alloc (.cells #[.int .i64 n, .slice A m c] 24)).alloc (.cells #[.int .i64 n, .slice B m2 d] 24)).alloc (.cells #[.int .i64 0, .slice none 0 0] 24)) w2 := ex_own (Ex.alloc ⟨y2, rfl⟩ _) (HO2.out.alloc _) (by simp) hg
            have HO3 := Lib.hid hown2
            clear hown2 hg
            obtain ⟨x, rfl⟩ := hE2
            go_wp2
            go_roundw
            case rel =>
              refine ⟨k + 1, by go_num, by omega, ?_, ⟨x, rfl⟩⟩
              rw [HMs.out, HBit.out, natsV_append]
              simpa [natsV] using HO3.out
            case measure => simp [intOf]; omega
    · obtain rfl : k = n := by omega
      obtain ⟨A5, c5, rfl, hC5, -⟩ := own_cells hown
      have HC5 := Lib.hid hC5
      clear hown hC5
      rw [natsV_length]
      go_wp2_with fail
      refine (H19.out _ _ _ HC5.out).mono ?_
      rintro e w' ⟨g, rfl, hg, hB, hx⟩
      have hE := (Ex.trans (show Ex (((w.alloc (.cells #[.int .i64 k, .slice A m c] 24)).alloc (.cells #[.int .i64 k, .slice B m2 d] 24)).alloc (.cells #[.int .i64 0, .slice none 0 0] 24)) _ from ⟨_, rfl⟩) hx)
      have hr := (Blk.new' ((w.alloc (.cells #[.int .i64 k, .slice A m c] 24)).alloc (.cells #[.int .i64 k, .slice B m2 d] 24)) (g := w.heap.size + 1 + 1) (by simp) 24 [.int .i64 0, .slice none 0 0]).ex hE
      have hg2 : w.heap.size ≤ g := by have := (ext_below (((w.alloc (.cells #[.int .i64 k, .slice A m c] 24)).alloc (.cells #[.int .i64 k, .slice B m2 d] 24)).alloc (.cells #[.int .i64 0, .slice none 0 0] 24)) z).size; simp at this; omega
      have hE0 := ((((Ex.refl w).alloc (.cells #[.int .i64 k, .slice A m c] 24)).alloc (.cells #[.int .i64 k, .slice B m2 d] 24)).alloc (.cells #[.int .i64 0, .slice none 0 0] 24)).trans hE
      have f4 : w'.cell? ⟨w.heap.size + 1 + 1, 0, none⟩ = some (.int .i64 0) := hr.cell 0
      have f5 : w'.cell? ⟨w.heap.size + 1 + 1, 1, none⟩ = some (.slice none 0 0) := hr.cell 1
      have f6 : w'.frozen? ⟨w.heap.size + 1 + 1, 0, none⟩ = false := hr.frozen _
      have f7 : w'.frozen? ⟨w.heap.size + 1 + 1, 1, none⟩ = false := hr.frozen _
      have n2 : g ≠ w.heap.size + 1 + 1 := hB.ne hr (by decide)
      generalize ofL k (two k ws us true) = rs at *
      have hb := (hr.set_ 0 (.int .i64 k)).set_ 1 (.slice (some ⟨g, 0, none⟩) rs.length rs.length)
      have HBB := Lib.hid hB
      have HE := Lib.hid hE0
      have c0 := Lib.hid (hb.cell 0)
      have c1 := Lib.hid (hb.cell 1)
      clear hx hg hB hE hr hb hE0
      go_wp2
      have d0 := c0.out
      have d1 := c1.out
      refine bodyPost_ret (v := .agg #[.int .i64 k, .slice (some ⟨g, 0, none⟩) rs.length rs.length]) ?_ rfl ⟨g, rfl, hg2, ?_, ?_⟩
      · simp [results, Tryd.results41, go_sem, d0, d1]
      · exact (HBB.out.far n2 _).far n2 _
      · exact (HE.out.setCell (by show _ ≤ w.heap.size + 1 + 1; omega) _).setCell (by show _ ≤ w.heap.size + 1 + 1; omega) _

set_option maxHeartbeats 3200000 in
theorem rMinus_c (n : Nat) (A B : Option Addr) (c d : Nat) (ws us : List Nat) (w : World) (hC : Cells w A (u64s ws)) (hD : Cells w B (u64s us)) (hw : Wd ws) (hu : Wd us) (hv : Valid n ws) (hvu : Valid n us) :
    Calls Tryd.prog 42 #[.agg #[.int .i64 n, .slice A ws.length c], .agg #[.int .i64 n, .slice B us.length d]] w (NewSet w n (ofL n (two n ws us false))) := by
  have HA := Lib.hid (fun (w' : World) (hx : Ex w w') (i : Nat) (hi : i < n) => bit_c n i A c w' ws (hC.ex hx) hw (by have := hv.len; have := hv.le; omega) (by have := hv.len; have := hv.le; omega))
  have HB := Lib.hid (fun (w' : World) (hx : Ex w w') (i : Nat) (hi : i < n) => bit_c n i B d w' us (hD.ex hx) hu (by have := hvu.len; have := hvu.le; omega) (by have := hvu.len; have := hvu.le; omega))
  have hn := hv.le
  obtain ⟨i0, hi, hz0, hz1, hz2⟩ := info_parts info3
  have HMl := Lib.hid (fun k => two_le k ws us false)
  have HMs := Lib.hid (fun k => two_succ k ws us false)
  have H19 := Lib.hid (fun w' A c hC => rOf_c n (two n ws us false) A c w' hn (two_lt n ws us false) hC (by have := two_le n ws us false; omega))
  have h00 : natsV (two 0 ws us false) = [] := rfl
  have HM0 := Lib.hid h00
  clear hC hD hw hu hv hvu h00
  generalize ws.length = m at *
  generalize us.length = m2 at *
  go_enter Tryd.func42, Tryd.ntmps42
  go_wp2
  go_loopw [5, 6] (fun v i wr => ∃ k : Nat, i = .int .i64 k ∧ k ≤ n ∧ wr.ownsRow (w.heap.size + 1 + 1 + 1) 3 1 v (natsV (two k ws us false)).length (natsV (two k ws us false)) ∧ Ex (((w.alloc (.cells #[.int .i64 n, .slice A m c] 24)).alloc (.cells #[.int .i64 n, .slice B m2 d] 24)).alloc (.cells #[.int .i64 0, .slice none 0 0] 24)) wr)
    (fun _ i _ => n - (intOf i).toNat)
  case atStart => exact ⟨0, rfl, by omega, by rw [HM0.out]; exact World.ownsRow_nil _ _ _ _, Ex.refl _⟩
  case round =>
    obtain ⟨k, rfl, hk, hown, z, rfl⟩ := hrel
    by_cases hlt : k < n
    · have hle := HMl.out k
      rw [← natsV_length] at hle
      have HAk := Lib.hid (fun w' hx => HA.out w' hx k hlt)
      have HBk := Lib.hid (fun w' hx => HB.out w' hx k hlt)
      have HO := Lib.hid hown; clear hown
      cases ha : bitAt ws k
      · have HBit : Hid ((if bitAt ws k && (bitAt us k == false) then [k] else []) = []) := by show _ = _; rw [ha]; rfl
        rw [ha] at HAk; clear ha
        go_wp2_with fail
        refine (HAk.out _ (by repeat (first | exact Ex.refl _ | apply Ex.ext | apply Ex.alloc))).mono ?_
        rintro e w' ⟨rfl, hx⟩
        have HO1 := Lib.hid (own_ex HO.out hx)
        obtain ⟨y1, rfl⟩ := Ex.trans (show Ex (((w.alloc (.cells #[.int .i64 n, .slice A m c] 24)).alloc (.cells #[.int .i64 n, .slice B m2 d] 24)).alloc (.cells #[.int .i64 0, .slice none 0 0] 24)) _ from ⟨_, rfl⟩) hx
        clear hx
        have HO2 := HO1
        go_wp2
        go_roundw
        case rel =>
          refine ⟨k + 1, by go_num, by omega, ?_, ⟨_, rfl⟩⟩
          rw [HMs.out, HBit.out]
          simpa using HO2.out
        case measure => simp [intOf]; omega
      · cases hb : bitAt us k
        · have HBit : Hid ((if bitAt ws k && (bitAt us k == false) then [k] else []) = [k]) := by show _ = _; rw [ha, hb]; rfl
          rw [ha] at HAk; rw [hb] at HBk; clear ha hb
          go_wp2_with fail
          refine (HAk.out _ (by repeat (first | exact Ex.refl _ | apply Ex.ext | apply Ex.alloc))).mono ?_
          rintro e w' ⟨rfl, hx⟩
          have HO1 := Lib.hid (own_ex HO.out hx)
          obtain ⟨y1, rfl⟩ := Ex.trans (show Ex (((w.alloc (.cells #[.int .i64 n, .slice A m c] 24)).alloc (.cells #[.int .i64 n, .slice B m2 d] 24)).alloc (.cells #[.int .i64 0, .slice none 0 0] 24)) _ from ⟨_, rfl⟩) hx
          clear hx
          go_wp2_with fail
          refine (HBk.out _ (by repeat (first | exact Ex.refl _ | apply Ex.ext | apply Ex.alloc))).mono ?_
          rintro e w' ⟨rfl, hx⟩
          have HO2 := Lib.hid (own_ex HO1.out hx)
          obtain ⟨y2, rfl⟩ := Ex.trans (show Ex (((w.alloc (.cells #[.int .i64 n, .slice A m c] 24)).alloc (.cells #[.int .i64 n, .slice B m2 d] 24)).alloc (.cells #[.int .i64 0, .slice none 0 0] 24)) _ from ⟨_, rfl⟩) hx
          clear hx
          go_wp2_with (at_builtin; refine wpList_append_own _ rfl _ _ 25 rfl (w.heap.size + 1 + 1 + 1) 3 i0 (.int .i64 0) 1 8 Tryd.underlying25 hi hz0 hz1 hz2 rfl (by decide) _ _ _ rfl (HO2.out.alloc _) ⟨(ext (((w.alloc (.cells #[.int .i64 n, .slice A m c] 24)).alloc (.cells #[.int .i64 n, .slice B m2 d] 24)).alloc (.cells #[.int .i64 0, .slice none 0 0] 24)) y2).heap.size, 0, none⟩ 1 1 [.int .i64 k] rfl rfl ?c1 ?c2 ?c3 ?c4 ?c5 ?_)
          case c1 => exact cell_one_new _ _ _
          case c2 => intro u hu; simp at hu; subst hu; rfl
          case c3 => unfold maxLen; omega
          case c4 => omega
          case c5 => have := (ext_below (((w.alloc (.cells #[.int .i64 n, .slice A m c] 24)).alloc (.cells #[.int .i64 n, .slice B m2 d] 24)).alloc (.cells #[.int .i64 0, .slice none 0 0] 24)) y2).size; simp at this ⊢; omega
          · intro v' w2 hown2 hg _
            have hE2 : Ex (((w.alloc (.cells #[.int .i64 n, .slice A m c] 24)).alloc (.cells #[.int .i64 n, .slice B m2 d] 24)).alloc (.cells #[.int .i64 0, .slice none 0 0] 24)) w2 := ex_own (Ex.alloc ⟨y2, rfl⟩ _) (HO2.out.alloc _) (by simp) hg
            have HO3 := Lib.hid hown2
            clear hown2 hg
            obtain ⟨x, rfl⟩ := hE2
            go_wp2
            go_roundw
            case rel =>
              refine ⟨k + 1, by go_num, by omega, ?_, ⟨x, rfl⟩⟩
              rw [HMs.out, HBit.out, natsV_append]
              simpa [natsV] using HO3.out
            case measure => simp [intOf]; omega
        · have HBit : Hid ((if bitAt ws k && (bitAt us k == false) then [k] else []) = []) := by show _ = _; rw [ha, hb]; rfl
          rw [ha] at HAk; rw [hb] at HBk; clear ha hb
          go_wp2_with fail
          refine (HAk.out _ (by repeat (first | exact Ex.refl _ | apply Ex.ext | apply Ex.alloc))).mono ?_
          rintro e w' ⟨rfl, hx⟩
          have HO1 := Lib.hid (own_ex HO.out hx)
          obtain ⟨y1, rfl⟩ := Ex.trans (show Ex (((w.alloc (.cells #[.int .i64 n, .slice A m c] 24)).alloc (.cells #[.int .i64 n, .slice B m2 d] 24)).alloc (.cells #[.int .i64 0, .slice none 0 0] 24)) _ from ⟨_, rfl⟩) hx
          clear hx
          go_wp2_with fail
          refine (HBk.out _ (by repeat (first | exact Ex.refl _ | apply Ex.ext | apply Ex.alloc))).mono ?_
          rintro e w' ⟨rfl, hx⟩
          have HO2 := Lib.hid (own_ex HO1.out hx)
          obtain ⟨y2, rfl⟩ := Ex.trans (show Ex (((w.alloc (.cells #[.int .i64 n, .slice A m c] 24)).alloc (.cells #[.int .i64 n, .slice B m2 d] 24)).alloc (.cells #[.int .i64 0, .slice none 0 0] 24)) _ from ⟨_, rfl⟩) hx
          clear hx
          go_wp2
          go_roundw
          case rel =>
            refine ⟨k + 1, by go_num, by omega, ?_, ⟨_, rfl⟩⟩
            rw [HMs.out, HBit.out]
            simpa using HO2.out
          case measure => simp [intOf]; omega
    · obtain rfl : k = n := by omega
      obtain ⟨A5, c5, rfl, hC5, -⟩ := own_cells hown
      have HC5 := Lib.hid hC5
      clear hown hC5
      rw [natsV_length]
      go_wp2_with fail
      refine (H19.out _ _ _ HC5.out).mono ?_
      rintro e w' ⟨g, rfl, hg, hB, hx⟩
      have hE := (Ex.trans (show Ex (((w.alloc (.cells #[.int .i64 k, .slice A m c] 24)).alloc (.cells #[.int .i64 k, .slice B m2 d] 24)).alloc (.cells #[.int .i64 0, .slice none 0 0] 24)) _ from ⟨_, rfl⟩) hx)
      have hr := (Blk.new' ((w.alloc (.cells #[.int .i64 k, .slice A m c] 24)).alloc (.cells #[.int .i64 k, .slice B m2 d] 24)) (g := w.heap.size + 1 + 1) (by simp) 24 [.int .i64 0, .slice none 0 0]).ex hE
      have hg2 : w.heap.size ≤ g := by have := (ext_below (((w.alloc (.cells #[.int .i64 k, .slice A m c] 24)).alloc (.cells #[.int .i64 k, .slice B m2 d] 24)).alloc (.cells #[.int .i64 0, .slice none 0 0] 24)) z).size; simp at this; omega
      have hE0 := ((((Ex.refl w).alloc (.cells #[.int .i64 k, .slice A m c] 24)).alloc (.cells #[.int .i64 k, .slice B m2 d] 24)).alloc (.cells #[.int .i64 0, .slice none 0 0] 24)).trans hE
      have f4 : w'.cell? ⟨w.heap.size + 1 + 1, 0, none⟩ = some (.int .i64 0) := hr.cell 0
      have f5 : w'.cell? ⟨w.heap.size + 1 + 1, 1, none⟩ = some (.slice none 0 0) := hr.cell 1
      have f6 : w'.frozen? ⟨w.heap.size + 1 + 1, 0, none⟩ = false := hr.frozen _
      have f7 : w'.frozen? ⟨w.heap.size + 1 + 1, 1, none⟩ = false := hr.frozen _
      have n2 : g ≠ w.heap.size + 1 + 1 := hB.ne hr (by decide)
      generalize ofL k (two k ws us false) = rs at *
      have hb := (hr.set_ 0 (.int .i64 k)).set_ 1 (.slice (some ⟨g, 0, none⟩) rs.length rs.length)
      have HBB := Lib.hid hB
      have HE := Lib.hid hE0
      have c0 := Lib.hid (hb.cell 0)
      have c1 := Lib.hid (hb.cell 1)
      clear hx hg hB hE hr hb hE0
      go_wp2
      have d0 := c0.out
      have d1 := c1.out
      refine bodyPost_ret (v := .agg #[.int .i64 k, .slice (some ⟨g, 0, none⟩) rs.length rs.length]) ?_ rfl ⟨g, rfl, hg2, ?_, ?_⟩
      · simp [results, Tryd.results42, go_sem, d0, d1]
      · exact (HBB.out.far n2 _).far n2 _
      · exact (HE.out.setCell (by show _ ≤ w.heap.size + 1 + 1; omega) _).setCell (by show _ ≤ w.heap.size + 1 + 1; omega) _
end Go.Proofs.YtfinldppcdkeoaaDoor
