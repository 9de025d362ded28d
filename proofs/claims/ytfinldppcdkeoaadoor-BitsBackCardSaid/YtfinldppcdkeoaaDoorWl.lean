/-
  Sets combined word by word: union, intersection, difference.
  Conditions: words below 2^64.
-/
import Derived.Test.YtfinldppcdkeoaaDoorWk
namespace Go.Proofs.YtfinldppcdkeoaaDoor
open Go.RowKit Bm
def comb (f : Nat → Nat → Nat) (ws us : List Nat) : Nat → List Nat
  | 0 => ws
  | k + 1 => (comb f ws us k).set k (f (ws.getD k 0) (us.getD k 0))
theorem comb_len (f : Nat → Nat → Nat) (ws us : List Nat) (k : Nat) : (comb f ws us k).length = ws.length := by
  induction k with
  | zero => rfl
  | succ k ih => unfold comb; rw [List.length_set, ih]
theorem comb_get (f : Nat → Nat → Nat) (ws us : List Nat) (k j : Nat) (hk : k ≤ ws.length) : (comb f ws us k).getD j 0 = if j < k then f (ws.getD j 0) (us.getD j 0) else ws.getD j 0 := by
  induction k with
  | zero => rfl
  | succ k ih =>
    unfold comb
    rw [getD_set _ _ _ _ (by rw [comb_len]; omega), ih (by omega)]
    by_cases h : j = k
    · subst h; simp
    · rw [if_neg h]
      by_cases h2 : j < k
      · rw [if_pos h2, if_pos (by omega)]
      · rw [if_neg h2, if_neg (by omega)]
theorem comb_all (f : Nat → Nat → Nat) (ws us : List Nat) (hl : ws.length = us.length) (h0 : f 0 0 = 0) : comb f ws us ws.length = List.zipWith f ws us := by
  apply list_ext_upto (d := 0) (by rw [comb_len, List.length_zipWith]; omega)
  intro j hj
  rw [comb_len] at hj
  rw [comb_get _ _ _ _ _ (Nat.le_refl _), if_pos hj, getD_zipWith j hl h0]
def Clo (F : Nat) (f : Nat → Nat → Nat) : Prop := ∀ (x y : Nat) (w : World), x < 18446744073709551616 → y < 18446744073709551616 → Calls Tryd.prog F #[.int .u64 x, .int .u64 y] w fun e w' => e = .returned (.int .u64 ((f x y : Nat) : Int)) ∧ w' = w
theorem Clo.of {F : Nat} {f : Nat → Nat → Nat} {o : BinOp} (h : ∀ (x y : Int) (w : World), Calls Tryd.prog F #[.int .u64 x, .int .u64 y] w fun e w' => e = .returned (.int .u64 (bits o .u64 x y)) ∧ w = w')
    (hf : ∀ x y : Nat, x < 18446744073709551616 → y < 18446744073709551616 → bits o .u64 (x : Int) (y : Int) = ((f x y : Nat) : Int)) : Clo F f := fun x y w hx hy => by
  have := quiet_is (h x y w)
  rwa [hf x y hx hy] at this
theorem andNot_nat (a b : Nat) (ha : a < 18446744073709551616) (hb : b < 18446744073709551616) : bits .andNot .u64 (a : Int) (b : Int) = ((andNot a b : Nat) : Int) := by
  have hx : andNot a b < 2 ^ 64 := by unfold andNot; exact Nat.and_lt_two_pow _ (by omega)
  show IntKind.u64.wrap ((BitVec.ofInt 64 (a : Int) &&& ~~~BitVec.ofInt 64 (b : Int)).toNat : Int) = _
  rw [BitVec.toNat_and, BitVec.toNat_not, ofInt_u64 a ha, ofInt_u64 b hb, IntKind.wrap_u64]
  have e : a &&& (2 ^ 64 - 1 - b) = andNot a b := by unfold andNot; rw [Nat.mod_eq_of_lt hb]
  rw [e]
  omega
set_option maxHeartbeats 1600000 in
theorem combined_ok (F : Nat) (f : Nat → Nat → Nat) (HFn : Hid (∀ (args : Array Value) (w : World), (callFunc F args).run Tryd.prog w = .ok (.enter F args) w)) (hF : Clo F f) (h0 : f 0 0 = 0) (n : Nat) (A B : Option Addr) (c d : Nat) (ws us : List Nat) (w : World) (hC : Cells w A (u64s ws)) (hD : Cells w B (u64s us)) (hw : Wd ws) (hu : Wd us) (hv : Valid n ws) (hvu : Valid n us) :
    Calls Tryd.prog 62 #[.agg #[.int .i64 n, .slice A ws.length c], .agg #[.int .i64 n, .slice B us.length d], .func (.func F) #[] #[]] w (NewSetE w n (List.zipWith f ws us)) := by
  have hl : ws.length = us.length := by rw [hv.len, hvu.len]
  have h20 : ws.length ≤ 20 := by have := hv.le; have := hv.len; omega
  have H1 := Lib.hid (fun w' (hx : Ex w w') => matching_c n n A B c d ws us w' (hC.ex hx) (hD.ex hx) hw hu)
  rw [(validB_iff n ws).2 ⟨n, rfl, hv⟩, (validB_iff n us).2 ⟨n, rfl, hvu⟩, decide_eq_true (rfl : (n : Int) = n)] at H1
  have H3 := Lib.hid (fun w' (hx : Ex w w') => copied_c n A c ws w' (hC.ex hx) h20)
  have HBs := Lib.hid (fun i (h : i < us.length) => u64s_at hD i h)
  have HW := Lib.hid (fun i => hw.lt i)
  have HU := Lib.hid (fun i => hu.lt i)
  have HA := Lib.hid (comb_all f ws us hl h0)
  have HL := Lib.hid (comb_len f ws us)
  have HZ : Hid ((List.zipWith f ws us).length = ws.length) := by show _ = _; rw [List.length_zipWith]; omega
  have HG : Hid (∀ k, k < ws.length → (comb f ws us k).getD k 0 = ws.getD k 0) := fun k hk => by rw [comb_get _ _ _ _ _ (by omega), if_neg (by omega)]
  have HS : Hid (∀ k, comb f ws us (k + 1) = (comb f ws us k).set k (f (ws.getD k 0) (us.getD k 0))) := fun k => rfl
  have H00 : Hid (comb f ws us 0 = ws) := rfl
  rw [← hl] at *
  clear hC hD hw hu hv hvu hl h0
  generalize hL : ws.length = m at *
  have HM := Lib.hid hL; clear hL
  go_enter Tryd.func62, Tryd.ntmps62
  go_wp2_with fail
  refine (H1.out _ (by repeat (first | exact Ex.refl _ | apply Ex.ext | apply Ex.alloc))).mono ?_
  rintro e w' ⟨rfl, y, rfl⟩
  go_wp2_with fail
  refine (H3.out _ (by repeat (first | exact Ex.refl _ | apply Ex.ext | apply Ex.alloc))).mono ?_
  rintro e w' ⟨g, rfl, hg, hB, hx⟩
  rw [HM.out]
  have hE := (((((Ex.refl w).alloc (.cells #[.int .i64 n, .slice A m c] 24)).alloc (.cells #[.int .i64 n, .slice B m d] 24)).alloc (.cells #[.int .i64 0, .slice none 0 0] 24)).ext y).trans hx
  have hr := ((Blk.new' ((w.alloc (.cells #[.int .i64 n, .slice A m c] 24)).alloc (.cells #[.int .i64 n, .slice B m d] 24)) (g := w.heap.size + 1 + 1) (by simp) 24 [.int .i64 0, .slice none 0 0]).ex ⟨y, rfl⟩).ex hx
  have hb := (((Blk.new' (w.alloc (.cells #[.int .i64 n, .slice A m c] 24)) (g := w.heap.size + 1) (by simp) 24 [.int .i64 n, .slice B m d]).alloc (.cells #[.int .i64 0, .slice none 0 0] 24)).ex ⟨y, rfl⟩).ex hx
  have hg2 : w.heap.size ≤ g := by
    have := (ext_below (((w.alloc (.cells #[.int .i64 n, .slice A m c] 24)).alloc (.cells #[.int .i64 n, .slice B m d] 24)).alloc (.cells #[.int .i64 0, .slice none 0 0] 24)) y).size
    simp at this; omega
  clear hx hg H1 H3 y
  have hrl := hr.lt
  have hbl := hb.lt
  have b0 : w'.cell? ⟨w.heap.size + 1, 0, none⟩ = some (.int .i64 n) := hb.cell 0
  have b1 : w'.cell? ⟨w.heap.size + 1, 1, none⟩ = some (.slice B m d) := hb.cell 1
  clear hb
  have hB1 := hB.alloc (.cells #[.int .i64 n, .slice (some ⟨g, 0, none⟩) m m] 24)
  have hr1 := hr.alloc (.cells #[.int .i64 n, .slice (some ⟨g, 0, none⟩) m m] 24)
  have hE1 := hE.alloc (.cells #[.int .i64 n, .slice (some ⟨g, 0, none⟩) m m] 24)
  have ho1 := Blk.new w' 24 [.int .i64 n, .slice (some ⟨g, 0, none⟩) m m]
  have n3 : w.heap.size + 1 + 1 ≠ w'.heap.size := by omega
  have n4 : w.heap.size ≤ w'.heap.size := by omega
  have HB1 := Lib.hid hB1
  have Hr1 := Lib.hid hr1
  have HE1 := Lib.hid hE1
  have Ho1 := Lib.hid ho1
  clear hB hr hE hB1 hr1 hE1 ho1
  go_wp2
  generalize hW1 : w'.alloc (.cells #[.int .i64 n, .slice (some ⟨g, 0, none⟩) m m] 24) = W1 at *
  clear hW1
  generalize w'.heap.size = b8 at *
  go_loopw [21] (fun i wr => ∃ k : Nat, i = .int .i64 k ∧ k ≤ m ∧ Blk wr b8 24 [.int .i64 n, .slice (some ⟨g, 0, none⟩) m m] ∧ Blk wr (w.heap.size + 1 + 1) 24 [.int .i64 0, .slice none 0 0] ∧ Blk wr g 54 (u64s (comb f ws us k)) ∧ Ex w wr)
    (fun i _ => m - (intOf i).toNat)
  case atStart => exact ⟨0, rfl, by omega, Ho1.out, Hr1.out, by rw [H00.out]; exact HB1.out, HE1.out⟩
  case round =>
    obtain ⟨k, rfl, hk, h8, h6, hr, hx⟩ := hrel
    by_cases hlt : k < m
    · obtain ⟨ad, rfl, ha1, ha2⟩ := HBs.out k hlt
      have HLk := Lib.hid (HL.out k)
      have HGk := Lib.hid (HG.out k hlt)
      have HSk := Lib.hid (HS.out k)
      have HFk := Lib.hid (fun w => hF (ws.getD k 0) (us.getD k 0) w (HW.out k) (HU.out k))
      generalize comb f ws us k = cs at *
      generalize us.getD k 0 = x at *
      have f0 : wr.cell? ⟨b8, 0, none⟩ = some (.int .i64 n) := h8.cell 0
      have f1 : wr.cell? ⟨b8, 1, none⟩ = some (.slice (some ⟨g, 0, none⟩) m m) := h8.cell 1
      have f2 : wr.cell? ⟨g, k, none⟩ = some (.int .u64 ((ws.getD k 0 : Nat) : Int)) := by
        rw [hr.cell, u64s_get (by rw [HLk.out]; exact hlt), ← HGk.out, List.getD_eq_getElem?_getD, List.getElem?_eq_getElem (by rw [HLk.out]; exact hlt)]; rfl
      generalize ws.getD k 0 = v at *
      have f3 : wr.frozen? ⟨g, k, none⟩ = false := hr.frozen _
      have f4 : wr.cell? (ad.add k) = some (.int .u64 x) := (hx.below.cell ha1).trans ha2
      have HR := Lib.hid hr
      have H8 := Lib.hid h8
      have H6 := Lib.hid h6
      have HXx := Lib.hid hx
      have hki : (k : Int) < (m : Int) := by omega
      clear hr h8 h6 hx ha2 b0 b1
      go_wp2
      refine wp_region_tail 12 (by kernel_rfl) (by kernel_rfl) ?_
      simp only [List.take_succ_cons, List.take_zero, List.drop_succ_cons, List.drop_zero]
      repeat (first | (go_big_quiet_step (fail)) | (go_big_quiet_want; go_big_quiet_op; rw [HFn.out]; refine ⟨_, ⟨rfl, HFk.out _⟩, ?_⟩; go_big_quiet_on))
      refine wpQuiet_on ?_
      go_wp2
      go_roundw
      case rel =>
        refine ⟨k + 1, by go_num, by omega, (H8.out.far (H8.out.ne HR.out (by decide)) _).drew, (H6.out.far (H6.out.ne HR.out (by decide)) _).drew, ?_, (HXx.out.setCell hg2 _).drew⟩
        rw [HSk.out, u64s_set]
        exact (HR.out.set_ _ _).drew
      case measure => simp [intOf]; omega
    · obtain rfl : k = m := by omega
      rw [HA.out] at hr
      have f0 : wr.cell? ⟨b8, 0, none⟩ = some (.int .i64 n) := h8.cell 0
      have f1 : wr.cell? ⟨b8, 1, none⟩ = some (.slice (some ⟨g, 0, none⟩) k k) := h8.cell 1
      have f2 : wr.cell? ⟨w.heap.size + 1 + 1, 0, none⟩ = some (.int .i64 0) := h6.cell 0
      have f3 : wr.cell? ⟨w.heap.size + 1 + 1, 1, none⟩ = some (.slice none 0 0) := h6.cell 1
      have f4 : wr.frozen? ⟨w.heap.size + 1 + 1, 0, none⟩ = false := h6.frozen _
      have f5 : wr.frozen? ⟨w.heap.size + 1 + 1, 1, none⟩ = false := h6.frozen _
      have HR := Lib.hid hr
      have H4 := Lib.hid h6
      have HXx := Lib.hid hx
      have N6 := Lib.hid (hr.ne h6 (by decide))
      clear hr h8 h6 hx b0 b1
      go_wp2
      have hb := (H4.out.set_ 0 (.int .i64 n)).set_ 1 (.slice (some ⟨g, 0, none⟩) k k)
      have c0 := hb.cell 0
      have c1 := hb.cell 1
      refine bodyPost_ret (v := .tuple #[.agg #[.int .i64 n, .slice (some ⟨g, 0, none⟩) k k], .int .i64 0]) ?_ rfl ⟨g, ?_, hg2, ?_, ?_⟩
      · simp [results, Tryd.results62, go_sem, c0, c1]
      · rw [HZ.out]
      · exact (HR.out.far N6.out _).far N6.out _
      · exact (HXx.out.setCell (by show _ ≤ w.heap.size + 1 + 1; omega) _).setCell (by show _ ≤ w.heap.size + 1 + 1; omega) _
set_option maxHeartbeats 800000 in
theorem combined_arg (F : Nat) (n p : Int) (A B : Option Addr) (c d : Nat) (ws us : List Nat) (w : World) (hC : Cells w A (u64s ws)) (hD : Cells w B (u64s us)) (hw : Wd ws) (hu : Wd us) (h : (validB n ws && (validB p us && decide (n = p))) = false) :
    Calls Tryd.prog 62 #[.agg #[.int .i64 n, .slice A ws.length c], .agg #[.int .i64 p, .slice B us.length d], .func (.func F) #[] #[]] w (Ret w (Zero 1)) := by
  have H1 := Lib.hid (fun w' (hx : Ex w w') => matching_c n p A B c d ws us w' (hC.ex hx) (hD.ex hx) hw hu)
  rw [h] at H1; clear h
  clear hC hD hw hu
  generalize ws.length = m at *
  generalize us.length = m2 at *
  go_enter Tryd.func62, Tryd.ntmps62
  go_wp2_with fail
  refine (H1.out _ (by repeat (first | exact Ex.refl _ | apply Ex.ext | apply Ex.alloc))).mono ?_
  rintro e w' ⟨rfl, y, rfl⟩
  have hr := (Blk.new' ((w.alloc (.cells #[.int .i64 n, .slice A m c] 24)).alloc (.cells #[.int .i64 p, .slice B m2 d] 24)) (g := w.heap.size + 1 + 1) (by simp) 24 [.int .i64 0, .slice none 0 0]).ex ⟨y, rfl⟩
  have hb := (hr.set_ 0 (.int .i64 0)).set_ 1 (.slice none 0 0)
  have f4 := hr.cell 0
  have f5 := hr.cell 1
  have f6 := hr.frozen 0
  have f7 := hr.frozen 1
  simp only [List.getElem?_cons_zero, List.getElem?_cons_succ] at f4 f5
  have c0 := Lib.hid (hb.cell 0)
  have c1 := Lib.hid (hb.cell 1)
  clear hr hb
  go_wp2
  have d0 := c0.out
  have d1 := c1.out
  refine bodyPost_ret (v := Zero 1) ?_ rfl ⟨rfl, ?_⟩
  · simp [results, Tryd.results62, go_sem, d0, d1, Zero]
  · exact (((((Ex.refl _).alloc _).alloc _).alloc _).ext _ |>.setCell (by show _ ≤ w.heap.size + 1 + 1; omega) _).setCell (by show _ ≤ w.heap.size + 1 + 1; omega) _
theorem clo_union : Clo 63 (fun x y => x ||| y) := Clo.of clo63 u64_or_nat
set_option maxHeartbeats 800000 in
theorem union_ok (n : Nat) (A B : Option Addr) (c d : Nat) (ws us : List Nat) (w : World) (hC : Cells w A (u64s ws)) (hD : Cells w B (u64s us)) (hw : Wd ws) (hu : Wd us) (hv : Valid n ws) (hvu : Valid n us) :
    Calls Tryd.prog 37 #[.agg #[.int .i64 n, .slice A ws.length c], .agg #[.int .i64 n, .slice B us.length d]] w (NewSetE w n (List.zipWith (fun x y => x ||| y) ws us)) := by
  have H1 := Lib.hid (fun w' (hx : Ex w w') => combined_ok 63 (fun x y => x ||| y) (fun _ _ => rfl) clo_union rfl n A B c d ws us w' (hC.ex hx) (hD.ex hx) hw hu hv hvu)
  clear hC hD hw hu hv hvu
  generalize List.zipWith (fun x y => x ||| y) ws us = rs at *
  generalize ws.length = m at *
  generalize us.length = m2 at *
  go_enter Tryd.func37, Tryd.ntmps37
  go_wp2_with fail
  refine (H1.out _ (by repeat (first | exact Ex.refl _ | apply Ex.ext | apply Ex.alloc))).mono ?_
  rintro e w' ⟨g, rfl, hg, hB, hx⟩
  have hE := (((Ex.refl w).alloc (.cells #[.int .i64 n, .slice A m c] 24)).alloc (.cells #[.int .i64 n, .slice B m2 d] 24)).alloc (.cells #[.int .i64 0, .slice none 0 0] 24) |>.trans hx
  have hr := (Blk.new' ((w.alloc (.cells #[.int .i64 n, .slice A m c] 24)).alloc (.cells #[.int .i64 n, .slice B m2 d] 24)) (g := w.heap.size + 1 + 1) (by simp) 24 [.int .i64 0, .slice none 0 0]).ex hx
  have f4 : w'.cell? ⟨w.heap.size + 1 + 1, 0, none⟩ = some (.int .i64 0) := hr.cell 0
  have f5 : w'.cell? ⟨w.heap.size + 1 + 1, 1, none⟩ = some (.slice none 0 0) := hr.cell 1
  have f6 : w'.frozen? ⟨w.heap.size + 1 + 1, 0, none⟩ = false := hr.frozen _
  have f7 : w'.frozen? ⟨w.heap.size + 1 + 1, 1, none⟩ = false := hr.frozen _
  have n2 : g ≠ w.heap.size + 1 + 1 := hB.ne hr (by decide)
  have hg2 : w.heap.size ≤ g := by simp at hg; omega
  have hb := (hr.set_ 0 (.int .i64 n)).set_ 1 (.slice (some ⟨g, 0, none⟩) rs.length rs.length)
  have HB := Lib.hid hB
  have HE := Lib.hid hE
  have c0 := Lib.hid (hb.cell 0)
  have c1 := Lib.hid (hb.cell 1)
  clear hx hg hB hE hr hb
  go_wp2
  have d0 := c0.out
  have d1 := c1.out
  refine bodyPost_ret (v := .tuple #[.agg #[.int .i64 n, .slice (some ⟨g, 0, none⟩) rs.length rs.length], .int .i64 0]) ?_ rfl ⟨g, rfl, hg2, ?_, ?_⟩
  · simp [results, Tryd.results37, go_sem, d0, d1]
  · exact (HB.out.far n2 _).far n2 _
  · exact (HE.out.setCell (by show _ ≤ w.heap.size + 1 + 1; omega) _).setCell (by show _ ≤ w.heap.size + 1 + 1; omega) _
set_option maxHeartbeats 800000 in
theorem union_arg (n p : Int) (A B : Option Addr) (c d : Nat) (ws us : List Nat) (w : World) (hC : Cells w A (u64s ws)) (hD : Cells w B (u64s us)) (hw : Wd ws) (hu : Wd us) (h : (validB n ws && (validB p us && decide (n = p))) = false) :
    Calls Tryd.prog 37 #[.agg #[.int .i64 n, .slice A ws.length c], .agg #[.int .i64 p, .slice B us.length d]] w (Ret w (Zero 1)) := by
  have H1 := Lib.hid (fun w' (hx : Ex w w') => combined_arg 63 n p A B c d ws us w' (hC.ex hx) (hD.ex hx) hw hu h)
  clear hC hD hw hu h
  generalize ws.length = m at *
  generalize us.length = m2 at *
  go_enter Tryd.func37, Tryd.ntmps37
  go_wp2_with fail
  refine (H1.out _ (by repeat (first | exact Ex.refl _ | apply Ex.ext | apply Ex.alloc))).mono ?_
  rintro e w' ⟨rfl, y, rfl⟩
  have hr := (Blk.new' ((w.alloc (.cells #[.int .i64 n, .slice A m c] 24)).alloc (.cells #[.int .i64 p, .slice B m2 d] 24)) (g := w.heap.size + 1 + 1) (by simp) 24 [.int .i64 0, .slice none 0 0]).ex ⟨y, rfl⟩
  have hb := (hr.set_ 0 (.int .i64 0)).set_ 1 (.slice none 0 0)
  have f4 := hr.cell 0
  have f5 := hr.cell 1
  have f6 := hr.frozen 0
  have f7 := hr.frozen 1
  simp only [List.getElem?_cons_zero, List.getElem?_cons_succ] at f4 f5
  have c0 := Lib.hid (hb.cell 0)
  have c1 := Lib.hid (hb.cell 1)
  clear hr hb
  unfold Zero
  go_wp2
  have d0 := c0.out
  have d1 := c1.out
  refine bodyPost_ret (v := Zero 1) ?_ rfl ⟨rfl, ?_⟩
  · simp [results, Tryd.results37, go_sem, d0, d1, Zero]
  · exact (((((Ex.refl _).alloc _).alloc _).alloc _).ext _ |>.setCell (by show _ ≤ w.heap.size + 1 + 1; omega) _).setCell (by show _ ≤ w.heap.size + 1 + 1; omega) _
theorem clo_inter : Clo 64 (fun x y => x &&& y) := Clo.of clo64 u64_and_nat
set_option maxHeartbeats 800000 in
theorem inter_ok (n : Nat) (A B : Option Addr) (c d : Nat) (ws us : List Nat) (w : World) (hC : Cells w A (u64s ws)) (hD : Cells w B (u64s us)) (hw : Wd ws) (hu : Wd us) (hv : Valid n ws) (hvu : Valid n us) :
    Calls Tryd.prog 38 #[.agg #[.int .i64 n, .slice A ws.length c], .agg #[.int .i64 n, .slice B us.length d]] w (NewSetE w n (List.zipWith (fun x y => x &&& y) ws us)) := by
  have H1 := Lib.hid (fun w' (hx : Ex w w') => combined_ok 64 (fun x y => x &&& y) (fun _ _ => rfl) clo_inter rfl n A B c d ws us w' (hC.ex hx) (hD.ex hx) hw hu hv hvu)
  clear hC hD hw hu hv hvu
  generalize List.zipWith (fun x y => x &&& y) ws us = rs at *
  generalize ws.length = m at *
  generalize us.length = m2 at *
  go_enter Tryd.func38, Tryd.ntmps38
  go_wp2_with fail
  refine (H1.out _ (by repeat (first | exact Ex.refl _ | apply Ex.ext | apply Ex.alloc))).mono ?_
  rintro e w' ⟨g, rfl, hg, hB, hx⟩
  have hE := (((Ex.refl w).alloc (.cells #[.int .i64 n, .slice A m c] 24)).alloc (.cells #[.int .i64 n, .slice B m2 d] 24)).alloc (.cells #[.int .i64 0, .slice none 0 0] 24) |>.trans hx
  have hr := (Blk.new' ((w.alloc (.cells #[.int .i64 n, .slice A m c] 24)).alloc (.cells #[.int .i64 n, .slice B m2 d] 24)) (g := w.heap.size + 1 + 1) (by simp) 24 [.int .i64 0, .slice none 0 0]).ex hx
  have f4 : w'.cell? ⟨w.heap.size + 1 + 1, 0, none⟩ = some (.int .i64 0) := hr.cell 0
  have f5 : w'.cell? ⟨w.heap.size + 1 + 1, 1, none⟩ = some (.slice none 0 0) := hr.cell 1
  have f6 : w'.frozen? ⟨w.heap.size + 1 + 1, 0, none⟩ = false := hr.frozen _
  have f7 : w'.frozen? ⟨w.heap.size + 1 + 1, 1, none⟩ = false := hr.frozen _
  have n2 : g ≠ w.heap.size + 1 + 1 := hB.ne hr (by decide)
  have hg2 : w.heap.size ≤ g := by simp at hg; omega
  have hb := (hr.set_ 0 (.int .i64 n)).set_ 1 (.slice (some ⟨g, 0, none⟩) rs.length rs.length)
  have HB := Lib.hid hB
  have HE := Lib.hid hE
  have c0 := Lib.hid (hb.cell 0)
  have c1 := Lib.hid (hb.cell 1)
  clear hx hg hB hE hr hb
  go_wp2
  have d0 := c0.out
  have d1 := c1.out
  refine bodyPost_ret (v := .tuple #[.agg #[.int .i64 n, .slice (some ⟨g, 0, none⟩) rs.length rs.length], .int .i64 0]) ?_ rfl ⟨g, rfl, hg2, ?_, ?_⟩
  · simp [results, Tryd.results38, go_sem, d0, d1]
  · exact (HB.out.far n2 _).far n2 _
  · exact (HE.out.setCell (by show _ ≤ w.heap.size + 1 + 1; omega) _).setCell (by show _ ≤ w.heap.size + 1 + 1; omega) _
set_option maxHeartbeats 800000 in
theorem inter_arg (n p : Int) (A B : Option Addr) (c d : Nat) (ws us : List Nat) (w : World) (hC : Cells w A (u64s ws)) (hD : Cells w B (u64s us)) (hw : Wd ws) (hu : Wd us) (h : (validB n ws && (validB p us && decide (n = p))) = false) :
    Calls Tryd.prog 38 #[.agg #[.int .i64 n, .slice A ws.length c], .agg #[.int .i64 p, .slice B us.length d]] w (Ret w (Zero 1)) := by
  have H1 := Lib.hid (fun w' (hx : Ex w w') => combined_arg 64 n p A B c d ws us w' (hC.ex hx) (hD.ex hx) hw hu h)
  clear hC hD hw hu h
  generalize ws.length = m at *
  generalize us.length = m2 at *
  go_enter Tryd.func38, Tryd.ntmps38
  go_wp2_with fail
  refine (H1.out _ (by repeat (first | exact Ex.refl _ | apply Ex.ext | apply Ex.alloc))).mono ?_
  rintro e w' ⟨rfl, y, rfl⟩
  have hr := (Blk.new' ((w.alloc (.cells #[.int .i64 n, .slice A m c] 24)).alloc (.cells #[.int .i64 p, .slice B m2 d] 24)) (g := w.heap.size + 1 + 1) (by simp) 24 [.int .i64 0, .slice none 0 0]).ex ⟨y, rfl⟩
  have hb := (hr.set_ 0 (.int .i64 0)).set_ 1 (.slice none 0 0)
  have f4 := hr.cell 0
  have f5 := hr.cell 1
  have f6 := hr.frozen 0
  have f7 := hr.frozen 1
  simp only [List.getElem?_cons_zero, List.getElem?_cons_succ] at f4 f5
  have c0 := Lib.hid (hb.cell 0)
  have c1 := Lib.hid (hb.cell 1)
  clear hr hb
  unfold Zero
  go_wp2
  have d0 := c0.out
  have d1 := c1.out
  refine bodyPost_ret (v := Zero 1) ?_ rfl ⟨rfl, ?_⟩
  · simp [results, Tryd.results38, go_sem, d0, d1, Zero]
  · exact (((((Ex.refl _).alloc _).alloc _).alloc _).ext _ |>.setCell (by show _ ≤ w.heap.size + 1 + 1; omega) _).setCell (by show _ ≤ w.heap.size + 1 + 1; omega) _
theorem clo_minus : Clo 65 (andNot) := Clo.of clo65 andNot_nat
set_option maxHeartbeats 800000 in
theorem minus_ok (n : Nat) (A B : Option Addr) (c d : Nat) (ws us : List Nat) (w : World) (hC : Cells w A (u64s ws)) (hD : Cells w B (u64s us)) (hw : Wd ws) (hu : Wd us) (hv : Valid n ws) (hvu : Valid n us) :
    Calls Tryd.prog 39 #[.agg #[.int .i64 n, .slice A ws.length c], .agg #[.int .i64 n, .slice B us.length d]] w (NewSetE w n (List.zipWith (andNot) ws us)) := by
  have H1 := Lib.hid (fun w' (hx : Ex w w') => combined_ok 65 (andNot) (fun _ _ => rfl) clo_minus rfl n A B c d ws us w' (hC.ex hx) (hD.ex hx) hw hu hv hvu)
  clear hC hD hw hu hv hvu
  generalize List.zipWith (andNot) ws us = rs at *
  generalize ws.length = m at *
  generalize us.length = m2 at *
  go_enter Tryd.func39, Tryd.ntmps39
  go_wp2_with fail
  refine (H1.out _ (by repeat (first | exact Ex.refl _ | apply Ex.ext | apply Ex.alloc))).mono ?_
  rintro e w' ⟨g, rfl, hg, hB, hx⟩
  have hE := (((Ex.refl w).alloc (.cells #[.int .i64 n, .slice A m c] 24)).alloc (.cells #[.int .i64 n, .slice B m2 d] 24)).alloc (.cells #[.int .i64 0, .slice none 0 0] 24) |>.trans hx
  have hr := (Blk.new' ((w.alloc (.cells #[.int .i64 n, .slice A m c] 24)).alloc (.cells #[.int .i64 n, .slice B m2 d] 24)) (g := w.heap.size + 1 + 1) (by simp) 24 [.int .i64 0, .slice none 0 0]).ex hx
  have f4 : w'.cell? ⟨w.heap.size + 1 + 1, 0, none⟩ = some (.int .i64 0) := hr.cell 0
  have f5 : w'.cell? ⟨w.heap.size + 1 + 1, 1, none⟩ = some (.slice none 0 0) := hr.cell 1
  have f6 : w'.frozen? ⟨w.heap.size + 1 + 1, 0, none⟩ = false := hr.frozen _
  have f7 : w'.frozen? ⟨w.heap.size + 1 + 1, 1, none⟩ = false := hr.frozen _
  have n2 : g ≠ w.heap.size + 1 + 1 := hB.ne hr (by decide)
  have hg2 : w.heap.size ≤ g := by simp at hg; omega
  have hb := (hr.set_ 0 (.int .i64 n)).set_ 1 (.slice (some ⟨g, 0, none⟩) rs.length rs.length)
  have HB := Lib.hid hB
  have HE := Lib.hid hE
  have c0 := Lib.hid (hb.cell 0)
  have c1 := Lib.hid (hb.cell 1)
  clear hx hg hB hE hr hb
  go_wp2
  have d0 := c0.out
  have d1 := c1.out
  refine bodyPost_ret (v := .tuple #[.agg #[.int .i64 n, .slice (some ⟨g, 0, none⟩) rs.length rs.length], .int .i64 0]) ?_ rfl ⟨g, rfl, hg2, ?_, ?_⟩
  · simp [results, Tryd.results39, go_sem, d0, d1]
  · exact (HB.out.far n2 _).far n2 _
  · exact (HE.out.setCell (by show _ ≤ w.heap.size + 1 + 1; omega) _).setCell (by show _ ≤ w.heap.size + 1 + 1; omega) _
set_option maxHeartbeats 800000 in
theorem minus_arg (n p : Int) (A B : Option Addr) (c d : Nat) (ws us : List Nat) (w : World) (hC : Cells w A (u64s ws)) (hD : Cells w B (u64s us)) (hw : Wd ws) (hu : Wd us) (h : (validB n ws && (validB p us && decide (n = p))) = false) :
    Calls Tryd.prog 39 #[.agg #[.int .i64 n, .slice A ws.length c], .agg #[.int .i64 p, .slice B us.length d]] w (Ret w (Zero 1)) := by
  have H1 := Lib.hid (fun w' (hx : Ex w w') => combined_arg 65 n p A B c d ws us w' (hC.ex hx) (hD.ex hx) hw hu h)
  clear hC hD hw hu h
  generalize ws.length = m at *
  generalize us.length = m2 at *
  go_enter Tryd.func39, Tryd.ntmps39
  go_wp2_with fail
  refine (H1.out _ (by repeat (first | exact Ex.refl _ | apply Ex.ext | apply Ex.alloc))).mono ?_
  rintro e w' ⟨rfl, y, rfl⟩
  have hr := (Blk.new' ((w.alloc (.cells #[.int .i64 n, .slice A m c] 24)).alloc (.cells #[.int .i64 p, .slice B m2 d] 24)) (g := w.heap.size + 1 + 1) (by simp) 24 [.int .i64 0, .slice none 0 0]).ex ⟨y, rfl⟩
  have hb := (hr.set_ 0 (.int .i64 0)).set_ 1 (.slice none 0 0)
  have f4 := hr.cell 0
  have f5 := hr.cell 1
  have f6 := hr.frozen 0
  have f7 := hr.frozen 1
  simp only [List.getElem?_cons_zero, List.getElem?_cons_succ] at f4 f5
  have c0 := Lib.hid (hb.cell 0)
  have c1 := Lib.hid (hb.cell 1)
  clear hr hb
  unfold Zero
  go_wp2
  have d0 := c0.out
  have d1 := c1.out
  refine bodyPost_ret (v := Zero 1) ?_ rfl ⟨rfl, ?_⟩
  · simp [results, Tryd.results39, go_sem, d0, d1, Zero]
  · exact (((((Ex.refl _).alloc _).alloc _).alloc _).ext _ |>.setCell (by show _ ≤ w.heap.size + 1 + 1; omega) _).setCell (by show _ ≤ w.heap.size + 1 + 1; omega) _
end Go.Proofs.YtfinldppcdkeoaaDoor
