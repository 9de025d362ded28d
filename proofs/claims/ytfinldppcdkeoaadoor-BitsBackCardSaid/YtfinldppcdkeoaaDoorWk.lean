/-
  The sets with one number more or less.
  Conditions: words below 2^64, at most 20 words.
-/
import Derived.Test.YtfinldppcdkeoaaDoorWj
import Derived.Test.YtfinldppcdkeoaaDoorWf
namespace Go.Proofs.YtfinldppcdkeoaaDoor
open Go.RowKit Bm
theorem quiet_is {P : Program} {f : FuncId} {args : Array Value} {W : World} {v : Value} (h : Calls P f args W fun e w' => e = .returned v ∧ W = w') : Calls P f args W fun e w'' => e = .returned v ∧ w'' = W :=
  h.mono fun _ _ ⟨he, hw⟩ => ⟨he, hw.symm⟩
theorem shl_bit (r : Nat) (hr : r < 64) : IntKind.u64.wrap (2 ^ r) = ((2 ^ r : Nat) : Int) := by
  have hp : (2 : Nat) ^ r < 18446744073709551616 := Nat.pow_lt_pow_right (by omega) (show r < 64 from hr)
  have e2 : ((2 : Int) ^ r) = ((2 ^ r : Nat) : Int) := by simp
  rw [IntKind.wrap_u64, e2]
  generalize (2 : Nat) ^ r = p at *
  omega
theorem clo59 (x y : Int) (w : World) : Calls Tryd.prog 59 #[.int .u64 x, .int .u64 y] w fun e w' => e = .returned (.int .u64 (bits BinOp.or .u64 x y)) ∧ w = w' := by
  go_enter Tryd.func59, Tryd.ntmps59
  go_wp2
  go_ret
  exact ⟨rfl, rfl⟩
theorem clo60 (x y : Int) (w : World) : Calls Tryd.prog 60 #[.int .u64 x, .int .u64 y] w fun e w' => e = .returned (.int .u64 (bits BinOp.andNot .u64 x y)) ∧ w = w' := by
  go_enter Tryd.func60, Tryd.ntmps60
  go_wp2
  go_ret
  exact ⟨rfl, rfl⟩
theorem clo63 (x y : Int) (w : World) : Calls Tryd.prog 63 #[.int .u64 x, .int .u64 y] w fun e w' => e = .returned (.int .u64 (bits BinOp.or .u64 x y)) ∧ w = w' := by
  go_enter Tryd.func63, Tryd.ntmps63
  go_wp2
  go_ret
  exact ⟨rfl, rfl⟩
theorem clo64 (x y : Int) (w : World) : Calls Tryd.prog 64 #[.int .u64 x, .int .u64 y] w fun e w' => e = .returned (.int .u64 (bits BinOp.and .u64 x y)) ∧ w = w' := by
  go_enter Tryd.func64, Tryd.ntmps64
  go_wp2
  go_ret
  exact ⟨rfl, rfl⟩
theorem clo65 (x y : Int) (w : World) : Calls Tryd.prog 65 #[.int .u64 x, .int .u64 y] w fun e w' => e = .returned (.int .u64 (bits BinOp.andNot .u64 x y)) ∧ w = w' := by
  go_enter Tryd.func65, Tryd.ntmps65
  go_wp2
  go_ret
  exact ⟨rfl, rfl⟩

set_option maxHeartbeats 1600000 in
theorem changed_with (n i : Nat) (A : Option Addr) (c : Nat) (ws : List Nat) (w : World) (hC : Cells w A (u64s ws)) (hw : Wd ws) (hv : Valid n ws) (hi : i < n) (v' : Nat)
    (hop : bits BinOp.or .u64 ((ws.getD (i / 64) 0 : Nat) : Int) (IntKind.u64.wrap (2 ^ (i % 64))) = (v' : Int)) :
    Calls Tryd.prog 58 #[.agg #[.int .i64 n, .slice A ws.length c], .int .i64 i, .func (.func 59) #[] #[]] w (NewSetE w n (ws.set (i / 64) v')) := by
  have hlen := hv.len
  have hle := hv.le
  have H1 := Lib.hid (fun w' (hx : Ex w w') => valid_c n A c ws w' (hC.ex hx) hw)
  rw [(validB_iff n ws).2 ⟨n, rfl, hv⟩] at H1
  have H2 := Lib.hid (fun w' => inside_c n i A ws.length c w')
  have hq : (decide ((0 : Int) ≤ (i : Int)) && decide ((i : Int) < (n : Int))) = true := by simp; omega
  rw [hq] at H2; clear hq
  have H3 := Lib.hid (fun w' (hx : Ex w w') => copied_c n A c ws w' (hC.ex hx) (by omega))
  have hxi : ((i / 64 : Nat) : Int) < (ws.length : Int) := by omega
  have hxn : i / 64 < ws.length := by omega
  have HR0 : Hid (∀ (W : World) g, Blk W g 54 (u64s ws) → W.cell? ⟨g, i / 64, none⟩ = some (.int .u64 ((ws.getD (i / 64) 0 : Nat) : Int))) := fun W g hB => by
    rw [hB.cell, u64s_get hxn, List.getD_eq_getElem?_getD, List.getElem?_eq_getElem hxn]; rfl
  have HSet : Hid ((ws.set (i / 64) v').length = ws.length ∧ u64s (ws.set (i / 64) v') = (u64s ws).set (i / 64) (.int .u64 (v' : Int))) := ⟨List.length_set, u64s_set ws (i / 64) v'⟩
  have HV := Lib.hid hop
  generalize ws.getD (i / 64) 0 = ov at *
  clear hC hw hv hlen hop
  generalize hL : ws.length = m at *
  have HM := Lib.hid hL; clear hL
  go_enter Tryd.func58, Tryd.ntmps58
  go_wp2_with fail
  refine (H1.out _ (by repeat (first | exact Ex.refl _ | apply Ex.ext | apply Ex.alloc))).mono ?_
  rintro e w' ⟨rfl, y, rfl⟩
  go_wp2_with fail
  refine (Calls.up (W := (w.alloc (.cells #[.int .i64 n, .slice A m c] 24)).alloc (.cells #[.int .i64 0, .slice none 0 0] 24)) ⟨_, rfl⟩ (H2.out _)).mono ?_
  rintro e w' ⟨rfl, y2, rfl⟩
  go_wp2_with fail
  refine (H3.out _ (by repeat (first | exact Ex.refl _ | apply Ex.ext | apply Ex.alloc))).mono ?_
  rintro e w' ⟨g, rfl, hg, hB, hx⟩
  rw [HM.out]
  have hE := ((((Ex.refl w).alloc (.cells #[.int .i64 n, .slice A m c] 24)).alloc (.cells #[.int .i64 0, .slice none 0 0] 24)).ext y2).trans hx
  have hr := ((Blk.new' (w.alloc (.cells #[.int .i64 n, .slice A m c] 24)) (g := w.heap.size + 1) (by simp) 24 [.int .i64 0, .slice none 0 0]).ex ⟨y2, rfl⟩).ex hx
  have hg2 : w.heap.size ≤ g := by
    have := (ext_below ((w.alloc (.cells #[.int .i64 n, .slice A m c] 24)).alloc (.cells #[.int .i64 0, .slice none 0 0] 24)) y2).size
    simp at this; omega
  clear hx hg H1 H2 H3 y y2
  have hrl := hr.lt
  have hB1 := hB.alloc (.cells #[.int .i64 n, .slice (some ⟨g, 0, none⟩) m m] 24)
  have hr1 := hr.alloc (.cells #[.int .i64 n, .slice (some ⟨g, 0, none⟩) m m] 24)
  have hE1 := hE.alloc (.cells #[.int .i64 n, .slice (some ⟨g, 0, none⟩) m m] 24)
  have ho1 := Blk.new w' 24 [.int .i64 n, .slice (some ⟨g, 0, none⟩) m m]
  have hbl : w.heap.size ≤ w'.heap.size := hE.below.size
  go_wp2_with fail
  generalize hW1 : w'.alloc (.cells #[.int .i64 n, .slice (some ⟨g, 0, none⟩) m m] 24) = W1 at *
  have ho1' := ho1
  clear ho1 hB hr hE hW1
  generalize w'.heap.size = b8 at *
  have f0 : W1.cell? ⟨b8, 0, none⟩ = some (.int .i64 n) := ho1'.cell 0
  have f1 : W1.cell? ⟨b8, 1, none⟩ = some (.slice (some ⟨g, 0, none⟩) m m) := ho1'.cell 1
  have f2 : W1.cell? ⟨g, i / 64, none⟩ = some (.int .u64 (ov : Int)) := HR0.out _ _ hB1
  have f3 : W1.frozen? ⟨g, i / 64, none⟩ = false := hB1.frozen _
  have n1 : g ≠ b8 := hB1.ne ho1' (by decide)
  have n2 : g ≠ w.heap.size + 1 := hB1.ne hr1 (by decide)
  have f4 : W1.cell? ⟨w.heap.size + 1, 0, none⟩ = some (.int .i64 0) := hr1.cell 0
  have f5 : W1.cell? ⟨w.heap.size + 1, 1, none⟩ = some (.slice none 0 0) := hr1.cell 1
  have f6 : W1.frozen? ⟨w.heap.size + 1, 0, none⟩ = false := hr1.frozen _
  have f7 : W1.frozen? ⟨w.heap.size + 1, 1, none⟩ = false := hr1.frozen _
  have HB1 := Lib.hid hB1
  have Hr1 := Lib.hid hr1
  have HE1 := Lib.hid hE1
  clear hB1 hr1 hE1 ho1' HR0
  refine wp_region_tail 16 (by kernel_rfl) (by kernel_rfl) ?_
  simp only [List.take_succ_cons, List.take_zero, List.drop_succ_cons, List.drop_zero]
  repeat (first | (go_big_quiet_step (fail)) | (go_big_quiet_want; go_big_quiet_op; refine ⟨_, quiet_is (clo59 _ _ _), ?_⟩; go_big_quiet_on))
  refine wpQuiet_on ?_
  go_wp2
  rw [HV.out]
  have hb := ((Hr1.out.far (p := ⟨g, i / 64, none⟩) n2.symm (.int .u64 (v' : Int))).set_ 0 (.int .i64 n)).set_ 1 (.slice (some ⟨g, 0, none⟩) m m)
  have c0 := hb.cell 0
  have c1 := hb.cell 1
  refine bodyPost_ret (v := .tuple #[.agg #[.int .i64 n, .slice (some ⟨g, 0, none⟩) m m], .int .i64 0]) ?_ rfl ⟨g, ?_, hg2, ?_, ?_⟩
  · simp [results, Tryd.results58, go_sem, c0, c1]
  · rw [HSet.out.1]
  · rw [HSet.out.2]
    exact (((HB1.out.set_ _ _).far n2 _).far n2 _).drew
  · exact (((HE1.out.setCell hg2 _).setCell (by show _ ≤ w.heap.size + 1; omega) _).setCell (by show _ ≤ w.heap.size + 1; omega) _).drew
theorem with_ok (n i : Nat) (A : Option Addr) (c : Nat) (ws : List Nat) (w : World) (hC : Cells w A (u64s ws)) (hw : Wd ws) (hv : Valid n ws) (hi : i < n) (v' : Nat)
    (hop : bits BinOp.or .u64 ((ws.getD (i / 64) 0 : Nat) : Int) (IntKind.u64.wrap (2 ^ (i % 64))) = (v' : Int)) :
    Calls Tryd.prog 31 #[.agg #[.int .i64 n, .slice A ws.length c], .int .i64 i] w (NewSetE w n (ws.set (i / 64) v')) := by
  have H1 := Lib.hid (fun w' (hx : Ex w w') => changed_with n i A c ws w' (hC.ex hx) hw hv hi v' hop)
  clear hC hw hv hop
  generalize ws.length = m at *
  go_enter Tryd.func31, Tryd.ntmps31
  go_wp2_with fail
  refine (H1.out _ (by repeat (first | exact Ex.refl _ | apply Ex.ext | apply Ex.alloc))).mono ?_
  rintro e w' ⟨g, rfl, hg, hB, hx⟩
  have hE := ((Ex.refl w).alloc (.cells #[.int .i64 n, .slice A m c] 24)).alloc (.cells #[.int .i64 0, .slice none 0 0] 24) |>.trans hx
  have hr := (Blk.new' (w.alloc (.cells #[.int .i64 n, .slice A m c] 24)) (g := w.heap.size + 1) (by simp) 24 [.int .i64 0, .slice none 0 0]).ex hx
  have f4 : w'.cell? ⟨w.heap.size + 1, 0, none⟩ = some (.int .i64 0) := hr.cell 0
  have f5 : w'.cell? ⟨w.heap.size + 1, 1, none⟩ = some (.slice none 0 0) := hr.cell 1
  have f6 : w'.frozen? ⟨w.heap.size + 1, 0, none⟩ = false := hr.frozen _
  have f7 : w'.frozen? ⟨w.heap.size + 1, 1, none⟩ = false := hr.frozen _
  have n2 : g ≠ w.heap.size + 1 := hB.ne hr (by decide)
  have hg2 : w.heap.size ≤ g := by simp at hg; omega
  generalize (ws.set (i / 64) v') = us at *
  have hb := (hr.set_ 0 (.int .i64 n)).set_ 1 (.slice (some ⟨g, 0, none⟩) us.length us.length)
  have HB := Lib.hid hB
  have HE := Lib.hid hE
  have c0 := Lib.hid (hb.cell 0)
  have c1 := Lib.hid (hb.cell 1)
  clear hx hg hB hE hr hb
  go_wp2
  have d0 := c0.out
  have d1 := c1.out
  refine bodyPost_ret (v := .tuple #[.agg #[.int .i64 n, .slice (some ⟨g, 0, none⟩) us.length us.length], .int .i64 0]) ?_ rfl ⟨g, rfl, hg2, ?_, ?_⟩
  · simp [results, Tryd.results31, go_sem, d0, d1]
  · exact (HB.out.far n2 _).far n2 _
  · exact (HE.out.setCell (by show _ ≤ w.heap.size + 1; omega) _).setCell (by show _ ≤ w.heap.size + 1; omega) _

set_option maxHeartbeats 1600000 in
theorem changed_without (n i : Nat) (A : Option Addr) (c : Nat) (ws : List Nat) (w : World) (hC : Cells w A (u64s ws)) (hw : Wd ws) (hv : Valid n ws) (hi : i < n) (v' : Nat)
    (hop : bits BinOp.andNot .u64 ((ws.getD (i / 64) 0 : Nat) : Int) (IntKind.u64.wrap (2 ^ (i % 64))) = (v' : Int)) :
    Calls Tryd.prog 58 #[.agg #[.int .i64 n, .slice A ws.length c], .int .i64 i, .func (.func 60) #[] #[]] w (NewSetE w n (ws.set (i / 64) v')) := by
  have hlen := hv.len
  have hle := hv.le
  have H1 := Lib.hid (fun w' (hx : Ex w w') => valid_c n A c ws w' (hC.ex hx) hw)
  rw [(validB_iff n ws).2 ⟨n, rfl, hv⟩] at H1
  have H2 := Lib.hid (fun w' => inside_c n i A ws.length c w')
  have hq : (decide ((0 : Int) ≤ (i : Int)) && decide ((i : Int) < (n : Int))) = true := by simp; omega
  rw [hq] at H2; clear hq
  have H3 := Lib.hid (fun w' (hx : Ex w w') => copied_c n A c ws w' (hC.ex hx) (by omega))
  have hxi : ((i / 64 : Nat) : Int) < (ws.length : Int) := by omega
  have hxn : i / 64 < ws.length := by omega
  have HR0 : Hid (∀ (W : World) g, Blk W g 54 (u64s ws) → W.cell? ⟨g, i / 64, none⟩ = some (.int .u64 ((ws.getD (i / 64) 0 : Nat) : Int))) := fun W g hB => by
    rw [hB.cell, u64s_get hxn, List.getD_eq_getElem?_getD, List.getElem?_eq_getElem hxn]; rfl
  have HSet : Hid ((ws.set (i / 64) v').length = ws.length ∧ u64s (ws.set (i / 64) v') = (u64s ws).set (i / 64) (.int .u64 (v' : Int))) := ⟨List.length_set, u64s_set ws (i / 64) v'⟩
  have HV := Lib.hid hop
  generalize ws.getD (i / 64) 0 = ov at *
  clear hC hw hv hlen hop
  generalize hL : ws.length = m at *
  have HM := Lib.hid hL; clear hL
  go_enter Tryd.func58, Tryd.ntmps58
  go_wp2_with fail
  refine (H1.out _ (by repeat (first | exact Ex.refl _ | apply Ex.ext | apply Ex.alloc))).mono ?_
  rintro e w' ⟨rfl, y, rfl⟩
  go_wp2_with fail
  refine (Calls.up (W := (w.alloc (.cells #[.int .i64 n, .slice A m c] 24)).alloc (.cells #[.int .i64 0, .slice none 0 0] 24)) ⟨_, rfl⟩ (H2.out _)).mono ?_
  rintro e w' ⟨rfl, y2, rfl⟩
  go_wp2_with fail
  refine (H3.out _ (by repeat (first | exact Ex.refl _ | apply Ex.ext | apply Ex.alloc))).mono ?_
  rintro e w' ⟨g, rfl, hg, hB, hx⟩
  rw [HM.out]
  have hE := ((((Ex.refl w).alloc (.cells #[.int .i64 n, .slice A m c] 24)).alloc (.cells #[.int .i64 0, .slice none 0 0] 24)).ext y2).trans hx
  have hr := ((Blk.new' (w.alloc (.cells #[.int .i64 n, .slice A m c] 24)) (g := w.heap.size + 1) (by simp) 24 [.int .i64 0, .slice none 0 0]).ex ⟨y2, rfl⟩).ex hx
  have hg2 : w.heap.size ≤ g := by
    have := (ext_below ((w.alloc (.cells #[.int .i64 n, .slice A m c] 24)).alloc (.cells #[.int .i64 0, .slice none 0 0] 24)) y2).size
    simp at this; omega
  clear hx hg H1 H2 H3 y y2
  have hrl := hr.lt
  have hB1 := hB.alloc (.cells #[.int .i64 n, .slice (some ⟨g, 0, none⟩) m m] 24)
  have hr1 := hr.alloc (.cells #[.int .i64 n, .slice (some ⟨g, 0, none⟩) m m] 24)
  have hE1 := hE.alloc (.cells #[.int .i64 n, .slice (some ⟨g, 0, none⟩) m m] 24)
  have ho1 := Blk.new w' 24 [.int .i64 n, .slice (some ⟨g, 0, none⟩) m m]
  have hbl : w.heap.size ≤ w'.heap.size := hE.below.size
  go_wp2_with fail
  generalize hW1 : w'.alloc (.cells #[.int .i64 n, .slice (some ⟨g, 0, none⟩) m m] 24) = W1 at *
  have ho1' := ho1
  clear ho1 hB hr hE hW1
  generalize w'.heap.size = b8 at *
  have f0 : W1.cell? ⟨b8, 0, none⟩ = some (.int .i64 n) := ho1'.cell 0
  have f1 : W1.cell? ⟨b8, 1, none⟩ = some (.slice (some ⟨g, 0, none⟩) m m) := ho1'.cell 1
  have f2 : W1.cell? ⟨g, i / 64, none⟩ = some (.int .u64 (ov : Int)) := HR0.out _ _ hB1
  have f3 : W1.frozen? ⟨g, i / 64, none⟩ = false := hB1.frozen _
  have n1 : g ≠ b8 := hB1.ne ho1' (by decide)
  have n2 : g ≠ w.heap.size + 1 := hB1.ne hr1 (by decide)
  have f4 : W1.cell? ⟨w.heap.size + 1, 0, none⟩ = some (.int .i64 0) := hr1.cell 0
  have f5 : W1.cell? ⟨w.heap.size + 1, 1, none⟩ = some (.slice none 0 0) := hr1.cell 1
  have f6 : W1.frozen? ⟨w.heap.size + 1, 0, none⟩ = false := hr1.frozen _
  have f7 : W1.frozen? ⟨w.heap.size + 1, 1, none⟩ = false := hr1.frozen _
  have HB1 := Lib.hid hB1
  have Hr1 := Lib.hid hr1
  have HE1 := Lib.hid hE1
  clear hB1 hr1 hE1 ho1' HR0
  refine wp_region_tail 16 (by kernel_rfl) (by kernel_rfl) ?_
  simp only [List.take_succ_cons, List.take_zero, List.drop_succ_cons, List.drop_zero]
  repeat (first | (go_big_quiet_step (fail)) | (go_big_quiet_want; go_big_quiet_op; refine ⟨_, quiet_is (clo60 _ _ _), ?_⟩; go_big_quiet_on))
  refine wpQuiet_on ?_
  go_wp2
  rw [HV.out]
  have hb := ((Hr1.out.far (p := ⟨g, i / 64, none⟩) n2.symm (.int .u64 (v' : Int))).set_ 0 (.int .i64 n)).set_ 1 (.slice (some ⟨g, 0, none⟩) m m)
  have c0 := hb.cell 0
  have c1 := hb.cell 1
  refine bodyPost_ret (v := .tuple #[.agg #[.int .i64 n, .slice (some ⟨g, 0, none⟩) m m], .int .i64 0]) ?_ rfl ⟨g, ?_, hg2, ?_, ?_⟩
  · simp [results, Tryd.results58, go_sem, c0, c1]
  · rw [HSet.out.1]
  · rw [HSet.out.2]
    exact (((HB1.out.set_ _ _).far n2 _).far n2 _).drew
  · exact (((HE1.out.setCell hg2 _).setCell (by show _ ≤ w.heap.size + 1; omega) _).setCell (by show _ ≤ w.heap.size + 1; omega) _).drew
theorem without_ok (n i : Nat) (A : Option Addr) (c : Nat) (ws : List Nat) (w : World) (hC : Cells w A (u64s ws)) (hw : Wd ws) (hv : Valid n ws) (hi : i < n) (v' : Nat)
    (hop : bits BinOp.andNot .u64 ((ws.getD (i / 64) 0 : Nat) : Int) (IntKind.u64.wrap (2 ^ (i % 64))) = (v' : Int)) :
    Calls Tryd.prog 32 #[.agg #[.int .i64 n, .slice A ws.length c], .int .i64 i] w (NewSetE w n (ws.set (i / 64) v')) := by
  have H1 := Lib.hid (fun w' (hx : Ex w w') => changed_without n i A c ws w' (hC.ex hx) hw hv hi v' hop)
  clear hC hw hv hop
  generalize ws.length = m at *
  go_enter Tryd.func32, Tryd.ntmps32
  go_wp2_with fail
  refine (H1.out _ (by repeat (first | exact Ex.refl _ | apply Ex.ext | apply Ex.alloc))).mono ?_
  rintro e w' ⟨g, rfl, hg, hB, hx⟩
  have hE := ((Ex.refl w).alloc (.cells #[.int .i64 n, .slice A m c] 24)).alloc (.cells #[.int .i64 0, .slice none 0 0] 24) |>.trans hx
  have hr := (Blk.new' (w.alloc (.cells #[.int .i64 n, .slice A m c] 24)) (g := w.heap.size + 1) (by simp) 24 [.int .i64 0, .slice none 0 0]).ex hx
  have f4 : w'.cell? ⟨w.heap.size + 1, 0, none⟩ = some (.int .i64 0) := hr.cell 0
  have f5 : w'.cell? ⟨w.heap.size + 1, 1, none⟩ = some (.slice none 0 0) := hr.cell 1
  have f6 : w'.frozen? ⟨w.heap.size + 1, 0, none⟩ = false := hr.frozen _
  have f7 : w'.frozen? ⟨w.heap.size + 1, 1, none⟩ = false := hr.frozen _
  have n2 : g ≠ w.heap.size + 1 := hB.ne hr (by decide)
  have hg2 : w.heap.size ≤ g := by simp at hg; omega
  generalize (ws.set (i / 64) v') = us at *
  have hb := (hr.set_ 0 (.int .i64 n)).set_ 1 (.slice (some ⟨g, 0, none⟩) us.length us.length)
  have HB := Lib.hid hB
  have HE := Lib.hid hE
  have c0 := Lib.hid (hb.cell 0)
  have c1 := Lib.hid (hb.cell 1)
  clear hx hg hB hE hr hb
  go_wp2
  have d0 := c0.out
  have d1 := c1.out
  refine bodyPost_ret (v := .tuple #[.agg #[.int .i64 n, .slice (some ⟨g, 0, none⟩) us.length us.length], .int .i64 0]) ?_ rfl ⟨g, rfl, hg2, ?_, ?_⟩
  · simp [results, Tryd.results32, go_sem, d0, d1]
  · exact (HB.out.far n2 _).far n2 _
  · exact (HE.out.setCell (by show _ ≤ w.heap.size + 1; omega) _).setCell (by show _ ≤ w.heap.size + 1; omega) _

set_option maxHeartbeats 800000 in
theorem changed_with_arg (n i : Int) (A : Option Addr) (c : Nat) (ws : List Nat) (w : World) (hC : Cells w A (u64s ws)) (hw : Wd ws) (h : validB n ws = false) :
    Calls Tryd.prog 58 #[.agg #[.int .i64 n, .slice A ws.length c], .int .i64 i, .func (.func 59) #[] #[]] w (Ret w (Zero 1)) := by
  have H1 := Lib.hid (fun w' (hx : Ex w w') => valid_c n A c ws w' (hC.ex hx) hw)
  rw [h] at H1; clear h
  clear hC hw
  generalize ws.length = m at *
  go_enter Tryd.func58, Tryd.ntmps58
  go_wp2_with fail
  refine (H1.out _ (by repeat (first | exact Ex.refl _ | apply Ex.ext | apply Ex.alloc))).mono ?_
  rintro e w' ⟨rfl, y, rfl⟩
  have hr := (Blk.new' (w.alloc (.cells #[.int .i64 n, .slice A m c] 24)) (g := w.heap.size + 1) (by simp) 24 [.int .i64 0, .slice none 0 0]).ex ⟨y, rfl⟩
  have hb := (hr.set_ 0 (.int .i64 0)).set_ 1 (.slice none 0 0)
  have f4 := hr.cell 0
  have f5 := hr.cell 1
  have f6 := hr.frozen 0
  have f7 := hr.frozen 1
  simp only [List.getElem?_cons_zero, List.getElem?_cons_succ] at f4 f5
  have c0 := Lib.hid (hb.cell 0)
  have c1 := Lib.hid (hb.cell 1)
  clear hr hb
  go_wp2
  have d0 := c0.out
  have d1 := c1.out
  refine bodyPost_ret (v := Zero 1) ?_ rfl ⟨rfl, ?_⟩
  · simp [results, Tryd.results58, go_sem, d0, d1, Zero]
  · exact ((((Ex.refl _).alloc _).alloc _).ext _ |>.setCell (by show _ ≤ w.heap.size + 1; omega) _).setCell (by show _ ≤ w.heap.size + 1; omega) _
theorem with_arg (n i : Int) (A : Option Addr) (c : Nat) (ws : List Nat) (w : World) (hC : Cells w A (u64s ws)) (hw : Wd ws) (h : validB n ws = false) :
    Calls Tryd.prog 31 #[.agg #[.int .i64 n, .slice A ws.length c], .int .i64 i] w (Ret w (Zero 1)) := by
  have H1 := Lib.hid (fun w' (hx : Ex w w') => changed_with_arg n i A c ws w' (hC.ex hx) hw h)
  clear hC hw h
  generalize ws.length = m at *
  go_enter Tryd.func31, Tryd.ntmps31
  go_wp2_with fail
  refine (H1.out _ (by repeat (first | exact Ex.refl _ | apply Ex.ext | apply Ex.alloc))).mono ?_
  rintro e w' ⟨rfl, y, rfl⟩
  have hr := (Blk.new' (w.alloc (.cells #[.int .i64 n, .slice A m c] 24)) (g := w.heap.size + 1) (by simp) 24 [.int .i64 0, .slice none 0 0]).ex ⟨y, rfl⟩
  have hb := (hr.set_ 0 (.int .i64 0)).set_ 1 (.slice none 0 0)
  have f4 := hr.cell 0
  have f5 := hr.cell 1
  have f6 := hr.frozen 0
  have f7 := hr.frozen 1
  simp only [List.getElem?_cons_zero, List.getElem?_cons_succ] at f4 f5
  have c0 := Lib.hid (hb.cell 0)
  have c1 := Lib.hid (hb.cell 1)
  clear hr hb
  unfold Zero
  go_wp2
  have d0 := c0.out
  have d1 := c1.out
  refine bodyPost_ret (v := Zero 1) ?_ rfl ⟨rfl, ?_⟩
  · simp [results, Tryd.results31, go_sem, d0, d1, Zero]
  · exact ((((Ex.refl _).alloc _).alloc _).ext _ |>.setCell (by show _ ≤ w.heap.size + 1; omega) _).setCell (by show _ ≤ w.heap.size + 1; omega) _

set_option maxHeartbeats 800000 in
theorem changed_with_range (n i : Int) (A : Option Addr) (c : Nat) (ws : List Nat) (w : World) (hC : Cells w A (u64s ws)) (hw : Wd ws) (h : validB n ws = true) (hi : ¬ (0 ≤ i ∧ i < n)) :
    Calls Tryd.prog 58 #[.agg #[.int .i64 n, .slice A ws.length c], .int .i64 i, .func (.func 59) #[] #[]] w (Ret w (Zero 2)) := by
  have H1 := Lib.hid (fun w' (hx : Ex w w') => valid_c n A c ws w' (hC.ex hx) hw)
  rw [h] at H1; clear h
  have H2 := Lib.hid (fun w' => inside_c n i A ws.length c w')
  have hq : (decide ((0 : Int) ≤ i) && decide (i < n)) = false := by simp; omega
  rw [hq] at H2; clear hq hi
  clear hC hw
  generalize ws.length = m at *
  go_enter Tryd.func58, Tryd.ntmps58
  go_wp2_with fail
  refine (H1.out _ (by repeat (first | exact Ex.refl _ | apply Ex.ext | apply Ex.alloc))).mono ?_
  rintro e w' ⟨rfl, y, rfl⟩
  go_wp2_with fail
  refine (Calls.up (W := (w.alloc (.cells #[.int .i64 n, .slice A m c] 24)).alloc (.cells #[.int .i64 0, .slice none 0 0] 24)) ⟨_, rfl⟩ (H2.out _)).mono ?_
  rintro e w' ⟨rfl, y2, rfl⟩
  have hr := (Blk.new' (w.alloc (.cells #[.int .i64 n, .slice A m c] 24)) (g := w.heap.size + 1) (by simp) 24 [.int .i64 0, .slice none 0 0]).ex ⟨y2, rfl⟩
  have hb := (hr.set_ 0 (.int .i64 0)).set_ 1 (.slice none 0 0)
  have f4 := hr.cell 0
  have f5 := hr.cell 1
  have f6 := hr.frozen 0
  have f7 := hr.frozen 1
  simp only [List.getElem?_cons_zero, List.getElem?_cons_succ] at f4 f5
  have c0 := Lib.hid (hb.cell 0)
  have c1 := Lib.hid (hb.cell 1)
  clear hr hb
  go_wp2
  have d0 := c0.out
  have d1 := c1.out
  refine bodyPost_ret (v := Zero 2) ?_ rfl ⟨rfl, ?_⟩
  · simp [results, Tryd.results58, go_sem, d0, d1, Zero]
  · exact ((((Ex.refl _).alloc _).alloc _).ext _ |>.setCell (by show _ ≤ w.heap.size + 1; omega) _).setCell (by show _ ≤ w.heap.size + 1; omega) _
theorem with_range (n i : Int) (A : Option Addr) (c : Nat) (ws : List Nat) (w : World) (hC : Cells w A (u64s ws)) (hw : Wd ws) (h : validB n ws = true) (hi : ¬ (0 ≤ i ∧ i < n)) :
    Calls Tryd.prog 31 #[.agg #[.int .i64 n, .slice A ws.length c], .int .i64 i] w (Ret w (Zero 2)) := by
  have H1 := Lib.hid (fun w' (hx : Ex w w') => changed_with_range n i A c ws w' (hC.ex hx) hw h hi)
  clear hC hw h hi
  generalize ws.length = m at *
  go_enter Tryd.func31, Tryd.ntmps31
  go_wp2_with fail
  refine (H1.out _ (by repeat (first | exact Ex.refl _ | apply Ex.ext | apply Ex.alloc))).mono ?_
  rintro e w' ⟨rfl, y, rfl⟩
  have hr := (Blk.new' (w.alloc (.cells #[.int .i64 n, .slice A m c] 24)) (g := w.heap.size + 1) (by simp) 24 [.int .i64 0, .slice none 0 0]).ex ⟨y, rfl⟩
  have hb := (hr.set_ 0 (.int .i64 0)).set_ 1 (.slice none 0 0)
  have f4 := hr.cell 0
  have f5 := hr.cell 1
  have f6 := hr.frozen 0
  have f7 := hr.frozen 1
  simp only [List.getElem?_cons_zero, List.getElem?_cons_succ] at f4 f5
  have c0 := Lib.hid (hb.cell 0)
  have c1 := Lib.hid (hb.cell 1)
  clear hr hb
  unfold Zero
  go_wp2
  have d0 := c0.out
  have d1 := c1.out
  refine bodyPost_ret (v := Zero 2) ?_ rfl ⟨rfl, ?_⟩
  · simp [results, Tryd.results31, go_sem, d0, d1, Zero]
  · exact ((((Ex.refl _).alloc _).alloc _).ext _ |>.setCell (by show _ ≤ w.heap.size + 1; omega) _).setCell (by show _ ≤ w.heap.size + 1; omega) _

set_option maxHeartbeats 800000 in
theorem changed_without_arg (n i : Int) (A : Option Addr) (c : Nat) (ws : List Nat) (w : World) (hC : Cells w A (u64s ws)) (hw : Wd ws) (h : validB n ws = false) :
    Calls Tryd.prog 58 #[.agg #[.int .i64 n, .slice A ws.length c], .int .i64 i, .func (.func 60) #[] #[]] w (Ret w (Zero 1)) := by
  have H1 := Lib.hid (fun w' (hx : Ex w w') => valid_c n A c ws w' (hC.ex hx) hw)
  rw [h] at H1; clear h
  clear hC hw
  generalize ws.length = m at *
  go_enter Tryd.func58, Tryd.ntmps58
  go_wp2_with fail
  refine (H1.out _ (by repeat (first | exact Ex.refl _ | apply Ex.ext | apply Ex.alloc))).mono ?_
  rintro e w' ⟨rfl, y, rfl⟩
  have hr := (Blk.new' (w.alloc (.cells #[.int .i64 n, .slice A m c] 24)) (g := w.heap.size + 1) (by simp) 24 [.int .i64 0, .slice none 0 0]).ex ⟨y, rfl⟩
  have hb := (hr.set_ 0 (.int .i64 0)).set_ 1 (.slice none 0 0)
  have f4 := hr.cell 0
  have f5 := hr.cell 1
  have f6 := hr.frozen 0
  have f7 := hr.frozen 1
  simp only [List.getElem?_cons_zero, List.getElem?_cons_succ] at f4 f5
  have c0 := Lib.hid (hb.cell 0)
  have c1 := Lib.hid (hb.cell 1)
  clear hr hb
  go_wp2
  have d0 := c0.out
  have d1 := c1.out
  refine bodyPost_ret (v := Zero 1) ?_ rfl ⟨rfl, ?_⟩
  · simp [results, Tryd.results58, go_sem, d0, d1, Zero]
  · exact ((((Ex.refl _).alloc _).alloc _).ext _ |>.setCell (by show _ ≤ w.heap.size + 1; omega) _).setCell (by show _ ≤ w.heap.size + 1; omega) _
theorem without_arg (n i : Int) (A : Option Addr) (c : Nat) (ws : List Nat) (w : World) (hC : Cells w A (u64s ws)) (hw : Wd ws) (h : validB n ws = false) :
    Calls Tryd.prog 32 #[.agg #[.int .i64 n, .slice A ws.length c], .int .i64 i] w (Ret w (Zero 1)) := by
  have H1 := Lib.hid (fun w' (hx : Ex w w') => changed_without_arg n i A c ws w' (hC.ex hx) hw h)
  clear hC hw h
  generalize ws.length = m at *
  go_enter Tryd.func32, Tryd.ntmps32
  go_wp2_with fail
  refine (H1.out _ (by repeat (first | exact Ex.refl _ | apply Ex.ext | apply Ex.alloc))).mono ?_
  rintro e w' ⟨rfl, y, rfl⟩
  have hr := (Blk.new' (w.alloc (.cells #[.int .i64 n, .slice A m c] 24)) (g := w.heap.size + 1) (by simp) 24 [.int .i64 0, .slice none 0 0]).ex ⟨y, rfl⟩
  have hb := (hr.set_ 0 (.int .i64 0)).set_ 1 (.slice none 0 0)
  have f4 := hr.cell 0
  have f5 := hr.cell 1
  have f6 := hr.frozen 0
  have f7 := hr.frozen 1
  simp only [List.getElem?_cons_zero, List.getElem?_cons_succ] at f4 f5
  have c0 := Lib.hid (hb.cell 0)
  have c1 := Lib.hid (hb.cell 1)
  clear hr hb
  unfold Zero
  go_wp2
  have d0 := c0.out
  have d1 := c1.out
  refine bodyPost_ret (v := Zero 1) ?_ rfl ⟨rfl, ?_⟩
  · simp [results, Tryd.results32, go_sem, d0, d1, Zero]
  · exact ((((Ex.refl _).alloc _).alloc _).ext _ |>.setCell (by show _ ≤ w.heap.size + 1; omega) _).setCell (by show _ ≤ w.heap.size + 1; omega) _

set_option maxHeartbeats 800000 in
theorem changed_without_range (n i : Int) (A : Option Addr) (c : Nat) (ws : List Nat) (w : World) (hC : Cells w A (u64s ws)) (hw : Wd ws) (h : validB n ws = true) (hi : ¬ (0 ≤ i ∧ i < n)) :
    Calls Tryd.prog 58 #[.agg #[.int .i64 n, .slice A ws.length c], .int .i64 i, .func (.func 60) #[] #[]] w (Ret w (Zero 2)) := by
  have H1 := Lib.hid (fun w' (hx : Ex w w') => valid_c n A c ws w' (hC.ex hx) hw)
  rw [h] at H1; clear h
  have H2 := Lib.hid (fun w' => inside_c n i A ws.length c w')
  have hq : (decide ((0 : Int) ≤ i) && decide (i < n)) = false := by simp; omega
  rw [hq] at H2; clear hq hi
  clear hC hw
  generalize ws.length = m at *
  go_enter Tryd.func58, Tryd.ntmps58
  go_wp2_with fail
  refine (H1.out _ (by repeat (first | exact Ex.refl _ | apply Ex.ext | apply Ex.alloc))).mono ?_
  rintro e w' ⟨rfl, y, rfl⟩
  go_wp2_with fail
  refine (Calls.up (W := (w.alloc (.cells #[.int .i64 n, .slice A m c] 24)).alloc (.cells #[.int .i64 0, .slice none 0 0] 24)) ⟨_, rfl⟩ (H2.out _)).mono ?_
  rintro e w' ⟨rfl, y2, rfl⟩
  have hr := (Blk.new' (w.alloc (.cells #[.int .i64 n, .slice A m c] 24)) (g := w.heap.size + 1) (by simp) 24 [.int .i64 0, .slice none 0 0]).ex ⟨y2, rfl⟩
  have hb := (hr.set_ 0 (.int .i64 0)).set_ 1 (.slice none 0 0)
  have f4 := hr.cell 0
  have f5 := hr.cell 1
  have f6 := hr.frozen 0
  have f7 := hr.frozen 1
  simp only [List.getElem?_cons_zero, List.getElem?_cons_succ] at f4 f5
  have c0 := Lib.hid (hb.cell 0)
  have c1 := Lib.hid (hb.cell 1)
  clear hr hb
  go_wp2
  have d0 := c0.out
  have d1 := c1.out
  refine bodyPost_ret (v := Zero 2) ?_ rfl ⟨rfl, ?_⟩
  · simp [results, Tryd.results58, go_sem, d0, d1, Zero]
  · exact ((((Ex.refl _).alloc _).alloc _).ext _ |>.setCell (by show _ ≤ w.heap.size + 1; omega) _).setCell (by show _ ≤ w.heap.size + 1; omega) _
theorem without_range (n i : Int) (A : Option Addr) (c : Nat) (ws : List Nat) (w : World) (hC : Cells w A (u64s ws)) (hw : Wd ws) (h : validB n ws = true) (hi : ¬ (0 ≤ i ∧ i < n)) :
    Calls Tryd.prog 32 #[.agg #[.int .i64 n, .slice A ws.length c], .int .i64 i] w (Ret w (Zero 2)) := by
  have H1 := Lib.hid (fun w' (hx : Ex w w') => changed_without_range n i A c ws w' (hC.ex hx) hw h hi)
  clear hC hw h hi
  generalize ws.length = m at *
  go_enter Tryd.func32, Tryd.ntmps32
  go_wp2_with fail
  refine (H1.out _ (by repeat (first | exact Ex.refl _ | apply Ex.ext | apply Ex.alloc))).mono ?_
  rintro e w' ⟨rfl, y, rfl⟩
  have hr := (Blk.new' (w.alloc (.cells #[.int .i64 n, .slice A m c] 24)) (g := w.heap.size + 1) (by simp) 24 [.int .i64 0, .slice none 0 0]).ex ⟨y, rfl⟩
  have hb := (hr.set_ 0 (.int .i64 0)).set_ 1 (.slice none 0 0)
  have f4 := hr.cell 0
  have f5 := hr.cell 1
  have f6 := hr.frozen 0
  have f7 := hr.frozen 1
  simp only [List.getElem?_cons_zero, List.getElem?_cons_succ] at f4 f5
  have c0 := Lib.hid (hb.cell 0)
  have c1 := Lib.hid (hb.cell 1)
  clear hr hb
  unfold Zero
  go_wp2
  have d0 := c0.out
  have d1 := c1.out
  refine bodyPost_ret (v := Zero 2) ?_ rfl ⟨rfl, ?_⟩
  · simp [results, Tryd.results32, go_sem, d0, d1, Zero]
  · exact ((((Ex.refl _).alloc _).alloc _).ext _ |>.setCell (by show _ ≤ w.heap.size + 1; omega) _).setCell (by show _ ≤ w.heap.size + 1; omega) _
end Go.Proofs.YtfinldppcdkeoaaDoor
