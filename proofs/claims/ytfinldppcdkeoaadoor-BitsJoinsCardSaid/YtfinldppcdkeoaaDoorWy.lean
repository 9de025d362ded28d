/-
  The reference's union.
  Conditions: valid sets of one size, words below 2^64.
-/
import Derived.Test.YtfinldppcdkeoaaDoorWv
namespace Go.Proofs.YtfinldppcdkeoaaDoor
open Go.RowKit Bm
theorem Calls.cast {P : Program} {f : FuncId} {args args' : Array Value} {W : World} {Q : Ending → World → Prop} (h : args' = args) (k : Calls P f args W Q) : Calls P f args' W Q := h ▸ k
set_option maxHeartbeats 3200000 in
theorem rUnion_c (n : Nat) (A B : Option Addr) (c d : Nat) (ws us : List Nat) (w : World) (hC : Cells w A (u64s ws)) (hD : Cells w B (u64s us)) (hw : Wd ws) (hu : Wd us) (hv : Valid n ws) (hvu : Valid n us) :
    Calls Tryd.prog 40 #[.agg #[.int .i64 n, .slice A ws.length c], .agg #[.int .i64 n, .slice B us.length d]] w (NewSet w n (ofL n (mems n ws ++ mems n us))) := by
  have hl1 : ∀ x ∈ mems n ws ++ mems n us, x < n := fun x hx => by
    rw [List.mem_append] at hx
    rcases hx with hx | hx <;> exact mems_lt x hx
  have hml := mems_le n ws
  have hml2 := mems_le n us
  have hnle := hv.le
  have H23a := Lib.hid (fun w' (hx : Ex w w') => rMembers_c n A c ws w' (hC.ex hx) hw hv)
  have H23b := Lib.hid (fun w' (hx : Ex w w') => (rMembers_c n B d us w' (hD.ex hx) hu hvu).mono fun _ _ => RetOwn.listR)
  have HL : Hid ((mems n ws ++ mems n us).length = (mems n ws).length + (mems n us).length) := by show _ = _; simp
  have H19 := Lib.hid (fun w' A c (hC : Cells w' A (natsV (mems n ws ++ mems n us))) => rOf_c n (mems n ws ++ mems n us) A c w' hnle hl1 hC (by rw [HL.out]; omega))
  rw [HL.out] at H19
  have HN : Hid (natsV (mems n ws ++ mems n us) = natsV (mems n ws) ++ natsV (mems n us)) := natsV_append _ _
  rw [HN.out] at H19
  have hnl := natsV_length (mems n ws)
  clear hC hD hw hu hv hvu hl1 HN HL
  generalize ofL n (mems n ws ++ mems n us) = rs at *
  generalize natsV (mems n ws) = xs at *
  generalize (mems n ws).length = q at *
  subst hnl
  generalize mems n us = lb at *
  generalize ws.length = m at *
  generalize us.length = m2 at *
  have hE2 : Ex w (((w.alloc (.cells #[.int .i64 n, .slice A m c] 24)).alloc (.cells #[.int .i64 n, .slice B m2 d] 24)).alloc (.cells #[.int .i64 0, .slice none 0 0] 24)) := (((Ex.refl w).alloc _).alloc _).alloc _
  have hr := Blk.new' ((w.alloc (.cells #[.int .i64 n, .slice A m c] 24)).alloc (.cells #[.int .i64 n, .slice B m2 d] 24)) (g := w.heap.size + 1 + 1) (by simp) 24 [.int .i64 0, .slice none 0 0]
  have le3 : w.heap.size + 1 + 1 + 1 ≤ (((w.alloc (.cells #[.int .i64 n, .slice A m c] 24)).alloc (.cells #[.int .i64 n, .slice B m2 d] 24)).alloc (.cells #[.int .i64 0, .slice none 0 0] 24)).heap.size := by simp
  have hS := (((Blk.new w 24 [.int .i64 n, .slice A m c]).alloc (.cells #[.int .i64 n, .slice B m2 d] 24)).alloc (.cells #[.int .i64 0, .slice none 0 0] 24))
  have hS2 := ((Blk.new' (w.alloc (.cells #[.int .i64 n, .slice A m c] 24)) (g := w.heap.size + 1) (by simp) 24 [.int .i64 n, .slice B m2 d]).alloc (.cells #[.int .i64 0, .slice none 0 0] 24))
  have KS : Hid (∀ w', Ex (((w.alloc (.cells #[.int .i64 n, .slice A m c] 24)).alloc (.cells #[.int .i64 n, .slice B m2 d] 24)).alloc (.cells #[.int .i64 0, .slice none 0 0] 24)) w' → (fun (w' : World) => w'.cell? ⟨w.heap.size, 0, none⟩ = some (.int .i64 n) ∧ w'.cell? ⟨w.heap.size, 1, none⟩ = some (.slice A m c) ∧ w'.cell? ⟨w.heap.size + 1, 0, none⟩ = some (.int .i64 n) ∧ w'.cell? ⟨w.heap.size + 1, 1, none⟩ = some (.slice B m2 d)) w') := fun w' hx => ⟨(hS.ex hx).cell 0, (hS.ex hx).cell 1, (hS2.ex hx).cell 0, (hS2.ex hx).cell 1⟩
  clear hS hS2
  have ne1 : w.heap.size ≠ w.heap.size + 1 + 1 := by omega
  have ne2 : w.heap.size + 1 + 1 ≠ w.heap.size := by omega
  go_enter Tryd.func40, Tryd.ntmps40
  go_wp2
  go_region_held3 (fun (w' : World) => w'.cell? ⟨w.heap.size, 0, none⟩ = some (.int .i64 n) ∧ w'.cell? ⟨w.heap.size, 1, none⟩ = some (.slice A m c) ∧ w'.cell? ⟨w.heap.size + 1, 0, none⟩ = some (.int .i64 n) ∧ w'.cell? ⟨w.heap.size + 1, 1, none⟩ = some (.slice B m2 d))
    (first | exact KS.out _ hE9 | exact KS.out _ hE6 | exact KS.out _ hEb | exact KS.out _ hEa | exact KS.out _ (Ex.refl _).drew | exact KS.out _ (Ex.refl _) | go_keep)
    (first | (go_at_call 23; refine Calls.cast (args := #[.agg #[.int .i64 n, .slice A m c]]) (by with_reducible rfl) ?_; refine (H23a.out _ (by first | exact hE2.trans hEb | exact hE2.trans hEa | exact hE2.drew | exact hE2)).mono ?_; rintro ea wa ⟨va, rfl, hoa, hxa⟩; have hEa : Ex (((w.alloc (.cells #[.int .i64 n, .slice A m c] 24)).alloc (.cells #[.int .i64 n, .slice B m2 d] 24)).alloc (.cells #[.int .i64 0, .slice none 0 0] 24)) wa := (by first | exact Ex.trans hEb hxa | exact Ex.trans (Ex.refl _).drew hxa | exact hxa); have hoa' := own_base (base' := w.heap.size + 1 + 1 + 1) hoa (by first | exact Nat.le_trans le3 hEb.below.size | exact le3)) | (go_at_call 23; refine Calls.cast (args := #[.agg #[.int .i64 n, .slice B m2 d]]) (by with_reducible rfl) ?_; refine (H23b.out _ (by first | exact hE2.trans hEb | exact hE2.trans hEa | exact hE2.drew | exact hE2)).mono ?_; rintro eb wb ⟨Ab, cb, rfl, hCb, hxb⟩; have hEb : Ex (((w.alloc (.cells #[.int .i64 n, .slice A m c] 24)).alloc (.cells #[.int .i64 n, .slice B m2 d] 24)).alloc (.cells #[.int .i64 0, .slice none 0 0] 24)) wb := (by first | exact Ex.trans hEa hxb | exact Ex.trans (Ex.refl _).drew hxb | exact hxb)) | (go_at_call 19; refine (H19.out _ _ _ hC7).mono ?_; rintro e w9 ⟨g, rfl, hg, hB, hx⟩; have hE9 := hE6.trans hx; obtain ⟨k0, k1, k2, k3⟩ := KS.out _ hE9; have HR := Lib.hid (hr.ex hE9); have HBB := Lib.hid hB; have HE := Lib.hid (hE2.trans hE9); have hg2 : w.heap.size ≤ g := Nat.le_trans (hE2.trans hE6).below.size hg; have f4 := (hr.ex hE9).cell 0; have f5 := (hr.ex hE9).cell 1; have f6 : w9.frozen? ⟨w.heap.size + 1 + 1, 0, none⟩ = false := (hr.ex hE9).frozen _; have f7 : w9.frozen? ⟨w.heap.size + 1 + 1, 1, none⟩ = false := (hr.ex hE9).frozen _; simp only [List.getElem?_cons_zero, List.getElem?_cons_succ] at f4 f5; clear hx hg hB) | (have z1 : w.heap.size + 1 + 1 + 1 ≤ wb.heap.size := Nat.le_trans le3 hEb.below.size; have z2 : xs.length + lb.length ≤ 1000000 := (by omega); have z3 := append_ints wb (w.heap.size + 1 + 1 + 1) va xs (own_ex hoa' hxb) Ab cb lb hCb z1 z2; obtain ⟨v6, w6, hr6, ho6, hg6⟩ := z3; obtain ⟨A7, c7, rfl, hC7, -⟩ := own_cells ho6; have hE6 : Ex (((w.alloc (.cells #[.int .i64 n, .slice A m c] 24)).alloc (.cells #[.int .i64 n, .slice B m2 d] 24)).alloc (.cells #[.int .i64 0, .slice none 0 0] 24)) w6 := ex_own hEb (own_ex hoa' hxb) (by simp) hg6; refine step_run (by rfl) _ _ 25 (by rfl) _ _ (by rfl) (by rfl) _ w6 hr6 ?_) | (have z1 : w.heap.size + 1 + 1 + 1 ≤ wa.heap.size := Nat.le_trans le3 hEa.below.size; have z2 : xs.length + lb.length ≤ 1000000 := (by omega); have z3 := append_ints wa (w.heap.size + 1 + 1 + 1) va xs hoa' Ab cb lb (hCb.ex hxa) z1 z2; obtain ⟨v6, w6, hr6, ho6, hg6⟩ := z3; obtain ⟨A7, c7, rfl, hC7, -⟩ := own_cells ho6; have hE6 : Ex (((w.alloc (.cells #[.int .i64 n, .slice A m c] 24)).alloc (.cells #[.int .i64 n, .slice B m2 d] 24)).alloc (.cells #[.int .i64 0, .slice none 0 0] 24)) w6 := ex_own hEa hoa' (by simp) hg6; refine step_run (by rfl) _ _ 25 (by rfl) _ _ (by rfl) (by rfl) _ w6 hr6 ?_))
  all_goals go_wp2
  all_goals
    have hb := (HR.out.set_ 0 (.int .i64 n)).set_ 1 (.slice (some ⟨g, 0, none⟩) rs.length rs.length)
    have c0 := hb.cell 0
    have c1 := hb.cell 1
    have n2 : g ≠ w.heap.size + 1 + 1 := HBB.out.ne HR.out (by decide)
    refine bodyPost_ret (v := .agg #[.int .i64 n, .slice (some ⟨g, 0, none⟩) rs.length rs.length]) ?_ rfl ⟨g, rfl, hg2, ?_, ?_⟩
    · simp [results, Tryd.results40, go_sem, c0, c1]
    · exact (HBB.out.far n2 _).far n2 _
    · exact (HE.out.setCell (by show _ ≤ w.heap.size + 1 + 1; omega) _).setCell (by show _ ≤ w.heap.size + 1 + 1; omega) _
end Go.Proofs.YtfinldppcdkeoaaDoor
