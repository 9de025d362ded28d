/-
  A set's copy, the changed sets, the combined sets.
  Conditions: words below 2^64, at most 20 words.
-/
import Derived.Test.YtfinldppcdkeoaaDoorWi
namespace Go.Proofs.YtfinldppcdkeoaaDoor
open Go.RowKit Bm
theorem size54 : (Tryd.prog.info? 54).map (·.size) = some 1 := by kernel_rfl
theorem u64s_length (ws : List Nat) : (u64s ws).length = ws.length := by simp [u64s]
theorem copy_eq (W : World) (g : Nat) (A : Option Addr) (c : Nat) (ws : List Nat) (hB : Blk W g 54 (u64s (List.replicate ws.length 0))) (hC : Cells W A (u64s ws)) :
    ∃ W', (Builtin.copy_ #[22, 22] 3 #[.slice (some ⟨g, 0, none⟩) ws.length ws.length, .slice A ws.length c]).run Tryd.prog W = .ok (goInt ws.length) W' ∧ Blk W' g 54 (u64s ws) ∧ W.grownBy W' (some g) := by
  by_cases h0 : ws.length = 0
  · have hw : ws = [] := List.eq_nil_of_length_eq_zero h0
    subst hw
    exact ⟨W, run_copy_none W 22 22 3 54 _ _ _ _ _ _ Tryd.underlying22 size54 rfl, hB, ⟨rfl, rfl, rfl, Nat.le_refl _, fun _ _ _ => rfl⟩⟩
  · obtain ⟨ad, rfl, -, -⟩ := u64s_at hC 0 (by omega)
    have hsrc : ∀ j v, (u64s ws)[j]? = some v → W.cell? (ad.add j) = some v := fun j v hj => by
      obtain ⟨ad', e, -, h⟩ := hC j v hj
      injection e with e; subst e; exact h
    have h := run_copy_row (P := Tryd.prog) W 22 22 3 54 g 0 ws.length ws.length ad ws.length c (u64s (List.replicate ws.length 0)).toArray 54 (u64s ws) Tryd.underlying22 size54 hB
      (by rw [u64s_length]; exact (Nat.min_self _).symm) hsrc (by simp [u64s_length]) (fun v hv => by unfold u64s at hv; rw [List.mem_map] at hv; obtain ⟨x, -, rfl⟩ := hv; rfl)
    rw [u64s_length] at h
    refine ⟨_, h, ?_, ⟨rfl, rfl, rfl, by simp [World.setRow], fun k _ hk => setRow_other W g k _ (fun e => hk (by rw [e]))⟩⟩
    have h2 := setRow_heap W g (u64s (List.replicate ws.length 0)).toArray ((u64s (List.replicate ws.length 0)).toArray.toList.take 0 ++ u64s ws ++ (u64s (List.replicate ws.length 0)).toArray.toList.drop (0 + ws.length)).toArray 54 (0, 0) hB
    have e : ((u64s (List.replicate ws.length 0)).toArray.toList.take 0 ++ u64s ws ++ (u64s (List.replicate ws.length 0)).toArray.toList.drop (0 + ws.length)) = u64s ws := by
      have hd : (u64s (List.replicate ws.length 0)).drop ws.length = [] := List.drop_eq_nil_of_le (by simp [u64s_length])
      simp [hd]
    exact h2.trans (by rw [e])
theorem Blk.grown {W W' : World} {g b t : Nat} {cs : List Value} (h : Blk W b t cs) (hg : W.grownBy W' (some g)) (hne : b ≠ g) : Blk W' b t cs :=
  (hg.block b h.lt (by intro e; injection e with e; exact hne e)).trans h
set_option maxHeartbeats 800000 in
theorem copied_c (n : Int) (A : Option Addr) (c : Nat) (ws : List Nat) (w : World) (hC : Cells w A (u64s ws)) (hm : ws.length ≤ 20) :
    Calls Tryd.prog 70 #[.agg #[.int .i64 n, .slice A ws.length c]] w (NewSet w n ws) := by
  have hmk := mk_u64 (ws.length : Int) ws.length rfl (by omega)
  have hz : (u64s (List.replicate ws.length 0)).toArray = zrow ws.length := rfl
  -- the row first
  have hb0 := Blk.new' ((w.alloc (.cells #[.int .i64 n, .slice A ws.length c] 24)).alloc (.cells #[.int .i64 0, .slice none 0 0] 24)) (g := w.heap.size + 1 + 1) (by simp) 54 (u64s (List.replicate ws.length 0))
  rw [hz] at hb0
  have hb1 := (hb0.alloc (.cells #[.int .i64 n, .slice (some ⟨w.heap.size + 1 + 1, 0, none⟩) ws.length ws.length] 24)).drew
  have ho1 := (Blk.new' (((w.alloc (.cells #[.int .i64 n, .slice A ws.length c] 24)).alloc (.cells #[.int .i64 0, .slice none 0 0] 24)).alloc (.cells (zrow ws.length) 54)) (g := w.heap.size + 1 + 1 + 1) (by simp) 24 [.int .i64 n, .slice (some ⟨w.heap.size + 1 + 1, 0, none⟩) ws.length ws.length]).drew
  have hr1 := (((Blk.new' (w.alloc (.cells #[.int .i64 n, .slice A ws.length c] 24)) (g := w.heap.size + 1) (by simp) 24 [.int .i64 0, .slice none 0 0]).alloc (.cells (zrow ws.length) 54)).alloc (.cells #[.int .i64 n, .slice (some ⟨w.heap.size + 1 + 1, 0, none⟩) ws.length ws.length] 24)).drew
  have hs1 := ((Blk.new w 24 [.int .i64 n, .slice A ws.length c]).alloc (.cells #[.int .i64 0, .slice none 0 0] 24)).alloc (.cells (zrow ws.length) 54) |>.alloc (.cells #[.int .i64 n, .slice (some ⟨w.heap.size + 1 + 1, 0, none⟩) ws.length ws.length] 24) |>.drew
  obtain ⟨W1, hc1, hB1, hG1⟩ := copy_eq _ _ A c ws hb1 (hC.ex (((((Ex.refl w).alloc _).alloc _).alloc _).alloc _).drew)
  have hE1 : Ex w W1 := ((((((Ex.refl w).alloc _).alloc _).alloc _).alloc _).drew).grown hG1 (fun k hk => by injection hk with hk; omega)
  have hO1 := ho1.grown hG1 (by omega)
  have hR1 := hr1.grown hG1 (by omega)
  -- the box first
  have hb0' := Blk.new' (((w.alloc (.cells #[.int .i64 n, .slice A ws.length c] 24)).alloc (.cells #[.int .i64 0, .slice none 0 0] 24)).alloc (.cells #[.int .i64 n, .slice (some ⟨w.heap.size + 1 + 1 + 1, 0, none⟩) ws.length ws.length] 24)) (g := w.heap.size + 1 + 1 + 1) (by simp) 54 (u64s (List.replicate ws.length 0))
  rw [hz] at hb0'
  have hb2 := hb0'.drew
  have ho2 := ((Blk.new' ((w.alloc (.cells #[.int .i64 n, .slice A ws.length c] 24)).alloc (.cells #[.int .i64 0, .slice none 0 0] 24)) (g := w.heap.size + 1 + 1) (by simp) 24 [.int .i64 n, .slice (some ⟨w.heap.size + 1 + 1 + 1, 0, none⟩) ws.length ws.length]).alloc (.cells (zrow ws.length) 54)).drew
  have hr2 := (((Blk.new' (w.alloc (.cells #[.int .i64 n, .slice A ws.length c] 24)) (g := w.heap.size + 1) (by simp) 24 [.int .i64 0, .slice none 0 0]).alloc (.cells #[.int .i64 n, .slice (some ⟨w.heap.size + 1 + 1 + 1, 0, none⟩) ws.length ws.length] 24)).alloc (.cells (zrow ws.length) 54)).drew
  obtain ⟨W2, hc2, hB2, hG2⟩ := copy_eq _ _ A c ws hb2 (hC.ex (((((Ex.refl w).alloc _).alloc _).alloc _).alloc _).drew)
  have hE2 : Ex w W2 := ((((((Ex.refl w).alloc _).alloc _).alloc _).alloc _).drew).grown hG2 (fun k hk => by injection hk with hk; omega)
  have hO2 := ho2.grown hG2 (by omega)
  have hR2 := hr2.grown hG2 (by omega)
  have X1 : Hid (Blk W1 (w.heap.size + 1 + 1) 54 (u64s ws) ∧ Ex w W1 ∧ Blk W1 (w.heap.size + 1) 24 [.int .i64 0, .slice none 0 0]) := ⟨hB1, hE1, hR1⟩
  have X2 : Hid (Blk W2 (w.heap.size + 1 + 1 + 1) 54 (u64s ws) ∧ Ex w W2 ∧ Blk W2 (w.heap.size + 1) 24 [.int .i64 0, .slice none 0 0]) := ⟨hB2, hE2, hR2⟩
  have a0 : W1.cell? ⟨w.heap.size + 1 + 1 + 1, 0, none⟩ = some (.int .i64 n) := hO1.cell 0
  have a1 : W1.cell? ⟨w.heap.size + 1 + 1 + 1, 1, none⟩ = some (.slice (some ⟨w.heap.size + 1 + 1, 0, none⟩) ws.length ws.length) := hO1.cell 1
  have a2 : W1.cell? ⟨w.heap.size + 1, 0, none⟩ = some (.int .i64 0) := hR1.cell 0
  have a3 : W1.cell? ⟨w.heap.size + 1, 1, none⟩ = some (.slice none 0 0) := hR1.cell 1
  have a4 : W1.frozen? ⟨w.heap.size + 1, 0, none⟩ = false := hR1.frozen _
  have a5 : W1.frozen? ⟨w.heap.size + 1, 1, none⟩ = false := hR1.frozen _
  have b0 : W2.cell? ⟨w.heap.size + 1 + 1, 0, none⟩ = some (.int .i64 n) := hO2.cell 0
  have b1 : W2.cell? ⟨w.heap.size + 1 + 1, 1, none⟩ = some (.slice (some ⟨w.heap.size + 1 + 1 + 1, 0, none⟩) ws.length ws.length) := hO2.cell 1
  have b2 : W2.cell? ⟨w.heap.size + 1, 0, none⟩ = some (.int .i64 0) := hR2.cell 0
  have b3 : W2.cell? ⟨w.heap.size + 1, 1, none⟩ = some (.slice none 0 0) := hR2.cell 1
  have b4 : W2.frozen? ⟨w.heap.size + 1, 0, none⟩ = false := hR2.frozen _
  have b5 : W2.frozen? ⟨w.heap.size + 1, 1, none⟩ = false := hR2.frozen _
  clear hb0 hb1 ho1 hr1 hs1 hb0' hb2 ho2 hr2 hB1 hE1 hO1 hR1 hB2 hE2 hO2 hR2 hG1 hG2 hz hC
  generalize hL : ws.length = m at *
  have HM := Lib.hid hL; clear hL
  go_enter Tryd.func70, Tryd.ntmps70
  go_wp2
  go_region
  all_goals go_wp2
  · have hb := (X1.out.2.2.set_ 0 (.int .i64 n)).set_ 1 (.slice (some ⟨w.heap.size + 1 + 1, 0, none⟩) m m)
    have c0 := hb.cell 0
    have c1 := hb.cell 1
    refine bodyPost_ret (v := .agg #[.int .i64 n, .slice (some ⟨w.heap.size + 1 + 1, 0, none⟩) m m]) ?_ rfl ⟨w.heap.size + 1 + 1, ?_, by omega, ?_, ?_⟩
    · simp [results, Tryd.results70, go_sem, c0, c1]
    · rw [HM.out]
    · exact (X1.out.1.far (by show _ ≠ w.heap.size + 1; omega) _).far (by show _ ≠ w.heap.size + 1; omega) _
    · exact (X1.out.2.1.setCell (by show _ ≤ w.heap.size + 1; omega) _).setCell (by show _ ≤ w.heap.size + 1; omega) _
  · have hb := (X2.out.2.2.set_ 0 (.int .i64 n)).set_ 1 (.slice (some ⟨w.heap.size + 1 + 1 + 1, 0, none⟩) m m)
    have c0 := hb.cell 0
    have c1 := hb.cell 1
    refine bodyPost_ret (v := .agg #[.int .i64 n, .slice (some ⟨w.heap.size + 1 + 1 + 1, 0, none⟩) m m]) ?_ rfl ⟨w.heap.size + 1 + 1 + 1, ?_, by omega, ?_, ?_⟩
    · simp [results, Tryd.results70, go_sem, c0, c1]
    · rw [HM.out]
    · exact (X2.out.1.far (by show _ ≠ w.heap.size + 1; omega) _).far (by show _ ≠ w.heap.size + 1; omega) _
    · exact (X2.out.2.1.setCell (by show _ ≤ w.heap.size + 1; omega) _).setCell (by show _ ≤ w.heap.size + 1; omega) _
end Go.Proofs.YtfinldppcdkeoaaDoor
