/-
  The reference's union and the sets with one number more or less.
  Conditions: valid sets of one size, words below 2^64.
-/
import Derived.Test.YtfinldppcdkeoaaDoorWq
import Derived.Deep.RegionHeld3
namespace Go.Proofs.YtfinldppcdkeoaaDoor
open Go.RowKit Bm
/-- an append at a step of a region that draws its order, by its run -/
theorem step_run {ops : Array Oper} {o : Oper} {a : Act} {K : Act → World → Prop} {Q : Exit → Act → World → Prop} {E : Prop} {w : World} (hgd : o.guard = none) (s x : Operand) (t : TypeId)
    (ho : o.op = .call { callee := .builtin .append, args := #[s, x], argTypes := #[t, t] }) (v y : Value) (hs : a.eval s = v) (hx : a.eval x = y) (v' : Value) (w' : World)
    (hr : (Builtin.append_ #[t, t] o.type #[v, y]).run Tryd.prog w = .ok v' w') (h : K (a.put o.dst v') w') :
    if Region.wanted o (yielded ops a.tmps) = true then Oper.wp Tryd.prog o a w K Q else E := by
  have hw : Region.wanted o (yielded ops a.tmps) = true := by simp [Region.wanted, hgd]
  rw [if_pos hw]
  unfold Oper.wp execOp
  simp only [ho, resolve, invoke, builtin, Sem.run_bind, Sem.run_pure, Result.andThen_ok, List.map_toArray, List.map_cons, List.map_nil, hs, hx, hr]
  exact h
/-- what append does with two lists of numbers -/
theorem append_ints (w : World) (base : Nat) (v : Value) (xs : List Value) (hown : w.ownsRow base 3 1 v xs.length xs) (A : Option Addr) (c : Nat) (l : List Nat) (hC : Cells w A (natsV l)) (hb : base ≤ w.heap.size) (hlen : xs.length + l.length ≤ 1000000) :
    ∃ v' w', (Builtin.append_ #[25, 25] 25 #[v, .slice A l.length c]).run Tryd.prog w = .ok v' w' ∧ w'.ownsRow base 3 1 v' (xs.length + l.length) (xs ++ natsV l) ∧ w.grownBy w' v.ownBlock := by
  obtain ⟨i0, hi, hz0, hz1, hz2⟩ := info_parts info3
  cases A with
  | some ad =>
    have hnews : ∀ j u, (natsV l)[j]? = some u → w.cell? (ad.add j) = some u := fun j u hu => by
      obtain ⟨ad', e, -, hc⟩ := hC j u hu
      injection e with e; subst e; exact hc
    obtain ⟨v', w', hr, h2, h3, -, -⟩ := run_append_own_at (P := Tryd.prog) w base 25 25 3 i0 (.int .i64 0) 1 8 Tryd.underlying25 hi hz0 hz1 hz2 rfl (by decide) v xs.length xs hown ad l.length c (natsV l)
      (by rw [natsV_length, Nat.mul_one]) hnews (fun u hu => by unfold natsV at hu; rw [List.mem_map] at hu; obtain ⟨x, -, rfl⟩ := hu; rfl) (by unfold maxLen; omega) (by omega) hb
    exact ⟨v', w', hr, h2, h3⟩
  | none =>
    have hl : l = [] := by
      cases l with
      | nil => rfl
      | cons x l =>
        obtain ⟨ad', e, -, -⟩ := hC 0 (.int .i64 (x : Int)) rfl
        cases e
    subst hl
    refine ⟨v, w, ?_, by simpa [natsV] using hown, ⟨rfl, rfl, rfl, Nat.le_refl _, fun _ _ _ => rfl⟩⟩
    have hfc : (Builtin.firstCells i0.size 0 (.slice none 0 c)).run Tryd.prog w = .ok #[] w := rfl
    rcases hown.2 with ⟨rfl, h0⟩ | ⟨g, cap, cur, rfl, hbg, hg, rest⟩
    · simp [Builtin.append_, run_underlying Tryd.underlying25, sizeOf, typeInfo, hi, Builtin.lenOf, hfc]
    · have hst : (storeCells ((⟨g, 0, none⟩ : Addr).add (xs.length * i0.size)) []).run Tryd.prog w = .ok () w := rfl
      simp [Builtin.append_, run_underlying Tryd.underlying25, sizeOf, typeInfo, hi, Builtin.lenOf, rest.1, hfc, hst]

set_option maxHeartbeats 3200000 in
theorem rWithout_c (n i : Nat) (A : Option Addr) (c : Nat) (ws : List Nat) (w : World) (hC : Cells w A (u64s ws)) (hw : Wd ws) (hv : Valid n ws) (hi : i < n) :
    Calls Tryd.prog 36 #[.agg #[.int .i64 n, .slice A ws.length c], .int .i64 i] w (NewSet w n (ofL n (two n ws (ofL n [i]) false))) := by
  have hl1 : ∀ x ∈ [i], x < n := fun x hx => by rw [List.mem_singleton] at hx; omega
  have H19 := Lib.hid (fun w' g (hB : Blk w' g 3 [.int .i64 i]) => rOf_c n [i] (some ⟨g, 0, none⟩) 1 w' hv.le hl1 hB.cells (by simp))
  have H42 := Lib.hid (fun w' g (hx : Ex w w') (hB : Blk w' g 54 (u64s (ofL n [i]))) => rMinus_c n A (some ⟨g, 0, none⟩) c (ofL n [i]).length ws (ofL n [i]) w' (hC.ex hx) hB.cells hw (wd_ofL _ _) hv (valid_ofL hv.le hl1))
  clear hC hw hv hl1
  generalize ofL n (two n ws (ofL n [i]) false) = rs at *
  generalize ofL n [i] = us at *
  generalize ws.length = m at *
  have hE2 : Ex w ((w.alloc (.cells #[.int .i64 n, .slice A m c] 24)).alloc (.cells #[.int .i64 0, .slice none 0 0] 24)) := ((Ex.refl w).alloc _).alloc _
  have hr := Blk.new' (w.alloc (.cells #[.int .i64 n, .slice A m c] 24)) (g := w.heap.size + 1) (by simp) 24 [.int .i64 0, .slice none 0 0]
  have le2 : w.heap.size + 1 + 1 ≤ ((w.alloc (.cells #[.int .i64 n, .slice A m c] 24)).alloc (.cells #[.int .i64 0, .slice none 0 0] 24)).heap.size := by simp
  have lt0 : w.heap.size < ((w.alloc (.cells #[.int .i64 n, .slice A m c] 24)).alloc (.cells #[.int .i64 0, .slice none 0 0] 24)).heap.size := by first | (simp; done) | (simp; omega)
  have f0 := ((Blk.new w 24 [.int .i64 n, .slice A m c]).alloc (.cells #[.int .i64 0, .slice none 0 0] 24)).cell 0
  have f1 := ((Blk.new w 24 [.int .i64 n, .slice A m c]).alloc (.cells #[.int .i64 0, .slice none 0 0] 24)).cell 1
  simp only [List.getElem?_cons_zero, List.getElem?_cons_succ] at f0 f1
  go_enter Tryd.func36, Tryd.ntmps36
  go_wp2
  go_region_held3 (fun w' => w'.cell? ⟨w.heap.size, 0, none⟩ = some (.int .i64 n) ∧ w'.cell? ⟨w.heap.size, 1, none⟩ = some (.slice A m c))
    (first | exact ⟨f0, f1⟩ | exact ⟨k0, k1⟩ | exact ⟨q0, q1⟩ | go_keep)
    (first | (go_at_call 19; refine (H19.out _ _ (by repeat (first | exact Blk.new' _ (by simp) 3 [.int .i64 i] | apply Blk.drew))).mono ?_; rintro e w5 ⟨g5, rfl, hg5, hB5, hx5⟩; have hE5 : Ex ((w.alloc (.cells #[.int .i64 n, .slice A m c] 24)).alloc (.cells #[.int .i64 0, .slice none 0 0] 24)) w5 := Ex.trans (by repeat (first | exact Ex.refl _ | apply Ex.drew | apply Ex.alloc)) hx5; have q0 := (hE5.below.cell (p := ⟨w.heap.size, 0, none⟩) lt0).trans f0; have q1 := (hE5.below.cell (p := ⟨w.heap.size, 1, none⟩) lt0).trans f1) | (go_at_call 42; refine (H42.out _ _ (hE2.trans hE5) hB5).mono ?_; rintro e w9 ⟨g, rfl, hg, hB, hx⟩; have hE9 := hE5.trans hx; have k0 := (hE9.below.cell (p := ⟨w.heap.size, 0, none⟩) lt0).trans f0; have k1 := (hE9.below.cell (p := ⟨w.heap.size, 1, none⟩) lt0).trans f1; have HR := Lib.hid (hr.ex hE9); have HBB := Lib.hid hB; have HE := Lib.hid (hE2.trans hE9); have hg2 : w.heap.size ≤ g := Nat.le_trans (hE2.trans hE5).below.size hg; have f4 := (hr.ex hE9).cell 0; have f5 := (hr.ex hE9).cell 1; have f6 : w9.frozen? ⟨w.heap.size + 1, 0, none⟩ = false := (hr.ex hE9).frozen _; have f7 : w9.frozen? ⟨w.heap.size + 1, 1, none⟩ = false := (hr.ex hE9).frozen _; simp only [List.getElem?_cons_zero, List.getElem?_cons_succ] at f4 f5; clear hx hg hB))
  go_wp2
  have hb := (HR.out.set_ 0 (.int .i64 n)).set_ 1 (.slice (some ⟨g, 0, none⟩) rs.length rs.length)
  have c0 := hb.cell 0
  have c1 := hb.cell 1
  have n2 : g ≠ w.heap.size + 1 := HBB.out.ne HR.out (by decide)
  refine bodyPost_ret (v := .agg #[.int .i64 n, .slice (some ⟨g, 0, none⟩) rs.length rs.length]) ?_ rfl ⟨g, rfl, hg2, ?_, ?_⟩
  · simp [results, Tryd.results36, go_sem, c0, c1]
  · exact (HBB.out.far n2 _).far n2 _
  · exact (HE.out.setCell (by show _ ≤ w.heap.size + 1; omega) _).setCell (by show _ ≤ w.heap.size + 1; omega) _

set_option maxHeartbeats 3200000 in
theorem rWith_c (n i : Nat) (A : Option Addr) (c : Nat) (ws : List Nat) (w : World) (hC : Cells w A (u64s ws)) (hw : Wd ws) (hv : Valid n ws) (hi : i < n) :
    Calls Tryd.prog 35 #[.agg #[.int .i64 n, .slice A ws.length c], .int .i64 i] w (NewSet w n (ofL n (mems n ws ++ [i]))) := by
  have hl1 : ∀ x ∈ mems n ws ++ [i], x < n := fun x hx => by
    rw [List.mem_append, List.mem_singleton] at hx
    rcases hx with hx | hx
    · exact mems_lt x hx
    · omega
  have hml := mems_le n ws
  have hnle := hv.le
  have H23 := Lib.hid (fun w' (hx : Ex w w') => rMembers_c n A c ws w' (hC.ex hx) hw hv)
  have HL : Hid ((mems n ws ++ [i]).length = (mems n ws).length + 1) := by show _ = _; simp
  have H19 := Lib.hid (fun w' A c (hC : Cells w' A (natsV (mems n ws ++ [i]))) => rOf_c n (mems n ws ++ [i]) A c w' hnle hl1 hC (by rw [HL.out]; omega))
  rw [HL.out] at H19
  have HN : Hid (natsV (mems n ws ++ [i]) = natsV (mems n ws) ++ natsV [i]) := natsV_append _ _
  rw [HN.out] at H19
  have hnl := natsV_length (mems n ws)
  clear hC hw hv hl1 HN HL
  generalize ofL n (mems n ws ++ [i]) = rs at *
  generalize natsV (mems n ws) = xs at *
  generalize (mems n ws).length = q at *
  subst hnl
  generalize ws.length = m at *
  have hE2 : Ex w ((w.alloc (.cells #[.int .i64 n, .slice A m c] 24)).alloc (.cells #[.int .i64 0, .slice none 0 0] 24)) := ((Ex.refl w).alloc _).alloc _
  have hr := Blk.new' (w.alloc (.cells #[.int .i64 n, .slice A m c] 24)) (g := w.heap.size + 1) (by simp) 24 [.int .i64 0, .slice none 0 0]
  have le2 : w.heap.size + 1 + 1 ≤ ((w.alloc (.cells #[.int .i64 n, .slice A m c] 24)).alloc (.cells #[.int .i64 0, .slice none 0 0] 24)).heap.size := by simp
  have lt0 : w.heap.size < ((w.alloc (.cells #[.int .i64 n, .slice A m c] 24)).alloc (.cells #[.int .i64 0, .slice none 0 0] 24)).heap.size := by first | (simp; done) | (simp; omega)
  have f0 := ((Blk.new w 24 [.int .i64 n, .slice A m c]).alloc (.cells #[.int .i64 0, .slice none 0 0] 24)).cell 0
  have f1 := ((Blk.new w 24 [.int .i64 n, .slice A m c]).alloc (.cells #[.int .i64 0, .slice none 0 0] 24)).cell 1
  simp only [List.getElem?_cons_zero, List.getElem?_cons_succ] at f0 f1
  go_enter Tryd.func35, Tryd.ntmps35
  go_wp2
  go_region_held3 (fun w' => w'.cell? ⟨w.heap.size, 0, none⟩ = some (.int .i64 n) ∧ w'.cell? ⟨w.heap.size, 1, none⟩ = some (.slice A m c))
    (first | exact ⟨f0, f1⟩ | exact ⟨k0, k1⟩ | exact ⟨r0, r1⟩ | exact ⟨q0, q1⟩ | go_keep)
    (first | (go_at_call 23; refine (H23.out _ (by repeat (first | exact Ex.refl _ | apply Ex.ext | apply Ex.alloc | apply Ex.drew))).mono ?_; rintro e w5 ⟨v5, rfl, ho5, hx5⟩; have hE5 : Ex ((w.alloc (.cells #[.int .i64 n, .slice A m c] 24)).alloc (.cells #[.int .i64 0, .slice none 0 0] 24)) w5 := Ex.trans (by repeat (first | exact Ex.refl _ | apply Ex.drew | apply Ex.alloc)) hx5; have q0 := (hE5.below.cell (p := ⟨w.heap.size, 0, none⟩) lt0).trans f0; have q1 := (hE5.below.cell (p := ⟨w.heap.size, 1, none⟩) lt0).trans f1; have hs5 : w.heap.size + 1 + 1 ≤ w5.heap.size := Nat.le_trans le2 hE5.below.size; have ho5' := own_base (base' := w.heap.size + 1 + 1) ho5 (by first | (simp; done) | (simp; omega)); first | (have hBs := (Blk.new' ((w.alloc (.cells #[.int .i64 n, .slice A m c] 24)).alloc (.cells #[.int .i64 0, .slice none 0 0] 24)) (g := w.heap.size + 1 + 1) (by simp) 3 [.int .i64 i]).drew.ex hx5) | skip) | (go_at_call 19; refine (H19.out _ _ _ hC7).mono ?_; rintro e w9 ⟨g, rfl, hg, hB, hx⟩; have hE9 := hE6.trans hx; have k0 := (hE9.below.cell (p := ⟨w.heap.size, 0, none⟩) lt0).trans f0; have k1 := (hE9.below.cell (p := ⟨w.heap.size, 1, none⟩) lt0).trans f1; have HR := Lib.hid (hr.ex hE9); have HBB := Lib.hid hB; have HE := Lib.hid (hE2.trans hE9); have hg2 : w.heap.size ≤ g := Nat.le_trans (hE2.trans hE6).below.size hg; have f4 := (hr.ex hE9).cell 0; have f5 := (hr.ex hE9).cell 1; have f6 : w9.frozen? ⟨w.heap.size + 1, 0, none⟩ = false := (hr.ex hE9).frozen _; have f7 : w9.frozen? ⟨w.heap.size + 1, 1, none⟩ = false := (hr.ex hE9).frozen _; simp only [List.getElem?_cons_zero, List.getElem?_cons_succ] at f4 f5; clear hx hg hB) | (have z2 : xs.length + [i].length ≤ 1000000 := (by simp; omega); have z3 := append_ints w5 (w.heap.size + 1 + 1) v5 xs ho5' (some ⟨w.heap.size + 1 + 1, 0, none⟩) 1 [i] hBs.cells hs5 z2; obtain ⟨v6, w6, hr6, ho6, hg6⟩ := z3; obtain ⟨A7, c7, rfl, hC7, -⟩ := own_cells ho6; have hE6 : Ex ((w.alloc (.cells #[.int .i64 n, .slice A m c] 24)).alloc (.cells #[.int .i64 0, .slice none 0 0] 24)) w6 := ex_own hE5 (ho5') (by simp) hg6; have r0 := (hE6.below.cell (p := ⟨w.heap.size, 0, none⟩) lt0).trans f0; have r1 := (hE6.below.cell (p := ⟨w.heap.size, 1, none⟩) lt0).trans f1; refine step_run (by rfl) _ _ 25 (by rfl) _ _ (by rfl) (by rfl) _ w6 hr6 ?_) | (have z1 : w.heap.size + 1 + 1 ≤ (w5.alloc (.cells #[.int .i64 i] 3)).heap.size := (by simp; omega); have z2 : xs.length + [i].length ≤ 1000000 := (by simp; omega); have z3 := append_ints (w5.alloc (.cells #[.int .i64 i] 3)) (w.heap.size + 1 + 1) v5 xs (ho5'.alloc _) (some ⟨w5.heap.size, 0, none⟩) 1 [i] (Blk.new w5 3 [.int .i64 i]).cells z1 z2; obtain ⟨v6, w6, hr6, ho6, hg6⟩ := z3; obtain ⟨A7, c7, rfl, hC7, -⟩ := own_cells ho6; have hE6 : Ex ((w.alloc (.cells #[.int .i64 n, .slice A m c] 24)).alloc (.cells #[.int .i64 0, .slice none 0 0] 24)) w6 := ex_own (hE5.alloc _) (ho5'.alloc _) (by simp) hg6; have r0 := (hE6.below.cell (p := ⟨w.heap.size, 0, none⟩) lt0).trans f0; have r1 := (hE6.below.cell (p := ⟨w.heap.size, 1, none⟩) lt0).trans f1; refine step_run (by rfl) _ _ 25 (by rfl) _ _ (by rfl) (by rfl) _ w6 hr6 ?_))
  all_goals go_wp2
  all_goals
    have hb := (HR.out.set_ 0 (.int .i64 n)).set_ 1 (.slice (some ⟨g, 0, none⟩) rs.length rs.length)
    have c0 := hb.cell 0
    have c1 := hb.cell 1
    have n2 : g ≠ w.heap.size + 1 := HBB.out.ne HR.out (by decide)
    refine bodyPost_ret (v := .agg #[.int .i64 n, .slice (some ⟨g, 0, none⟩) rs.length rs.length]) ?_ rfl ⟨g, rfl, hg2, ?_, ?_⟩
    · simp [results, Tryd.results35, go_sem, c0, c1]
    · exact (HBB.out.far n2 _).far n2 _
    · exact (HE.out.setCell (by show _ ≤ w.heap.size + 1; omega) _).setCell (by show _ ≤ w.heap.size + 1; omega) _
end Go.Proofs.YtfinldppcdkeoaaDoor
