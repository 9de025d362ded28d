/-
  The law's function size, and the closure of RecoveryPairs.
  Conditions: as each theorem says.
-/
import Derived.Test.YtdenojfbdkdpiaaRa
import Derived.BigRegion
namespace Go.Proofs.Ytdenojfbdkdpiaa
open Go.RowKit Go.Shelf
theorem sizeL_snoc {l : List (List Int)} {k : Nat} {r : List Int} (h : l[k]? = some r) : sizeL (l.take (k + 1)) = min 2000 (sizeL (l.take k) * r.length) := by
  unfold sizeL
  rw [take_snoc h, List.foldl_append]
  rfl
theorem sizeL_le : ∀ (l : List (List Int)), sizeL l ≤ 2000 := by
  have h : ∀ (l : List (List Int)) (n : Nat), n ≤ 2000 → l.foldl (fun n x => min 2000 (n * x.length)) n ≤ 2000 := by
    intro l
    induction l with
    | nil => intro n h; exact h
    | cons x l ih => intro n _; exact ih _ (Nat.min_le_left _ _)
  exact fun l => h l 1 (by decide)
set_option maxRecDepth 20000 in
set_option maxHeartbeats 1600000 in
theorem size_c (l : List (List Int)) (B : Option Addr) (lc : Nat) (w : World) (hL : LlC w B l) (hls : LSm l) :
    Calls Try.prog 17 #[.slice B l.length lc] w (Ret w (.int .i64 (sizeL l : Nat))) := by
  have hlr := hls.rows
  have HRl : Hid (∀ (p : Nat) (r : List Int), l[p]? = some r → r.length ≤ 100000) := fun p r hr => hls.each r (List.mem_of_getElem? hr)
  have HL := Lib.hid (fun w' (h : Ex w w') => hL.ex h)
  have HSn : Hid (∀ (k : Nat) (r : List Int), l[k]? = some r → sizeL (l.take (k + 1)) = min 2000 (sizeL (l.take k) * r.length)) := fun k r h => sizeL_snoc h
  have HEn : Hid (sizeL (l.take l.length) = sizeL l) := by rw [List.take_length]; exact Lib.hid rfl
  have H0 : Hid (sizeL (l.take 0) = 1) := by exact Lib.hid rfl
  have HLe : Hid (∀ k, sizeL (l.take k) ≤ 2000) := fun k => sizeL_le _
  generalize sizeL l = R at *
  clear hL hls
  go_enter Try.func17, Try.ntmps17
  go_wp2_with fail
  go_loopw [3, 8] (fun nv q wr => ∃ k : Nat, q = .int .i64 k ∧ k ≤ l.length ∧ nv = .int .i64 (sizeL (l.take k) : Nat) ∧ Hid (Ex w wr)) (fun _ q _ => l.length - (intOf q).toNat)
  case atStart => exact ⟨0, rfl, Nat.zero_le _, by rw [H0.out]; rfl, Lib.hid (Ex.refl _)⟩
  case round =>
    obtain ⟨k, rfl, hk, rfl, HX⟩ := hrel
    by_cases hkn : k < l.length
    · have m0 : (0 : Int) ≤ (k : Int) := by omega
      have m1 : (k : Int) < (l.length : Int) := by omega
      obtain ⟨r, hr⟩ := get_at hkn
      have hrl := HRl.out k r hr
      obtain ⟨b, o, rfl, hb, A7, c7, r0, hc7, -⟩ := HL.out _ HX.out k r hr
      have hs := HSn.out k r hr
      have hle := HLe.out k
      have hmul : sizeL (l.take k) * r.length ≤ 2000 * 100000 := Nat.mul_le_mul hle hrl
      have w1 : IntKind.i64.wrap ((sizeL (l.take k) : Int) * (r.length : Int)) = (sizeL (l.take k) : Int) * (r.length : Int) := by
        refine IntWalk.i64_in _ ?_
        rw [← Int.natCast_mul]
        omega
      have HMn : Hid (((sizeL (l.take (k + 1)) : Nat) : Int) = min 2000 ((sizeL (l.take k) : Int) * (r.length : Int))) := by
        rw [hs]
        refine Lib.hid ?_
        rw [← Int.natCast_mul]
        omega
      clear hr hs hmul
      generalize sizeL (l.take k) = s0 at *
      go_wp2_with fail
      exact ⟨⟨k + 1, by go_num, by omega, by rw [HMn.out], HX⟩, by simp [intOf]; omega⟩
    · obtain rfl : k = l.length := by omega
      have s1 : decide ((l.length : Int) < (l.length : Int)) = false := decide_eq_false (by omega)
      rw [HEn.out]
      go_wp2_with fail
      go_ret
      exact Ret.mk rfl HX.out
/-- a line that contains both checkpoints -/
noncomputable def togB (l : List (List Int)) (x y : Nat × Nat) (cs : List Int) : Bool := decide (cs.getD x.1 0 = lvZ l x) && decide (cs.getD y.1 0 = lvZ l y)
set_option maxRecDepth 100000 in
set_option maxHeartbeats 6400000 in
theorem pairF_c (l : List (List Int)) (B : Option Addr) (lc : Nat) (x y : Nat × Nat) (cs : List Int) (Ac : Option Addr) (cc : Nat) (nT nx nl ny : Nat) (tg : Bool) (w : World) (hL : LlC w B l) (hls : LSm l) (hcl : l.length ≤ cs.length) (hC : Row w Ac (intsV cs)) (hx : CkP l x) (hy : CkP l y) (bT : Blk w nT 4 [.bool tg]) (bx : Blk w nx 27 [.int .i64 (x.1 : Nat), .int .i64 (x.2 : Nat)]) (bl : Blk w nl 25 [.slice B l.length lc]) (by' : Blk w ny 27 [.int .i64 (y.1 : Nat), .int .i64 (y.2 : Nat)]) :
    Calls Try.prog 19 #[.slice Ac l.length cc, .pointer (some ⟨nT, 0, none⟩), .pointer (some ⟨nx, 0, none⟩), .pointer (some ⟨nl, 0, none⟩), .pointer (some ⟨ny, 0, none⟩)] w (fun e w' => e = .returned (.tuple #[]) ∧ w' = w.drew.setCell ⟨nT, 0, none⟩ (.bool (tg || togB l x y cs))) := by
  have hx1 := hx.1
  have hy1 := hy.1
  have hx2 := hx.2.1
  have hy2 := hy.2.1
  have hlr := hls.rows
  obtain ⟨b, o, A1, n1, c1, g1, k1, rfl, hb, q0, rfl, hg1, q1, hn1, e1⟩ := hx.cell hL
  obtain ⟨b', o', A2, n2, c2, g2, k2, hB2, hb2, p0, rfl, hg2, p1, hn2, e2⟩ := hy.cell hL
  cases hB2
  have hr1 : n1 ≤ 100000 := by
    rw [e1, List.getD_eq_getElem?_getD]
    obtain ⟨r, hr⟩ := get_at hx1
    rw [hr]
    exact hls.each r (List.mem_of_getElem? hr)
  have hr2 : n2 ≤ 100000 := by
    rw [e2, List.getD_eq_getElem?_getD]
    obtain ⟨r, hr⟩ := get_at hy1
    rw [hr]
    exact hls.each r (List.mem_of_getElem? hr)
  obtain ⟨cx, hcx⟩ := get_at (show x.1 < cs.length by omega)
  obtain ⟨cy, hcy⟩ := get_at (show y.1 < cs.length by omega)
  obtain ⟨gc, oc, rfl, hgc, hcell⟩ := row_at hC (fun h => by rw [h] at hcx; simp at hcx)
  have z1 := hcell _ _ hcx
  have z2 := hcell _ _ hcy
  have HR : Hid (togB l x y cs = (decide (cx = lvZ l x) && decide (cy = lvZ l y))) := by
    unfold togB
    rw [List.getD_eq_getElem?_getD, List.getD_eq_getElem?_getD, hcx, hcy]
    exact Lib.hid rfl
  generalize lvZ l x = lx at *
  generalize lvZ l y = ly at *
  generalize togB l x y cs = R at *
  clear hL hcl hC hcell hcx hcy hls
  obtain ⟨xp, xi⟩ := x
  obtain ⟨yp, yi⟩ := y
  dsimp only at *
  have m0 : (0 : Int) ≤ (xp : Int) := by omega
  have m1 : (xp : Int) < (l.length : Int) := by omega
  have m2 : (0 : Int) ≤ (yp : Int) := by omega
  have m3 : (yp : Int) < (l.length : Int) := by omega
  have w1 : IntKind.i64.wrap ((xi : Int) - 1) = ((xi - 1 : Nat) : Int) := by rw [IntWalk.i64_in _ (by omega)]; omega
  have w2 : IntKind.i64.wrap ((yi : Int) - 1) = ((yi - 1 : Nat) : Int) := by rw [IntWalk.i64_in _ (by omega)]; omega
  have m4 : (0 : Int) ≤ ((xi - 1 : Nat) : Int) := by omega
  have m5 : ((xi - 1 : Nat) : Int) < (n1 : Int) := by omega
  have m6 : (0 : Int) ≤ ((yi - 1 : Nat) : Int) := by omega
  have m7 : ((yi - 1 : Nat) : Int) < (n2 : Int) := by omega
  generalize hxd : xi - 1 = xd at *
  generalize hyd : yi - 1 = yd at *
  clear e1 e2 hn1 hn2 hxd hyd hx2 hy2 hx1 hy1 hx hy
  have t0 := bT.cell 0
  have tl := bT.lt
  have tf := bT.frozen 0
  have x0 := bx.cell 0
  have x1 := bx.cell 1
  have xl := bx.lt
  have y0 := by'.cell 0
  have y1 := by'.cell 1
  have yl := by'.lt
  have l0 := bl.cell 0
  have ll := bl.lt
  clear bT bx bl by'
  cases tg with
  | true =>
    simp only [Bool.true_or]
    clear HR
    go_enter Try.func19, Try.ntmps19
    go_wp2_with fail
    refine wp_region_tail 37 (by kernel_rfl) (by kernel_rfl) ?_
    simp only [List.take_succ_cons, List.take_zero, List.drop_succ_cons, List.drop_zero]
    repeat (go_big_quiet_step (fail))
    refine wpQuiet_on ?_
    go_wp2_with fail
    refine bodyPost_end (results_none rfl _ _ _) rfl ?_
    exact ⟨rfl, rfl⟩
  | false =>
    by_cases hex : cx = lx
    · have s1 : ((cx == lx) : Bool) = true := beq_iff_eq.2 hex
      by_cases hey : cy = ly
      · have s2 : ((cy == ly) : Bool) = true := beq_iff_eq.2 hey
        have hR : R = true := by rw [HR.out, decide_eq_true hex, decide_eq_true hey]; rfl
        rw [hR]
        clear HR hex hey hR
        go_enter Try.func19, Try.ntmps19
        go_wp2_with fail
        refine wp_region_tail 37 (by kernel_rfl) (by kernel_rfl) ?_
        simp only [List.take_succ_cons, List.take_zero, List.drop_succ_cons, List.drop_zero]
        repeat (go_big_quiet_step (fail))
        refine wpQuiet_on ?_
        go_wp2_with fail
        refine bodyPost_end (results_none rfl _ _ _) rfl ?_
        exact ⟨rfl, rfl⟩
      · have s2 : ((cy == ly) : Bool) = false := beq_eq_false_iff_ne.2 hey
        have hR : R = false := by rw [HR.out, decide_eq_false hey, Bool.and_false]
        rw [hR]
        clear HR hex hey hR
        go_enter Try.func19, Try.ntmps19
        go_wp2_with fail
        refine wp_region_tail 37 (by kernel_rfl) (by kernel_rfl) ?_
        simp only [List.take_succ_cons, List.take_zero, List.drop_succ_cons, List.drop_zero]
        repeat (go_big_quiet_step (fail))
        refine wpQuiet_on ?_
        go_wp2_with fail
        refine bodyPost_end (results_none rfl _ _ _) rfl ?_
        exact ⟨rfl, rfl⟩
    · have s1 : ((cx == lx) : Bool) = false := beq_eq_false_iff_ne.2 hex
      have hR : R = false := by rw [HR.out, decide_eq_false hex, Bool.false_and]
      rw [hR]
      clear HR hex hR
      go_enter Try.func19, Try.ntmps19
      go_wp2_with fail
      refine wp_region_tail 37 (by kernel_rfl) (by kernel_rfl) ?_
      simp only [List.take_succ_cons, List.take_zero, List.drop_succ_cons, List.drop_zero]
      repeat (go_big_quiet_step (fail))
      refine wpQuiet_on ?_
      go_wp2_with fail
      refine bodyPost_end (results_none rfl _ _ _) rfl ?_
      exact ⟨rfl, rfl⟩
end Go.Proofs.Ytdenojfbdkdpiaa
