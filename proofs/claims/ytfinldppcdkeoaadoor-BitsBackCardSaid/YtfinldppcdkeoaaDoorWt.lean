/-
  One number more or less: plain facts, and the walk of the law Steps.
  Conditions: words below 2^64.
-/
import Derived.Test.YtfinldppcdkeoaaDoorWq
namespace Go.Proofs.YtfinldppcdkeoaaDoor
open Go.RowKit Bm
def clr (ws : List Nat) (i : Nat) : List Nat := ws.set (i / 64) (andNot (ws.getD (i / 64) 0) (2 ^ (i % 64)))
theorem clr_len (ws : List Nat) (i : Nat) : (clr ws i).length = ws.length := by simp [clr]
theorem bitAt_clr (ws : List Nat) (i j : Nat) (hi : i < 64 * ws.length) : bitAt (clr ws i) j = (bitAt ws j && !decide (j = i)) := by
  unfold clr
  rw [bitAt_set _ _ _ _ (by omega)]
  by_cases hj : j / 64 = i / 64
  · rw [if_pos hj, testBit_andNot _ _ _ (by omega), Nat.testBit_two_pow]
    have e : bitAt ws j = (ws.getD (i / 64) 0).testBit (j % 64) := by unfold bitAt; rw [hj]
    rw [e]
    by_cases h : j = i
    · subst h; simp
    · have h2 : ¬ i % 64 = j % 64 := by omega
      simp [h, h2]
  · rw [if_neg hj]
    have h : ¬ j = i := by intro h; exact hj (by rw [h])
    simp [h]
theorem clr_wd {ws : List Nat} (h : Wd ws) (i : Nat) : Wd (clr ws i) := h.set _ _ (andNot_lt _ _ (h.getD _) (Nat.pow_lt_pow_right (by omega) (by omega)))
theorem clr_valid {n i : Nat} {ws : List Nat} (hv : Valid n ws) (hi : i < n) : Valid n (clr ws i) := by
  have := hv.len
  refine ⟨hv.le, by rw [clr_len, hv.len], fun j hj => ?_⟩
  rw [bitAt_clr ws i j (by omega), hv.clean j hj]; rfl
theorem clr_set {n i : Nat} {ws : List Nat} (hv : Valid n ws) (hw : Wd ws) (hi : i < n) : clr (setBit ws i) i = clr ws i := by
  have := hv.len
  refine (clr_valid (set_valid hv hi) hi).ext (clr_valid hv hi) (clr_wd (Wd.setBit hw i) i) (clr_wd hw i) fun j _ => ?_
  rw [bitAt_clr _ i j (by rw [length_setBit]; omega), bitAt_setBit ws i j (by omega), bitAt_clr ws i j (by omega)]
  by_cases h : j = i <;> simp [h]
theorem set_same {n i : Nat} {ws : List Nat} (hv : Valid n ws) (hw : Wd ws) (hi : i < n) (hb : bitAt ws i = true) : setBit ws i = ws := by
  have := hv.len
  refine (set_valid hv hi).ext hv (Wd.setBit hw i) hw fun j _ => ?_
  rw [bitAt_setBit ws i j (by omega)]
  by_cases h : j = i
  · subst h; simp [hb]
  · simp [h]
theorem clr_same {n i : Nat} {ws : List Nat} (hv : Valid n ws) (hw : Wd ws) (hi : i < n) (hb : bitAt ws i = false) : clr ws i = ws := by
  have := hv.len
  refine (clr_valid hv hi).ext hv (clr_wd hw i) hw fun j _ => ?_
  rw [bitAt_clr ws i j (by omega)]
  by_cases h : j = i
  · subst h; simp [hb]
  · simp [h]
theorem filter_one (n i : Nat) (p q : Nat → Bool) (hp : p i = true) (hq : q i = false) (h : ∀ j, j ≠ i → p j = q j) :
    ((List.range n).filter p).length = ((List.range n).filter q).length + if i < n then 1 else 0 := by
  induction n with
  | zero => simp
  | succ n ih =>
    rw [List.range_succ, List.filter_append, List.filter_append, List.length_append, List.length_append, ih]
    by_cases hn : n = i
    · subst hn
      simp [hp, hq]
    · have hpq := h n hn
      have e : (if i < n + 1 then 1 else 0 : Nat) = if i < n then 1 else 0 := by
        by_cases h1 : i < n
        · rw [if_pos h1, if_pos (Nat.lt_succ_of_lt h1)]
        · rw [if_neg h1, if_neg (by omega)]
      rw [e]
      cases hc : q n
      · rw [hc] at hpq
        simp [hpq, hc]
      · rw [hc] at hpq
        simp [hpq, hc]
        omega
theorem count_step {n i : Nat} {ws : List Nat} (hv : Valid n ws) (hi : i < n) : (mems n (setBit ws i)).length = (mems n (clr ws i)).length + 1 := by
  have := hv.len
  unfold mems
  rw [filter_one n i (bitAt (setBit ws i)) (bitAt (clr ws i)), if_pos hi]
  · rw [bitAt_setBit ws i i (by omega)]; simp
  · rw [bitAt_clr ws i i (by omega)]; simp
  · intro j hj
    rw [bitAt_setBit ws i j (by omega), bitAt_clr ws i j (by omega)]
    simp [hj]
theorem with_c (n i : Nat) (A : Option Addr) (c : Nat) (ws : List Nat) (w : World) (hC : Cells w A (u64s ws)) (hw : Wd ws) (hv : Valid n ws) (hi : i < n) :
    Calls Tryd.prog 31 #[.agg #[.int .i64 n, .slice A ws.length c], .int .i64 i] w (NewSetE w n (setBit ws i)) :=
  with_ok n i A c ws w hC hw hv hi _ (or_bit _ _ (hw.lt _) (by omega))
theorem without_c (n i : Nat) (A : Option Addr) (c : Nat) (ws : List Nat) (w : World) (hC : Cells w A (u64s ws)) (hw : Wd ws) (hv : Valid n ws) (hi : i < n) :
    Calls Tryd.prog 32 #[.agg #[.int .i64 n, .slice A ws.length c], .int .i64 i] w (NewSetE w n (clr ws i)) :=
  without_ok n i A c ws w hC hw hv hi _ (by
    rw [shl_bit _ (by omega)]
    exact andNot_nat _ _ (hw.lt _) (Nat.pow_lt_pow_right (by omega) (show i % 64 < 64 by omega)))
theorem has_val {n i : Nat} {ws : List Nat} (hv : Valid n ws) (hi : i < n) : hasB n ws i = bitAt ws i := by
  have h1 := (validB_iff n ws).2 ⟨n, rfl, hv⟩
  simp [hasB, h1, hi]

theorem steps_few (N i : Int) (A : Option Addr) (c : Nat) (ws : List Nat) (w : World) (hT : Tab w) (h : ¬ ws.length ≤ 20) : Calls Tryd.prog 8 #[.agg #[.int .i64 N, .slice A ws.length c], .int .i64 i] w (Ret w (.bool true)) := by
  have HAw := Lib.hid (fun w' (hx : Ex w w') => awake_c w' (hT.ex hx))
  have HF := Lib.hid (fun w' g (hB : Blk w' g 24 [.int .i64 N, .slice A ws.length c]) => few_one w' g 24 N A ws.length c hB)
  rw [decide_eq_false h] at HF
  clear hT h
  generalize ws.length = m at *
  go_enter Tryd.func8, Tryd.ntmps8
  go_wp2_with fail
  refine (HAw.out _ (by repeat (first | exact Ex.refl _ | apply Ex.ext | apply Ex.alloc))).mono ?_
  rintro e' w' ⟨rfl, y, rfl⟩
  go_wp2_with fail
  refine (HF.out _ _ (Blk.new' (ext _ y) rfl 24 [.int .i64 N, .slice A m c])).mono ?_
  rintro e' w' ⟨rfl, hx⟩
  obtain ⟨z, rfl⟩ := Ex.trans (Ex.alloc ⟨y, rfl⟩ _) hx
  clear hx
  go_wp2_with fail
  refine (Calls.up (W := w.alloc (.cells #[.int .i64 N, .slice A m c] 24)) ⟨_, rfl⟩ (HAw.out _ (by repeat (first | exact Ex.refl _ | apply Ex.ext | apply Ex.alloc)))).mono ?_
  rintro e' w' ⟨rfl, zz, rfl⟩
  go_wp2
  go_ret
  exact Ret.mk rfl (((Ex.refl _).alloc _).ext _)

theorem steps_inv (N i : Int) (A : Option Addr) (c : Nat) (ws : List Nat) (w : World) (hT : Tab w) (hC : Cells w A (u64s ws)) (hw : Wd ws) (h20 : ws.length ≤ 20) (h : validB N ws = false) : Calls Tryd.prog 8 #[.agg #[.int .i64 N, .slice A ws.length c], .int .i64 i] w (Ret w (.bool true)) := by
  have HAw := Lib.hid (fun w' (hx : Ex w w') => awake_c w' (hT.ex hx))
  have HF := Lib.hid (fun w' g (hB : Blk w' g 24 [.int .i64 N, .slice A ws.length c]) => few_one w' g 24 N A ws.length c hB)
  rw [decide_eq_true h20] at HF
  have H20 := Lib.hid (fun w' (hx : Ex w w') => rvalid_c N A c ws w' (hC.ex hx) hw)
  rw [h] at H20
  clear hT h hC hw h20
  generalize ws.length = m at *
  go_enter Tryd.func8, Tryd.ntmps8
  go_wp2_with fail
  refine (HAw.out _ (by repeat (first | exact Ex.refl _ | apply Ex.ext | apply Ex.alloc))).mono ?_
  rintro e' w' ⟨rfl, y, rfl⟩
  go_wp2_with fail
  refine (HF.out _ _ (Blk.new' (ext _ y) rfl 24 [.int .i64 N, .slice A m c])).mono ?_
  rintro e' w' ⟨rfl, hx⟩
  obtain ⟨z, rfl⟩ := Ex.trans (Ex.alloc ⟨y, rfl⟩ _) hx
  clear hx
  go_wp2_with fail
  refine (Calls.up (W := w.alloc (.cells #[.int .i64 N, .slice A m c] 24)) ⟨_, rfl⟩ (H20.out _ (by repeat (first | exact Ex.refl _ | apply Ex.ext | apply Ex.alloc)))).mono ?_
  rintro e' w' ⟨rfl, zz, rfl⟩
  go_wp2_with fail
  refine (Calls.up (W := w.alloc (.cells #[.int .i64 N, .slice A m c] 24)) ⟨_, rfl⟩ (HAw.out _ (by repeat (first | exact Ex.refl _ | apply Ex.ext | apply Ex.alloc)))).mono ?_
  rintro e' w' ⟨rfl, zz, rfl⟩
  go_wp2
  go_ret
  exact Ret.mk rfl (((Ex.refl _).alloc _).ext _)

theorem steps_neg (N i : Int) (A : Option Addr) (c : Nat) (ws : List Nat) (w : World) (hT : Tab w) (hC : Cells w A (u64s ws)) (hw : Wd ws) (h20 : ws.length ≤ 20) (h : validB N ws = true) (hi : i < 0) : Calls Tryd.prog 8 #[.agg #[.int .i64 N, .slice A ws.length c], .int .i64 i] w (Ret w (.bool true)) := by
  have HAw := Lib.hid (fun w' (hx : Ex w w') => awake_c w' (hT.ex hx))
  have HF := Lib.hid (fun w' g (hB : Blk w' g 24 [.int .i64 N, .slice A ws.length c]) => few_one w' g 24 N A ws.length c hB)
  rw [decide_eq_true h20] at HF
  have H20 := Lib.hid (fun w' (hx : Ex w w') => rvalid_c N A c ws w' (hC.ex hx) hw)
  rw [h] at H20
  have g1 : decide (i < 0) = true := by simp; omega
  clear hT h hC hw h20 hi
  generalize ws.length = m at *
  go_enter Tryd.func8, Tryd.ntmps8
  go_wp2_with fail
  refine (HAw.out _ (by repeat (first | exact Ex.refl _ | apply Ex.ext | apply Ex.alloc))).mono ?_
  rintro e' w' ⟨rfl, y, rfl⟩
  go_wp2_with fail
  refine (HF.out _ _ (Blk.new' (ext _ y) rfl 24 [.int .i64 N, .slice A m c])).mono ?_
  rintro e' w' ⟨rfl, hx⟩
  obtain ⟨z, rfl⟩ := Ex.trans (Ex.alloc ⟨y, rfl⟩ _) hx
  clear hx
  go_wp2_with fail
  refine (Calls.up (W := w.alloc (.cells #[.int .i64 N, .slice A m c] 24)) ⟨_, rfl⟩ (H20.out _ (by repeat (first | exact Ex.refl _ | apply Ex.ext | apply Ex.alloc)))).mono ?_
  rintro e' w' ⟨rfl, zz, rfl⟩
  go_wp2_with fail
  refine (Calls.up (W := w.alloc (.cells #[.int .i64 N, .slice A m c] 24)) ⟨_, rfl⟩ (HAw.out _ (by repeat (first | exact Ex.refl _ | apply Ex.ext | apply Ex.alloc)))).mono ?_
  rintro e' w' ⟨rfl, zz, rfl⟩
  go_wp2
  go_ret
  exact Ret.mk rfl (((Ex.refl _).alloc _).ext _)

theorem steps_big (N i : Int) (A : Option Addr) (c : Nat) (ws : List Nat) (w : World) (hT : Tab w) (hC : Cells w A (u64s ws)) (hw : Wd ws) (h20 : ws.length ≤ 20) (h : validB N ws = true) (hi : ¬ i < 0) (hi2 : N ≤ i) : Calls Tryd.prog 8 #[.agg #[.int .i64 N, .slice A ws.length c], .int .i64 i] w (Ret w (.bool true)) := by
  have HAw := Lib.hid (fun w' (hx : Ex w w') => awake_c w' (hT.ex hx))
  have HF := Lib.hid (fun w' g (hB : Blk w' g 24 [.int .i64 N, .slice A ws.length c]) => few_one w' g 24 N A ws.length c hB)
  rw [decide_eq_true h20] at HF
  have H20 := Lib.hid (fun w' (hx : Ex w w') => rvalid_c N A c ws w' (hC.ex hx) hw)
  rw [h] at H20
  have g1 : decide (i < 0) = false := by simp; omega
  have g2 : decide (N ≤ i) = true := by simp; omega
  clear hT h hC hw h20 hi hi2
  generalize ws.length = m at *
  go_enter Tryd.func8, Tryd.ntmps8
  go_wp2_with fail
  refine (HAw.out _ (by repeat (first | exact Ex.refl _ | apply Ex.ext | apply Ex.alloc))).mono ?_
  rintro e' w' ⟨rfl, y, rfl⟩
  go_wp2_with fail
  refine (HF.out _ _ (Blk.new' (ext _ y) rfl 24 [.int .i64 N, .slice A m c])).mono ?_
  rintro e' w' ⟨rfl, hx⟩
  obtain ⟨z, rfl⟩ := Ex.trans (Ex.alloc ⟨y, rfl⟩ _) hx
  clear hx
  go_wp2_with fail
  refine (Calls.up (W := w.alloc (.cells #[.int .i64 N, .slice A m c] 24)) ⟨_, rfl⟩ (H20.out _ (by repeat (first | exact Ex.refl _ | apply Ex.ext | apply Ex.alloc)))).mono ?_
  rintro e' w' ⟨rfl, zz, rfl⟩
  go_wp2_with fail
  refine (Calls.up (W := w.alloc (.cells #[.int .i64 N, .slice A m c] 24)) ⟨_, rfl⟩ (HAw.out _ (by repeat (first | exact Ex.refl _ | apply Ex.ext | apply Ex.alloc)))).mono ?_
  rintro e' w' ⟨rfl, zz, rfl⟩
  go_wp2
  go_ret
  exact Ret.mk rfl (((Ex.refl _).alloc _).ext _)

set_option maxHeartbeats 3200000 in
theorem steps_good (n i : Nat) (A : Option Addr) (c : Nat) (ws : List Nat) (w : World) (hT : Tab w) (hC : Cells w A (u64s ws)) (hw : Wd ws) (h20 : ws.length ≤ 20) (hv : Valid n ws) (hi : i < n) (b : Bool) (hb : bitAt ws i = b)
    (es : decide (setBit ws i = ws) = b) (ec : decide (clr ws i = ws) = !b) :
    Calls Tryd.prog 8 #[.agg #[.int .i64 n, .slice A ws.length c], .int .i64 i] w (Ret w (.bool true)) := by
  have HAw := Lib.hid (fun w' (hx : Ex w w') => awake_c w' (hT.ex hx))
  have HF := Lib.hid (fun w' g (hB : Blk w' g 24 [.int .i64 n, .slice A ws.length c]) => few_one w' g 24 n A ws.length c hB)
  rw [decide_eq_true h20] at HF
  have H20 := Lib.hid (fun w' (hx : Ex w w') => rvalid_c n A c ws w' (hC.ex hx) hw)
  rw [(validB_iff n ws).2 ⟨n, rfl, hv⟩] at H20
  have g1 : decide ((i : Int) < 0) = false := by simp
  have g2 : decide ((n : Int) ≤ (i : Int)) = false := by simp; omega
  have vs := set_valid hv hi
  have vc := clr_valid hv hi
  have ds := Wd.setBit hw i
  have dc := clr_wd hw i
  have lens : (setBit ws i).length ≤ 20 := by rw [length_setBit]; exact h20
  have lenc : (clr ws i).length ≤ 20 := by rw [clr_len]; exact h20
  have len0 := hv.len
  have H1 := Lib.hid (fun w' (hx : Ex w w') => with_c n i A c ws w' (hC.ex hx) hw hv hi)
  have H2 := Lib.hid (fun w' (hx : Ex w w') => without_c n i A c ws w' (hC.ex hx) hw hv hi)
  have H3 := Lib.hid (fun w' g (hB : Blk w' g 54 (u64s (setBit ws i))) => without_c n i (some ⟨g, 0, none⟩) (setBit ws i).length (setBit ws i) w' hB.cells ds vs hi)
  rw [clr_set hv hw hi] at H3
  have K1 := Lib.hid (fun w' g (hB : Blk w' g 54 (u64s (setBit ws i))) => bHas_c n i (some ⟨g, 0, none⟩) (setBit ws i).length (setBit ws i) w' hB.cells ds lens)
  rw [has_val vs hi, show bitAt (setBit ws i) i = true from by rw [bitAt_setBit ws i i (by omega)]; simp] at K1
  have K2 := Lib.hid (fun w' g (hB : Blk w' g 54 (u64s (clr ws i))) => bHas_c n i (some ⟨g, 0, none⟩) (clr ws i).length (clr ws i) w' hB.cells dc lenc)
  rw [has_val vc hi, show bitAt (clr ws i) i = false from by rw [bitAt_clr ws i i (by omega)]; simp] at K2
  have K3 := Lib.hid (fun w' g h (hB : Blk w' g 54 (u64s (clr ws i))) (hB2 : Blk w' h 54 (u64s (clr ws i))) => same_same n (some ⟨g, 0, none⟩) (some ⟨h, 0, none⟩) (clr ws i).length (clr ws i).length (clr ws i) w' hB.cells hB2.cells lenc)
  have K4 := Lib.hid (fun w' g (hB : Blk w' g 54 (u64s (setBit ws i))) => bCount_c n (some ⟨g, 0, none⟩) (setBit ws i).length (setBit ws i) w' hB.cells ds)
  have K5 := Lib.hid (fun w' g (hB : Blk w' g 54 (u64s (clr ws i))) => bCount_c n (some ⟨g, 0, none⟩) (clr ws i).length (clr ws i) w' hB.cells dc)
  rw [cntB_ok vs, count_step hv hi] at K4
  rw [cntB_ok vc] at K5
  have hk := mems_le n (clr ws i)
  have hnle := hv.le
  have K6 := Lib.hid (fun w' (hx : Ex w w') => bHas_c n i A c ws w' (hC.ex hx) hw h20)
  rw [has_val hv hi, hb] at K6
  have K7 := Lib.hid (fun w' g (hx : Ex w w') (hB : Blk w' g 54 (u64s (setBit ws i))) => same_c n n (some ⟨g, 0, none⟩) A (setBit ws i).length c (setBit ws i) ws w' hB.cells (hC.ex hx) lens)
  rw [decide_eq_true (rfl : (n : Int) = n), es] at K7
  have K8 := Lib.hid (fun w' g (hx : Ex w w') (hB : Blk w' g 54 (u64s (clr ws i))) => same_c n n (some ⟨g, 0, none⟩) A (clr ws i).length c (clr ws i) ws w' hB.cells (hC.ex hx) lenc)
  rw [decide_eq_true (rfl : (n : Int) = n), ec] at K8
  clear hT hC hw h20 hv hb es ec vs vc ds dc lens lenc len0
  generalize setBit ws i = ss at *
  generalize clr ws i = bs at *
  generalize (mems n bs).length = k at *
  have hsum : IntKind.i64.wrap ((k : Int) + 1) = (k : Int) + 1 := by rw [IntKind.wrap_i64]; omega
  have hkk : (((k + 1 : Nat) : Int) != (k : Int) + 1) = false := by simp
  generalize ws.length = m at *
  go_enter Tryd.func8, Tryd.ntmps8
  go_wp2_with fail
  refine (HAw.out _ (by repeat (first | exact Ex.refl _ | apply Ex.ext | apply Ex.alloc))).mono ?_
  rintro e' w' ⟨rfl, y, rfl⟩
  go_wp2_with fail
  refine (HF.out _ _ (Blk.new' (ext _ y) rfl 24 [.int .i64 n, .slice A m c])).mono ?_
  rintro e' w' ⟨rfl, hx⟩
  obtain ⟨z, rfl⟩ := Ex.trans (Ex.alloc ⟨y, rfl⟩ _) hx
  clear hx
  go_wp2_with fail
  refine (Calls.up (W := w.alloc (.cells #[.int .i64 n, .slice A m c] 24)) ⟨_, rfl⟩ (H20.out _ (by repeat (first | exact Ex.refl _ | apply Ex.ext | apply Ex.alloc)))).mono ?_
  rintro e' w' ⟨rfl, zz, rfl⟩
  go_wp2_with fail
  refine (H1.out _ (by repeat (first | exact Ex.refl _ | apply Ex.ext | apply Ex.alloc))).mono ?_
  rintro e' w1 ⟨g1', rfl, hg, hB1, hx⟩
  have hE1 := (((Ex.refl w).alloc (.cells #[.int .i64 n, .slice A m c] 24)).ext zz).trans hx
  have hS2 := ((Blk.new w 24 [.int .i64 n, .slice A m c]).ex ⟨zz, rfl⟩).ex hx
  clear hx hg
  have X1 := Lib.hid (And.intro (hE1.alloc (.cells #[.int .i64 n, .slice (some ⟨g1', 0, none⟩) ss.length ss.length] 24)) (And.intro (hS2.alloc (.cells #[.int .i64 n, .slice (some ⟨g1', 0, none⟩) ss.length ss.length] 24)) (And.intro (hB1.alloc (.cells #[.int .i64 n, .slice (some ⟨g1', 0, none⟩) ss.length ss.length] 24)) (Blk.new w1 24 [.int .i64 n, .slice (some ⟨g1', 0, none⟩) ss.length ss.length]))))
  have l2 := hS2.lt
  have p2 := hS2.cell 0
  have q2 := hS2.cell 1
  simp only [List.getElem?_cons_zero, List.getElem?_cons_succ] at p2 q2
  clear hE1 hS2 hB1
  go_wp2_with fail
  generalize hW1 : w1.alloc (.cells #[.int .i64 n, .slice (some ⟨g1', 0, none⟩) ss.length ss.length] 24) = V1 at *
  generalize w1.heap.size = b5 at *
  clear hW1 l2 p2 q2
  obtain ⟨hE1, hS2, hB1, hS5⟩ := X1.out
  refine (H2.out _ hE1).mono ?_
  rintro e' w2 ⟨g2', rfl, hg, hB2, hx⟩
  have hE2 := hE1.trans hx
  have hS2' := hS2.ex hx
  have hB1' := hB1.ex hx
  have hS5' := hS5.ex hx
  clear hx hg hE1 hS2 hB1 hS5 X1
  have X2 := Lib.hid (And.intro (hE2.alloc (.cells #[.int .i64 n, .slice (some ⟨g2', 0, none⟩) bs.length bs.length] 24)) (And.intro (hS2'.alloc (.cells #[.int .i64 n, .slice (some ⟨g2', 0, none⟩) bs.length bs.length] 24)) (And.intro (hB1'.alloc (.cells #[.int .i64 n, .slice (some ⟨g2', 0, none⟩) bs.length bs.length] 24)) (And.intro (hS5'.alloc (.cells #[.int .i64 n, .slice (some ⟨g2', 0, none⟩) bs.length bs.length] 24)) (And.intro (hB2.alloc (.cells #[.int .i64 n, .slice (some ⟨g2', 0, none⟩) bs.length bs.length] 24)) (Blk.new w2 24 [.int .i64 n, .slice (some ⟨g2', 0, none⟩) bs.length bs.length]))))))
  have l5 := hS5'.lt
  have p5 := hS5'.cell 0
  have q5 := hS5'.cell 1
  simp only [List.getElem?_cons_zero, List.getElem?_cons_succ] at p5 q5
  clear hE2 hS2' hB1' hS5' hB2
  go_wp2_with fail
  generalize hW2 : w2.alloc (.cells #[.int .i64 n, .slice (some ⟨g2', 0, none⟩) bs.length bs.length] 24) = V2 at *
  generalize w2.heap.size = b7 at *
  clear hW2 l5 p5 q5
  obtain ⟨hE2, hS2, hB1, hS5, hB2, hS7⟩ := X2.out
  refine (H3.out _ _ hB1).mono ?_
  rintro e' w3 ⟨g3', rfl, hg, hB3, hx⟩
  have hE3 := hE2.trans hx
  have hS2' := hS2.ex hx
  have hB1' := hB1.ex hx
  have hS5' := hS5.ex hx
  have hB2' := hB2.ex hx
  have hS7' := hS7.ex hx
  clear hx hg hE2 hS2 hB1 hS5 hB2 hS7 X2
  have X3 := Lib.hid (And.intro (hE3.alloc (.cells #[.int .i64 n, .slice (some ⟨g3', 0, none⟩) bs.length bs.length] 24)) (And.intro (hS2'.alloc (.cells #[.int .i64 n, .slice (some ⟨g3', 0, none⟩) bs.length bs.length] 24)) (And.intro (hB1'.alloc (.cells #[.int .i64 n, .slice (some ⟨g3', 0, none⟩) bs.length bs.length] 24)) (And.intro (hS5'.alloc (.cells #[.int .i64 n, .slice (some ⟨g3', 0, none⟩) bs.length bs.length] 24)) (And.intro (hB2'.alloc (.cells #[.int .i64 n, .slice (some ⟨g3', 0, none⟩) bs.length bs.length] 24)) (And.intro (hS7'.alloc (.cells #[.int .i64 n, .slice (some ⟨g3', 0, none⟩) bs.length bs.length] 24)) (And.intro (hB3.alloc (.cells #[.int .i64 n, .slice (some ⟨g3', 0, none⟩) bs.length bs.length] 24)) (Blk.new w3 24 [.int .i64 n, .slice (some ⟨g3', 0, none⟩) bs.length bs.length]))))))))
  clear hE3 hS2' hB1' hS5' hB2' hS7' hB3
  go_wp2
  generalize hW3 : w3.alloc (.cells #[.int .i64 n, .slice (some ⟨g3', 0, none⟩) bs.length bs.length] 24) = V3 at *
  generalize w3.heap.size = b9 at *
  clear hW3
  obtain ⟨hE3, hS2, hB1, hS5, hB2, hS7, hB3, hS9⟩ := X3.out
  have l2 := hS2.lt
  have p2 := hS2.cell 0
  have q2 := hS2.cell 1
  have l5 := hS5.lt
  have p5 := hS5.cell 0
  have q5 := hS5.cell 1
  have l7 := hS7.lt
  have p7 := hS7.cell 0
  have q7 := hS7.cell 1
  have l9 := hS9.lt
  have p9 := hS9.cell 0
  have q9 := hS9.cell 1
  simp only [List.getElem?_cons_zero, List.getElem?_cons_succ] at p2 q2 p5 q5 p7 q7 p9 q9
  clear X3
  have Y0 := Lib.hid (fun z : Up V3 => hE3.ext z)
  have Y1 := Lib.hid (fun z : Up V3 => hB1.ex ⟨z, rfl⟩)
  have Y2 := Lib.hid (fun z : Up V3 => hB2.ex ⟨z, rfl⟩)
  have Y3 := Lib.hid (fun z : Up V3 => hB3.ex ⟨z, rfl⟩)
  clear hE3 hS2 hB1 hS5 hB2 hS7 hB3 hS9
  refine wp_region_ext (by kernel_rfl) (by kernel_rfl) ?_
  repeat (go_big_quiet_step (fail))
  go_big_quiet_step ((go_at_call 33; exact quiet_ext (K1.out _ _ (Y1.out _))))
  repeat (go_big_quiet_step (fail))
  go_big_quiet_step ((go_at_call 33; exact quiet_ext (K2.out _ _ (Y2.out _))))
  repeat (go_big_quiet_step (fail))
  go_big_quiet_step ((go_at_call 18; exact quiet_ext (K3.out _ _ _ (Y2.out _) (Y3.out _))))
  repeat (go_big_quiet_step (fail))
  go_big_quiet_step ((go_at_call 25; exact quiet_ext (K4.out _ _ (Y1.out _))))
  repeat (go_big_quiet_step (fail))
  go_big_quiet_step ((go_at_call 25; exact quiet_ext (K5.out _ _ (Y2.out _))))
  repeat (go_big_quiet_step (fail))
  refine wpQuiet_end (fun z => ?_)
  cases b
  · go_wp2_with fail
    refine (Calls.up (W := V3) ⟨_, rfl⟩ (K6.out _ (Y0.out _))).mono ?_
    rintro e' w' ⟨rfl, z1, rfl⟩
    go_wp2_with fail
    refine (Calls.up (W := V3) ⟨_, rfl⟩ (K8.out _ _ (Y0.out _) (Y2.out _))).mono ?_
    rintro e' w' ⟨rfl, z2, rfl⟩
    go_wp2
    go_ret
    exact Ret.mk rfl (Y0.out _)
  · go_wp2_with fail
    refine (Calls.up (W := V3) ⟨_, rfl⟩ (K6.out _ (Y0.out _))).mono ?_
    rintro e' w' ⟨rfl, z1, rfl⟩
    go_wp2_with fail
    refine (Calls.up (W := V3) ⟨_, rfl⟩ (K7.out _ _ (Y0.out _) (Y1.out _))).mono ?_
    rintro e' w' ⟨rfl, z2, rfl⟩
    go_wp2
    go_ret
    exact Ret.mk rfl (Y0.out _)
theorem steps_c (N i : Int) (A : Option Addr) (c : Nat) (ws : List Nat) (w : World) (hT : Tab w) (hC : Cells w A (u64s ws)) (hw : Wd ws) : Calls Tryd.prog 8 #[.agg #[.int .i64 N, .slice A ws.length c], .int .i64 i] w (Ret w (.bool true)) := by
  by_cases h20 : ws.length ≤ 20
  · cases h : validB N ws
    · exact steps_inv N i A c ws w hT hC hw h20 h
    · by_cases hi : i < 0
      · exact steps_neg N i A c ws w hT hC hw h20 h hi
      · by_cases hi2 : N ≤ i
        · exact steps_big N i A c ws w hT hC hw h20 h hi hi2
        · obtain ⟨n, rfl, hv⟩ := (validB_iff N ws).1 h
          obtain ⟨k, rfl⟩ : ∃ k : Nat, i = k := ⟨i.toNat, by omega⟩
          have hk : k < n := by omega
          have hlen := hv.len
          cases hb : bitAt ws k
          · refine steps_good n k A c ws w hT hC hw h20 hv hk false hb ?_ ?_
            · rw [decide_eq_false_iff_not]
              intro h2
              have h3 : bitAt (setBit ws k) k = true := by rw [bitAt_setBit ws k k (by omega)]; simp
              rw [h2, hb] at h3; cases h3
            · rw [clr_same hv hw hk hb]; simp
          · refine steps_good n k A c ws w hT hC hw h20 hv hk true hb ?_ ?_
            · rw [set_same hv hw hk hb]; simp
            · show decide _ = false
              rw [decide_eq_false_iff_not]
              intro h2
              have h3 : bitAt (clr ws k) k = false := by rw [bitAt_clr ws k k (by omega)]; simp
              rw [h2, hb] at h3; cases h3
  · exact steps_few N i A c ws w hT h20
end Go.Proofs.YtfinldppcdkeoaaDoor
