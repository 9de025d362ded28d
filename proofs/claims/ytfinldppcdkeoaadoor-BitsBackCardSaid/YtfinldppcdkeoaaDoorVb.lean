/-
  The walk of the law Back.
  Conditions: none.
-/
import Derived.Test.YtfinldppcdkeoaaDoorVa
namespace Go.Proofs.YtfinldppcdkeoaaDoor
open Go.RowKit Bm
theorem back_guard (N : Int) (A : Option Addr) (m c : Nat) (w : World) (hT : Tab w) (h : 600 < m) : Calls Tryd.prog 10 #[.int .i64 N, .slice A m c] w (Ret w (.bool true)) := by
  have HAw := Lib.hid (fun w' (hx : Ex w w') => awake_c w' (hT.ex hx))
  have hk : decide ((600 : Int) < (m : Int)) = true := by simp; omega
  clear hT h
  go_enter Tryd.func10, Tryd.ntmps10
  go_wp2_with fail
  refine (HAw.out _ (Ex.refl _)).mono ?_
  rintro e w' ⟨rfl, y, rfl⟩
  go_wp2_with fail
  refine (HAw.out _ (by repeat (first | exact Ex.refl _ | apply Ex.ext | apply Ex.alloc))).mono ?_
  rintro e w' ⟨rfl, y2, rfl⟩
  go_wp2
  go_ret
  exact Ret.mk rfl (((Ex.refl _).ext _).ext _)
set_option maxHeartbeats 800000 in
theorem back_bad (N : Int) (l : List Int) (A : Option Addr) (c : Nat) (w : World) (hT : Tab w) (hC : Cells w A (ints l)) (hl : l.length ≤ 600) (h : N < 0 ∨ 512 < N ∨ ∃ x ∈ l, ¬ (0 ≤ x ∧ x < N)) : Calls Tryd.prog 10 #[.int .i64 N, .slice A l.length c] w (Ret w (.bool true)) := by
  have HAw := Lib.hid (fun w' (hx : Ex w w') => awake_c w' (hT.ex hx))
  have hk : decide ((600 : Int) < (l.length : Int)) = false := by simp; omega
  have H13 := Lib.hid (fun w' (hx : Ex w w') => bOf_bad N l A c w' h (hC.ex hx) (by omega))
  unfold Zero at H13
  clear hT h hC hl
  generalize l.length = m at *
  go_enter Tryd.func10, Tryd.ntmps10
  go_wp2_with fail
  refine (HAw.out _ (Ex.refl _)).mono ?_
  rintro e w' ⟨rfl, y, rfl⟩
  go_wp2_with fail
  refine (H13.out _ (by repeat (first | exact Ex.refl _ | apply Ex.ext | apply Ex.alloc))).mono ?_
  rintro e w1 ⟨rfl, hx⟩
  have hE := ((Ex.refl w).ext y).trans hx
  clear hx
  go_wp2_with fail
  refine (none_zero 0 _).mono ?_
  rintro e w2 ⟨rfl, hx⟩
  have hE2 := (hE.alloc _).trans hx
  go_wp2
  go_ret
  exact Ret.mk rfl hE2

theorem hasB_in {n i : Nat} {ws : List Nat} (hv : Valid n ws) (hi : i < n) (hb : bitAt ws i = true) : hasB n ws i = true := by
  unfold hasB
  rw [(validB_iff n ws).2 ⟨n, rfl, hv⟩]
  simp [hb]
  omega
theorem hasB_neg {n : Int} {ws : List Nat} {i : Int} (hi : i < 0) : hasB n ws i = false := by
  unfold hasB
  have : decide (0 ≤ i) = false := by simp; omega
  simp [this]
theorem hasB_big {n : Int} {ws : List Nat} {i : Int} (hi : n ≤ i) : hasB n ws i = false := by
  unfold hasB
  have : decide (i < n) = false := by simp; omega
  simp [this]
set_option maxHeartbeats 3200000 in
theorem back_good (n : Nat) (l : List Nat) (A : Option Addr) (c : Nat) (w : World) (hT : Tab w) (hC : Cells w A (natsV l)) (hl : l.length ≤ 600) (hn : n ≤ 512) (h : ∀ x ∈ l, x < n) : Calls Tryd.prog 10 #[.int .i64 n, .slice A l.length c] w (Ret w (.bool true)) := by
  have HAw := Lib.hid (fun w' (hx : Ex w w') => awake_c w' (hT.ex hx))
  have hk : decide ((600 : Int) < (l.length : Int)) = false := by simp; omega
  have hv : Valid n (ofL n l) := valid_ofL hn h
  have hw : Wd (ofL n l) := wd_ofL n l
  have h8 : (ofL n l).length ≤ 8 := by rw [length_ofL]; omega
  have hml : (mems n (ofL n l)).length ≤ 512 := Nat.le_trans (mems_le n _) hn
  have H13 := Lib.hid (fun w' (hx : Ex w w') => bOf_ok n l A c w' hn h (hC.ex hx) (by omega))
  have H14 := Lib.hid (fun w' (hx : Ex w w') B d (hC : Cells w' B (u64s (ofL n l))) => (bMembers_ok n B d (ofL n l) w' hC hw hv (hT.ex hx)).mono fun _ _ => RetOwnE.listE)
  have H13b := Lib.hid (fun w' B d (hC : Cells w' B (natsV (mems n (ofL n l)))) => bOf_ok n (mems n (ofL n l)) B d w' hn mems_lt hC (by omega))
  rw [ofL_mems hv hw] at H13b
  have hI : natsV l = ints (l.map fun (x : Nat) => (x : Int)) := by simp [natsV, ints]
  have H43 := Lib.hid (fun w' (hx : Ex w w') => clone_c A c (l.map fun (x : Nat) => (x : Int)) w' (by rw [← hI]; exact hC.ex hx) (by simp; omega))
  rw [List.length_map] at H43
  have H44 := Lib.hid (fun base v w' ho => sort_c base v (l.map fun (x : Nat) => (x : Int)) w' ho (by simp; omega))
  have H45 := Lib.hid (fun base v w' ho => compact_c base v ((l.map fun (x : Nat) => (x : Int)).mergeSort fun x y => decide (x ≤ y)) w' ho (by simp; omega))
  rw [compact_mems n l h] at H45
  have H22 := Lib.hid (fun A B c d w' hC hD => eqn_same A B c d (mems n (ofL n l)) w' hC hD (by omega))
  have H18 := Lib.hid (fun A B c d w' hC hD => same_same n A B c d (ofL n l) w' hC hD (by omega))
  have H25 := Lib.hid (fun w' B d (hC : Cells w' B (u64s (ofL n l))) => bCount_c n B d (ofL n l) w' hC hw)
  rw [cntB_ok hv] at H25
  have H33 := Lib.hid (fun w' i B d (hC : Cells w' B (u64s (ofL n l))) => bHas_c n i B d (ofL n l) w' hC hw (by omega))
  have HIn : Hid (∀ k, k < l.length → hasB n (ofL n l) ((l.getD k 0 : Nat) : Int) = true) := fun k hk => by
    have hm : l.getD k 0 ∈ l := by rw [List.getD_eq_getElem?_getD, List.getElem?_eq_getElem hk]; exact List.getElem_mem _
    exact hasB_in hv (h _ hm) (by rw [bit_ofL h]; simpa using hm)
  have HN1 : Hid (hasB n (ofL n l) (-1) = false) := hasB_neg (by omega)
  have HN2 : Hid (hasB n (ofL n l) n = false) := hasB_big (by omega)
  have HA := Lib.hid (fun w' (hx : Ex w w') i (h : i < l.length) => nats_at (hC.ex hx) i h)
  have HOC : Hid (∀ w' base v, Owns w' base v ((mems n (ofL n l)).map fun (x : Nat) => (x : Int)) → ∃ B d, v = .slice B (mems n (ofL n l)).length d ∧ Cells w' B (natsV (mems n (ofL n l)))) := fun w' base v ho => by
    obtain ⟨B, d, e, hc, -⟩ := own_cells ho
    rw [List.length_map] at e
    refine ⟨B, d, e, ?_⟩
    have : natsV (mems n (ofL n l)) = ints ((mems n (ofL n l)).map fun (x : Nat) => (x : Int)) := by simp [natsV, ints]
    rw [this]
    exact hc
  clear hT hC hn h hv hw hI
  generalize (mems n (ofL n l)).map (fun (x : Nat) => (x : Int)) = zs at *
  generalize mems n (ofL n l) = ms at *
  generalize ofL n l = ws at *
  generalize l.length = m at *
  generalize (l.map fun (x : Nat) => (x : Int)) = xs at *
  go_enter Tryd.func10, Tryd.ntmps10
  go_wp2_with fail
  refine (HAw.out _ (Ex.refl _)).mono ?_
  rintro e w' ⟨rfl, y, rfl⟩
  go_wp2_with fail
  refine (H13.out _ (by repeat (first | exact Ex.refl _ | apply Ex.ext | apply Ex.alloc))).mono ?_
  rintro e w1 ⟨g1, rfl, -, h1, hx⟩
  have hE1 := ((Ex.refl w).ext y).trans hx
  clear hx
  have X := Lib.hid (And.intro (hE1.alloc (.cells #[.int .i64 n, .slice (some ⟨g1, 0, none⟩) ws.length ws.length] 24)) (And.intro (h1.alloc (.cells #[.int .i64 n, .slice (some ⟨g1, 0, none⟩) ws.length ws.length] 24)) (Blk.new w1 24 [.int .i64 n, .slice (some ⟨g1, 0, none⟩) ws.length ws.length])))
  clear hE1 h1
  go_wp2_with fail
  generalize hV : w1.alloc (.cells #[.int .i64 n, .slice (some ⟨g1, 0, none⟩) ws.length ws.length] 24) = V1 at *
  generalize w1.heap.size = b5 at *
  clear hV
  obtain ⟨hE1, h1, q5⟩ := X.out
  clear X
  refine (H14.out _ hE1 _ _ h1.cells).mono ?_
  rintro e w2 ⟨Bm, dm, rfl, hM, hx⟩
  have X := Lib.hid (And.intro (hE1.trans hx) (And.intro (h1.ex hx) (And.intro (q5.ex hx) hM)))
  clear hE1 h1 q5 hx hM
  go_wp2_with fail
  obtain ⟨hE1, h1, q5, hM⟩ := X.out
  clear X
  refine (H13b.out _ _ _ hM).mono ?_
  rintro e w3 ⟨g2, rfl, -, h2, hx⟩
  have X := Lib.hid (And.intro ((hE1.trans hx).alloc (.cells #[.int .i64 n, .slice (some ⟨g2, 0, none⟩) ws.length ws.length] 24)) (And.intro ((h1.ex hx).alloc (.cells #[.int .i64 n, .slice (some ⟨g2, 0, none⟩) ws.length ws.length] 24)) (And.intro ((q5.ex hx).alloc (.cells #[.int .i64 n, .slice (some ⟨g2, 0, none⟩) ws.length ws.length] 24)) (And.intro ((hM.ex hx).ex ((Ex.refl _).alloc (.cells #[.int .i64 n, .slice (some ⟨g2, 0, none⟩) ws.length ws.length] 24))) (And.intro (h2.alloc (.cells #[.int .i64 n, .slice (some ⟨g2, 0, none⟩) ws.length ws.length] 24)) (Blk.new w3 24 [.int .i64 n, .slice (some ⟨g2, 0, none⟩) ws.length ws.length]))))))
  clear hE1 h1 q5 hM h2 hx
  go_wp2_with fail
  generalize hV : w3.alloc (.cells #[.int .i64 n, .slice (some ⟨g2, 0, none⟩) ws.length ws.length] 24) = V3 at *
  generalize w3.heap.size = b9 at *
  clear hV
  obtain ⟨hE1, h1, q5, hM, h2, q9⟩ := X.out
  clear X
  refine (H43.out _ hE1).mono ?_
  rintro e w4 ⟨v4, rfl, ho, hx⟩
  have X := Lib.hid (And.intro ho hx)
  have X2 := Lib.hid (And.intro hE1 (And.intro h1 (And.intro q5 (And.intro hM (And.intro h2 q9)))))
  clear hE1 h1 q5 hM h2 q9 ho hx
  go_wp2_with fail
  obtain ⟨ho, hx⟩ := X.out
  clear X
  refine (H44.out _ _ _ ho).mono ?_
  rintro e w5 ⟨rfl, ho5, hf⟩
  have X := Lib.hid (And.intro ho5 (hf V3 hx (Nat.le_refl _)))
  clear ho hx hf ho5
  go_wp2_with fail
  obtain ⟨ho, hx⟩ := X.out
  clear X
  refine (H45.out _ _ _ ho).mono ?_
  rintro e w6 ⟨v6, rfl, ho6, hf⟩
  have hx6 := hf V3 hx (Nat.le_refl _)
  obtain ⟨B6, d6, rfl, h6⟩ := HOC.out _ _ _ ho6
  obtain ⟨hE1, h1, q5, hM, h2, q9⟩ := X2.out
  have l5 := q5.lt
  have l9 := q9.lt
  have p5 := q5.cell 0
  have o5 := q5.cell 1
  have p9 := q9.cell 0
  have o9 := q9.cell 1
  simp only [List.getElem?_cons_zero, List.getElem?_cons_succ] at p5 o5 p9 o9
  have lx := hx6.below.size
  have r5 : b5 < w6.heap.size := by omega
  have r9 : b9 < w6.heap.size := by omega
  have P5 := (hx6.below.cell (p := ⟨b5, 0, none⟩) l5).trans p5
  have O5 := (hx6.below.cell (p := ⟨b5, 1, none⟩) l5).trans o5
  have P9 := (hx6.below.cell (p := ⟨b9, 0, none⟩) l9).trans p9
  have O9 := (hx6.below.cell (p := ⟨b9, 1, none⟩) l9).trans o9
  have Y0 := Lib.hid (fun (w' : World) (hx : Ex w6 w') => (hE1.trans hx6).trans hx)
  have Y1 := Lib.hid (fun (w' : World) (hx : Ex w6 w') => ((h1.ex hx6).ex hx).cells)
  have Y2 := Lib.hid (fun (w' : World) (hx : Ex w6 w') => ((h2.ex hx6).ex hx).cells)
  have Y3 := Lib.hid (fun (w' : World) (hx : Ex w6 w') => (hM.ex hx6).ex hx)
  have Y4 := Lib.hid (fun (w' : World) (hx : Ex w6 w') => h6.ex hx)
  clear X2 hE1 h1 q5 hM h2 q9 p5 o5 p9 o9 l5 l9 lx hx6 hf ho6 h6 ho hx
  go_wp2_with fail
  refine (H22.out _ _ _ _ _ (Y3.out _ (Ex.refl _)) (Y4.out _ (Ex.refl _))).mono ?_
  rintro e w' ⟨rfl, z1, rfl⟩
  go_wp2_with fail
  refine (Calls.up (W := w6) ⟨_, rfl⟩ (H18.out _ _ _ _ _ (Y2.out _ ⟨_, rfl⟩) (Y1.out _ ⟨_, rfl⟩))).mono ?_
  rintro e w' ⟨rfl, z2, rfl⟩
  go_wp2_with fail
  refine (Calls.up (W := w6) ⟨_, rfl⟩ (H25.out _ _ _ (Y1.out _ ⟨_, rfl⟩))).mono ?_
  rintro e w' ⟨rfl, z3, rfl⟩
  go_wp2_with fail
  go_loopw [13, 76] (fun _ i wr => ∃ k : Nat, i = .int .i64 k ∧ k ≤ m ∧ Ex w6 wr) (fun _ i _ => m - (intOf i).toNat)
  case atStart => exact ⟨0, rfl, by omega, ⟨_, rfl⟩⟩
  case round =>
    obtain ⟨k, rfl, hk, z, rfl⟩ := hrel
    by_cases hlt : k < m
    · obtain ⟨ad, rfl, hb, hc⟩ := HA.out _ (Y0.out _ ⟨z, rfl⟩) k hlt
      have HH := Lib.hid (HIn.out k hlt)
      have H1 := Lib.hid (H33.out (ext w6 z) ((l.getD k 0 : Nat) : Int) _ ws.length (Y1.out _ ⟨z, rfl⟩))
      rw [HH.out] at H1
      generalize l.getD k 0 = x at *
      go_wp2_with fail
      refine (Calls.up (W := w6) ⟨_, rfl⟩ H1.out).mono ?_
      rintro e w' ⟨rfl, z', rfl⟩
      go_wp2
      go_roundw
      case rel => exact ⟨k + 1, by go_num, by omega, ⟨_, rfl⟩⟩
      case measure => simp [intOf]; omega
    · obtain rfl : k = m := by omega
      go_wp2_with fail
      refine (Calls.up (W := w6) ⟨_, rfl⟩ (H33.out _ _ _ _ (Y1.out _ ⟨_, rfl⟩))).mono ?_
      rw [HN1.out]
      rintro e w' ⟨rfl, z4, rfl⟩
      go_wp2_with fail
      refine (Calls.up (W := w6) ⟨_, rfl⟩ (H33.out _ _ _ _ (Y1.out _ ⟨_, rfl⟩))).mono ?_
      rw [HN2.out]
      rintro e w' ⟨rfl, z5, rfl⟩
      go_wp2
      go_ret
      exact Ret.mk rfl (Y0.out _ ⟨_, rfl⟩)
/-- the law of a set and its members, whatever the arguments -/
theorem back_c (N : Int) (A : Option Addr) (c : Nat) (l : List Int) (w : World) (hT : Tab w) (hC : Cells w A (ints l)) :
    Calls Tryd.prog 10 #[.int .i64 N, .slice A l.length c] w (Ret w (.bool true)) := by
  by_cases hl : l.length ≤ 600
  · by_cases hb : N < 0 ∨ 512 < N ∨ ∃ x ∈ l, ¬ (0 ≤ x ∧ x < N)
    · exact back_bad N l A c w hT hC hl hb
    · obtain ⟨n, rfl⟩ : ∃ n : Nat, N = n := ⟨N.toNat, by omega⟩
      have hall : ∀ x ∈ l, 0 ≤ x ∧ x < (n : Int) := fun x hx => Classical.byContradiction fun h => hb (.inr (.inr ⟨x, hx, h⟩))
      obtain ⟨l', e1, e2, e3⟩ := nat_list n l hall
      rw [e1] at hC
      rw [e2]
      exact back_good n l' A c w hT hC (by omega) (by omega) e3
  · exact back_guard N A _ c w hT (by omega)
end Go.Proofs.YtfinldppcdkeoaaDoor
