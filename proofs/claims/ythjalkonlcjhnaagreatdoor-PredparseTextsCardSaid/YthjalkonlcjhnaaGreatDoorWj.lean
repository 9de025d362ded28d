/-
  The ways of the reference's parse, walked. The reference's parse at comparisons and chains, walked. The reference's parse at chains, walked.
  Conditions: as each theorem says.
-/
import Derived.Test.YthjalkonlcjhnaaGreatDoorWg
namespace Go.Proofs.YthjalkonlcjhnaaGreatDoor
open Go.RowKit
set_option maxRecDepth 100000 in
set_option maxHeartbeats 6400000 in
theorem p2_no_bad (ws : List Wd) (b o c i : Nat) (x0 : Wd) (w : World) (j : Nat) (hrw : Rw w b o (wdsV ws)) (hlen : ws.length ≤ 100000) (hi : i < ws.length) (hx0 : ws[i]? = some x0) (h0 : firK pfK (pfP x0) = 0) (hp : ∀ w', Ex w w' → Calls Tryz.prog 53 #[.slice (some ⟨b, o, none⟩) ws.length c, .int .i64 (i : Nat), .int .i64 3] w' (Ret w' (triV 0 0 ⟨#[]⟩ j false))) :
    Calls Tryz.prog 53 #[.slice (some ⟨b, o, none⟩) ws.length c, .int .i64 (i : Nat), .int .i64 2] w (Ret w (triV 0 0 ⟨#[]⟩ j false)) := by
  have HW := Lib.hid hrw
  have mi : (i : Int) < (ws.length : Int) := by omega
  have mm : (0 : Int) ≤ (i : Int) := by omega
  have mw : (ws.length : Int) ≤ 100000 := by omega
  have HX0 := Lib.hid hx0
  obtain ⟨TB0, hTB⟩ : ∃ T : ByteArray, T = ⟨x0.text.toArray⟩ := ⟨_, rfl⟩
  have HT0 := Lib.hid hTB
  clear hTB
  have HS0 : Hid (Ex w (w.alloc (.cells #[.int .i64 0, .int .i64 0, .int .i64 0, .int .i64 0, .string ⟨#[]⟩, .slice none 0 0] 24)) ∧ Zero6 (w.alloc (.cells #[.int .i64 0, .int .i64 0, .int .i64 0, .int .i64 0, .string ⟨#[]⟩, .slice none 0 0] 24)) w.heap.size ∧ w.heap.size < (w.alloc (.cells #[.int .i64 0, .int .i64 0, .int .i64 0, .int .i64 0, .string ⟨#[]⟩, .slice none 0 0] 24)).heap.size) := ⟨(Ex.refl w).alloc _, Blk.new w _ _, by simp⟩
  have HC : Hid (∀ w, Calls Tryz.prog 81 #[.agg #[.int .i64 (x0.kind : Nat), .string TB0, .int .i64 (x0.pos.1 : Nat), .int .i64 (x0.pos.2 : Nat)]] w (Ret w (.int .i64 0))) := fun w => by
    rw [HT0.out, ← h0]
    exact rPrefix_c x0 w
  clear h0
  have HP := Lib.hid hp
  clear hp
  unfold triV at HP
  obtain ⟨lb, w00, w01, w02, w03⟩ := word_cells (HW.out.exx (Ex.refl w)) HX0.out
  rw [← HT0.out] at w01
  clear hrw hlen hi hx0
  go_enter Tryz.func53, Tryz.ntmps53
  go_wp2_with fail
  refine (HC.out _).mono ?_
  rintro e W1 ⟨rfl, hz⟩
  have HS1 : Hid (Ex w W1 ∧ Zero6 W1 w.heap.size ∧ w.heap.size < W1.heap.size) := ⟨(HS0.out.1).trans hz, (HS0.out.2.1).ex hz, ((HS0.out.2.1).ex hz).lt⟩
  clear hz 
  clear lb w00 w01 w02 w03
  have rz := HS1.out.2.1
  have lz := rz.lt
  have r0 := rz.cell 0
  have r1 := rz.cell 1
  have r2 := rz.cell 2
  have r3 := rz.cell 3
  have r4 := rz.cell 4
  have r5 := rz.cell 5
  have f0 := rz.frozen 0
  have f1 := rz.frozen 1
  have f2 := rz.frozen 2
  have f3 := rz.frozen 3
  have f4 := rz.frozen 4
  have f5 := rz.frozen 5
  simp only [List.getElem?_cons_zero, List.getElem?_cons_succ] at r0 r1 r2 r3 r4 r5
  clear rz
  go_wp2_with fail
  refine (HP.out _ (HS1.out.1)).mono ?_
  rintro e W2 ⟨rfl, hz⟩
  have HS2 : Hid (Ex w W2 ∧ Zero6 W2 w.heap.size ∧ w.heap.size < W2.heap.size) := ⟨(HS1.out.1).trans hz, (HS1.out.2.1).ex hz, ((HS1.out.2.1).ex hz).lt⟩
  clear hz
  clear lz r0 r1 r2 r3 r4 r5 f0 f1 f2 f3 f4 f5
  have rz := HS2.out.2.1
  have lz := rz.lt
  have r0 := rz.cell 0
  have r1 := rz.cell 1
  have r2 := rz.cell 2
  have r3 := rz.cell 3
  have r4 := rz.cell 4
  have r5 := rz.cell 5
  have f0 := rz.frozen 0
  have f1 := rz.frozen 1
  have f2 := rz.frozen 2
  have f3 := rz.frozen 3
  have f4 := rz.frozen 4
  have f5 := rz.frozen 5
  simp only [List.getElem?_cons_zero, List.getElem?_cons_succ] at r0 r1 r2 r3 r4 r5
  clear rz
  go_wp2_with fail
  refine bodyPost_ret (results_par rfl rfl rfl rfl ((blk6 HS2.out.2.1 _ _ _ _ _ _))) rfl ?_
  exact ⟨rfl, (ex6 (Nat.le_refl _) HS2.out.1 _ _ _ _ _ _)⟩
set_option maxRecDepth 100000 in
set_option maxHeartbeats 6400000 in
theorem p2_yes_bad (ws : List Wd) (b o c i : Nat) (x0 : Wd) (w : World) (j : Nat) (kk : Int) (hrw : Rw w b o (wdsV ws)) (hlen : ws.length ≤ 100000) (hi : i < ws.length) (hx0 : ws[i]? = some x0) (h0 : firK pfK (pfP x0) = kk) (hk : kk ≠ 0) (hp : ∀ w', Ex w w' → Calls Tryz.prog 53 #[.slice (some ⟨b, o, none⟩) ws.length c, .int .i64 ((i : Int) + 1), .int .i64 2] w' (Ret w' (triV 0 0 ⟨#[]⟩ j false))) :
    Calls Tryz.prog 53 #[.slice (some ⟨b, o, none⟩) ws.length c, .int .i64 (i : Nat), .int .i64 2] w (Ret w (triV 0 0 ⟨#[]⟩ j false)) := by
  have HW := Lib.hid hrw
  have mi : (i : Int) < (ws.length : Int) := by omega
  have mm : (0 : Int) ≤ (i : Int) := by omega
  have mw : (ws.length : Int) ≤ 100000 := by omega
  have HX0 := Lib.hid hx0
  obtain ⟨TB0, hTB⟩ : ∃ T : ByteArray, T = ⟨x0.text.toArray⟩ := ⟨_, rfl⟩
  have HT0 := Lib.hid hTB
  clear hTB
  have HS0 : Hid (Ex w (w.alloc (.cells #[.int .i64 0, .int .i64 0, .int .i64 0, .int .i64 0, .string ⟨#[]⟩, .slice none 0 0] 24)) ∧ Zero6 (w.alloc (.cells #[.int .i64 0, .int .i64 0, .int .i64 0, .int .i64 0, .string ⟨#[]⟩, .slice none 0 0] 24)) w.heap.size ∧ w.heap.size < (w.alloc (.cells #[.int .i64 0, .int .i64 0, .int .i64 0, .int .i64 0, .string ⟨#[]⟩, .slice none 0 0] 24)).heap.size) := ⟨(Ex.refl w).alloc _, Blk.new w _ _, by simp⟩
  have HC : Hid (∀ w, Calls Tryz.prog 81 #[.agg #[.int .i64 (x0.kind : Nat), .string TB0, .int .i64 (x0.pos.1 : Nat), .int .i64 (x0.pos.2 : Nat)]] w (Ret w (.int .i64 kk))) := fun w => by
    rw [HT0.out, ← h0]
    exact rPrefix_c x0 w
  clear h0
  have ek : (kk == 0) = false := beq_eq_false_iff_ne.2 hk
  clear hk
  have HP := Lib.hid hp
  clear hp
  unfold triV at HP
  obtain ⟨lb, w00, w01, w02, w03⟩ := word_cells (HW.out.exx (Ex.refl w)) HX0.out
  rw [← HT0.out] at w01
  clear hrw hlen hi hx0
  go_enter Tryz.func53, Tryz.ntmps53
  go_wp2_with fail
  refine (HC.out _).mono ?_
  rintro e W1 ⟨rfl, hz⟩
  have HS1 : Hid (Ex w W1 ∧ Zero6 W1 w.heap.size ∧ w.heap.size < W1.heap.size) := ⟨(HS0.out.1).trans hz, (HS0.out.2.1).ex hz, ((HS0.out.2.1).ex hz).lt⟩
  clear hz 
  clear lb w00 w01 w02 w03
  have rz := HS1.out.2.1
  have lz := rz.lt
  have r0 := rz.cell 0
  have r1 := rz.cell 1
  have r2 := rz.cell 2
  have r3 := rz.cell 3
  have r4 := rz.cell 4
  have r5 := rz.cell 5
  have f0 := rz.frozen 0
  have f1 := rz.frozen 1
  have f2 := rz.frozen 2
  have f3 := rz.frozen 3
  have f4 := rz.frozen 4
  have f5 := rz.frozen 5
  simp only [List.getElem?_cons_zero, List.getElem?_cons_succ] at r0 r1 r2 r3 r4 r5
  clear rz
  go_wp2_with fail
  refine (HP.out _ (HS1.out.1)).mono ?_
  rintro e W2 ⟨rfl, hz⟩
  have HS2 : Hid (Ex w W2 ∧ Zero6 W2 w.heap.size ∧ w.heap.size < W2.heap.size) := ⟨(HS1.out.1).trans hz, (HS1.out.2.1).ex hz, ((HS1.out.2.1).ex hz).lt⟩
  clear hz
  clear lz r0 r1 r2 r3 r4 r5 f0 f1 f2 f3 f4 f5
  have rz := HS2.out.2.1
  have lz := rz.lt
  have r0 := rz.cell 0
  have r1 := rz.cell 1
  have r2 := rz.cell 2
  have r3 := rz.cell 3
  have r4 := rz.cell 4
  have r5 := rz.cell 5
  have f0 := rz.frozen 0
  have f1 := rz.frozen 1
  have f2 := rz.frozen 2
  have f3 := rz.frozen 3
  have f4 := rz.frozen 4
  have f5 := rz.frozen 5
  simp only [List.getElem?_cons_zero, List.getElem?_cons_succ] at r0 r1 r2 r3 r4 r5
  clear rz
  go_wp2_with fail
  refine bodyPost_ret (results_par rfl rfl rfl rfl ((blk6 HS2.out.2.1 _ _ _ _ _ _).alloc _)) rfl ?_
  exact ⟨rfl, (ex6 (Nat.le_refl _) HS2.out.1 _ _ _ _ _ _).alloc _⟩
set_option maxRecDepth 100000 in
set_option maxHeartbeats 6400000 in
theorem p2_no_ok (ws : List Wd) (b o c i : Nat) (x0 : Wd) (w : World) (j : Nat) (t9 : Tr) (hrw : Rw w b o (wdsV ws)) (hlen : ws.length ≤ 100000) (hi : i < ws.length) (hx0 : ws[i]? = some x0) (h0 : firK pfK (pfP x0) = 0) (hp : ∀ w', Ex w w' → Calls Tryz.prog 53 #[.slice (some ⟨b, o, none⟩) ws.length c, .int .i64 (i : Nat), .int .i64 3] w' (TreeAt w' t9 j)) :
    Calls Tryz.prog 53 #[.slice (some ⟨b, o, none⟩) ws.length c, .int .i64 (i : Nat), .int .i64 2] w (TreeAt w t9 j) := by
  have HW := Lib.hid hrw
  have mi : (i : Int) < (ws.length : Int) := by omega
  have mm : (0 : Int) ≤ (i : Int) := by omega
  have mw : (ws.length : Int) ≤ 100000 := by omega
  have HX0 := Lib.hid hx0
  obtain ⟨TB0, hTB⟩ : ∃ T : ByteArray, T = ⟨x0.text.toArray⟩ := ⟨_, rfl⟩
  have HT0 := Lib.hid hTB
  clear hTB
  have HS0 : Hid (Ex w (w.alloc (.cells #[.int .i64 0, .int .i64 0, .int .i64 0, .int .i64 0, .string ⟨#[]⟩, .slice none 0 0] 24)) ∧ Zero6 (w.alloc (.cells #[.int .i64 0, .int .i64 0, .int .i64 0, .int .i64 0, .string ⟨#[]⟩, .slice none 0 0] 24)) w.heap.size ∧ w.heap.size < (w.alloc (.cells #[.int .i64 0, .int .i64 0, .int .i64 0, .int .i64 0, .string ⟨#[]⟩, .slice none 0 0] 24)).heap.size) := ⟨(Ex.refl w).alloc _, Blk.new w _ _, by simp⟩
  have HC : Hid (∀ w, Calls Tryz.prog 81 #[.agg #[.int .i64 (x0.kind : Nat), .string TB0, .int .i64 (x0.pos.1 : Nat), .int .i64 (x0.pos.2 : Nat)]] w (Ret w (.int .i64 0))) := fun w => by
    rw [HT0.out, ← h0]
    exact rPrefix_c x0 w
  clear h0
  have HP := Lib.hid hp
  clear hp
  unfold TreeAt at HP
  obtain ⟨lb, w00, w01, w02, w03⟩ := word_cells (HW.out.exx (Ex.refl w)) HX0.out
  rw [← HT0.out] at w01
  clear hrw hlen hi hx0
  go_enter Tryz.func53, Tryz.ntmps53
  go_wp2_with fail
  refine (HC.out _).mono ?_
  rintro e W1 ⟨rfl, hz⟩
  have HS1 : Hid (Ex w W1 ∧ Zero6 W1 w.heap.size ∧ w.heap.size < W1.heap.size) := ⟨(HS0.out.1).trans hz, (HS0.out.2.1).ex hz, ((HS0.out.2.1).ex hz).lt⟩
  clear hz 
  clear lb w00 w01 w02 w03
  have rz := HS1.out.2.1
  have lz := rz.lt
  have r0 := rz.cell 0
  have r1 := rz.cell 1
  have r2 := rz.cell 2
  have r3 := rz.cell 3
  have r4 := rz.cell 4
  have r5 := rz.cell 5
  have f0 := rz.frozen 0
  have f1 := rz.frozen 1
  have f2 := rz.frozen 2
  have f3 := rz.frozen 3
  have f4 := rz.frozen 4
  have f5 := rz.frozen 5
  simp only [List.getElem?_cons_zero, List.getElem?_cons_succ] at r0 r1 r2 r3 r4 r5
  clear rz
  go_wp2_with fail
  refine (HP.out _ (HS1.out.1)).mono ?_
  rintro e W2 ⟨k9, n9, p9, q9, s9, A9, m9, c9, rfl, ht9, hz⟩
  have HS2 : Hid (Ex w W2 ∧ Zero6 W2 w.heap.size ∧ w.heap.size < W2.heap.size) := ⟨(HS1.out.1).trans hz, (HS1.out.2.1).ex hz, ((HS1.out.2.1).ex hz).lt⟩
  have HT9 : Hid (TrC (fun b => w.heap.size + 1 ≤ b) W2 t9 (c6 k9 n9 p9 q9 s9 A9 m9 c9)) := ht9.imp (fun b _ h => Nat.le_trans (Nat.succ_le_of_lt HS1.out.2.2) h)
  clear hz ht9
  clear lz r0 r1 r2 r3 r4 r5 f0 f1 f2 f3 f4 f5
  have rz := HS2.out.2.1
  have lz := rz.lt
  have r0 := rz.cell 0
  have r1 := rz.cell 1
  have r2 := rz.cell 2
  have r3 := rz.cell 3
  have r4 := rz.cell 4
  have r5 := rz.cell 5
  have f0 := rz.frozen 0
  have f1 := rz.frozen 1
  have f2 := rz.frozen 2
  have f3 := rz.frozen 3
  have f4 := rz.frozen 4
  have f5 := rz.frozen 5
  simp only [List.getElem?_cons_zero, List.getElem?_cons_succ] at r0 r1 r2 r3 r4 r5
  clear rz
  go_wp2_with fail
  refine bodyPost_ret (results_par rfl rfl rfl rfl (blk6 HS2.out.2.1 _ _ _ _ _ _)) rfl ?_
  exact tree_end (Nat.le_refl _) HT9.out (fun b h => ⟨by omega, by omega⟩) HS2.out.1
set_option maxRecDepth 100000 in
set_option maxHeartbeats 6400000 in
theorem p2_yes_ok (ws : List Wd) (b o c i : Nat) (x0 : Wd) (w : World) (j : Nat) (t9 : Tr) (kk : Int) (hrw : Rw w b o (wdsV ws)) (hlen : ws.length ≤ 100000) (hi : i < ws.length) (hx0 : ws[i]? = some x0) (h0 : firK pfK (pfP x0) = kk) (hk : kk ≠ 0) (hp : ∀ w', Ex w w' → Calls Tryz.prog 53 #[.slice (some ⟨b, o, none⟩) ws.length c, .int .i64 ((i : Int) + 1), .int .i64 2] w' (TreeAt w' t9 j)) :
    Calls Tryz.prog 53 #[.slice (some ⟨b, o, none⟩) ws.length c, .int .i64 (i : Nat), .int .i64 2] w (TreeAt w (nd kk [t9]) j) := by
  have HW := Lib.hid hrw
  have mi : (i : Int) < (ws.length : Int) := by omega
  have mm : (0 : Int) ≤ (i : Int) := by omega
  have mw : (ws.length : Int) ≤ 100000 := by omega
  have HX0 := Lib.hid hx0
  obtain ⟨TB0, hTB⟩ : ∃ T : ByteArray, T = ⟨x0.text.toArray⟩ := ⟨_, rfl⟩
  have HT0 := Lib.hid hTB
  clear hTB
  have HS0 : Hid (Ex w (w.alloc (.cells #[.int .i64 0, .int .i64 0, .int .i64 0, .int .i64 0, .string ⟨#[]⟩, .slice none 0 0] 24)) ∧ Zero6 (w.alloc (.cells #[.int .i64 0, .int .i64 0, .int .i64 0, .int .i64 0, .string ⟨#[]⟩, .slice none 0 0] 24)) w.heap.size ∧ w.heap.size < (w.alloc (.cells #[.int .i64 0, .int .i64 0, .int .i64 0, .int .i64 0, .string ⟨#[]⟩, .slice none 0 0] 24)).heap.size) := ⟨(Ex.refl w).alloc _, Blk.new w _ _, by simp⟩
  have HC : Hid (∀ w, Calls Tryz.prog 81 #[.agg #[.int .i64 (x0.kind : Nat), .string TB0, .int .i64 (x0.pos.1 : Nat), .int .i64 (x0.pos.2 : Nat)]] w (Ret w (.int .i64 kk))) := fun w => by
    rw [HT0.out, ← h0]
    exact rPrefix_c x0 w
  clear h0
  have ek : (kk == 0) = false := beq_eq_false_iff_ne.2 hk
  clear hk
  have HP := Lib.hid hp
  clear hp
  unfold TreeAt at HP
  obtain ⟨lb, w00, w01, w02, w03⟩ := word_cells (HW.out.exx (Ex.refl w)) HX0.out
  rw [← HT0.out] at w01
  clear hrw hlen hi hx0
  go_enter Tryz.func53, Tryz.ntmps53
  go_wp2_with fail
  refine (HC.out _).mono ?_
  rintro e W1 ⟨rfl, hz⟩
  have HS1 : Hid (Ex w W1 ∧ Zero6 W1 w.heap.size ∧ w.heap.size < W1.heap.size) := ⟨(HS0.out.1).trans hz, (HS0.out.2.1).ex hz, ((HS0.out.2.1).ex hz).lt⟩
  clear hz 
  clear lb w00 w01 w02 w03
  have rz := HS1.out.2.1
  have lz := rz.lt
  have r0 := rz.cell 0
  have r1 := rz.cell 1
  have r2 := rz.cell 2
  have r3 := rz.cell 3
  have r4 := rz.cell 4
  have r5 := rz.cell 5
  have f0 := rz.frozen 0
  have f1 := rz.frozen 1
  have f2 := rz.frozen 2
  have f3 := rz.frozen 3
  have f4 := rz.frozen 4
  have f5 := rz.frozen 5
  simp only [List.getElem?_cons_zero, List.getElem?_cons_succ] at r0 r1 r2 r3 r4 r5
  clear rz
  go_wp2_with fail
  refine (HP.out _ (HS1.out.1)).mono ?_
  rintro e W2 ⟨k9, n9, p9, q9, s9, A9, m9, c9, rfl, ht9, hz⟩
  have HS2 : Hid (Ex w W2 ∧ Zero6 W2 w.heap.size ∧ w.heap.size < W2.heap.size) := ⟨(HS1.out.1).trans hz, (HS1.out.2.1).ex hz, ((HS1.out.2.1).ex hz).lt⟩
  have HT9 : Hid (TrC (fun b => w.heap.size + 1 ≤ b) W2 t9 (c6 k9 n9 p9 q9 s9 A9 m9 c9)) := ht9.imp (fun b _ h => Nat.le_trans (Nat.succ_le_of_lt HS1.out.2.2) h)
  clear hz ht9
  clear lz r0 r1 r2 r3 r4 r5 f0 f1 f2 f3 f4 f5
  have rz := HS2.out.2.1
  have lz := rz.lt
  have r0 := rz.cell 0
  have r1 := rz.cell 1
  have r2 := rz.cell 2
  have r3 := rz.cell 3
  have r4 := rz.cell 4
  have r5 := rz.cell 5
  have f0 := rz.frozen 0
  have f1 := rz.frozen 1
  have f2 := rz.frozen 2
  have f3 := rz.frozen 3
  have f4 := rz.frozen 4
  have f5 := rz.frozen 5
  simp only [List.getElem?_cons_zero, List.getElem?_cons_succ] at r0 r1 r2 r3 r4 r5
  clear rz
  have HNd := Lib.hid (fun w => rNode_c kk (some ⟨W2.heap.size + 1, 0, none⟩) 1 1 w)
  have HB9 : Hid (Blk ((W2.alloc (.cells #[.int .i64 k9, .int .i64 n9, .int .i64 p9, .int .i64 q9, .string s9, .slice A9 m9 c9] 24)).alloc (.cells #[.int .i64 k9, .int .i64 n9, .int .i64 p9, .int .i64 q9, .string s9, .slice A9 m9 c9] 24)) (W2.heap.size + 1) 24 (c6 k9 n9 p9 q9 s9 A9 m9 c9)) := Blk.new' _ (by simp) _ _
  have HT1 : Hid (TrC (fun b => w.heap.size + 1 ≤ b) ((W2.alloc (.cells #[.int .i64 k9, .int .i64 n9, .int .i64 p9, .int .i64 q9, .string s9, .slice A9 m9 c9] 24)).alloc (.cells #[.int .i64 k9, .int .i64 n9, .int .i64 p9, .int .i64 q9, .string s9, .slice A9 m9 c9] 24)) (nd kk [t9]) (c6 kk 0 0 0 ⟨#[]⟩ (some ⟨W2.heap.size + 1, 0, none⟩) 1 1)) := TrC.one ((HT9.out.ex ((Ex.refl _).alloc _)).ex ((Ex.refl _).alloc _)) kk HB9.out (by have := HS2.out.2.2; omega)
  go_wp2_with fail
  generalize W2.heap.size + 1 = n8 at *
  refine (HNd.out _).mono ?_
  rintro e W3 ⟨rfl, hz⟩
  have HS3 : Hid (Ex w W3 ∧ Zero6 W3 w.heap.size) := ⟨((HS2.out.1.alloc _).alloc _).trans hz, (((HS2.out.2.1.alloc _).alloc _).ex hz)⟩
  have HT3 := Lib.hid (HT1.out.ex hz)
  clear hz
  clear lz r0 r1 r2 r3 r4 r5 f0 f1 f2 f3 f4 f5
  have rz := HS3.out.2
  have lz := rz.lt
  have r0 := rz.cell 0
  have r1 := rz.cell 1
  have r2 := rz.cell 2
  have r3 := rz.cell 3
  have r4 := rz.cell 4
  have r5 := rz.cell 5
  have f0 := rz.frozen 0
  have f1 := rz.frozen 1
  have f2 := rz.frozen 2
  have f3 := rz.frozen 3
  have f4 := rz.frozen 4
  have f5 := rz.frozen 5
  simp only [List.getElem?_cons_zero, List.getElem?_cons_succ] at r0 r1 r2 r3 r4 r5
  clear rz
  go_wp2_with fail
  refine bodyPost_ret (results_par rfl rfl rfl rfl (blk6 HS3.out.2 _ _ _ _ _ _)) rfl ?_
  exact tree_end (Nat.le_refl _) HT3.out (fun b h => ⟨by omega, by omega⟩) HS3.out.1
set_option maxRecDepth 100000 in
set_option maxHeartbeats 6400000 in
theorem p6_no_bad (ws : List Wd) (b o c i : Nat) (x0 : Wd) (w : World) (j : Nat) (hrw : Rw w b o (wdsV ws)) (hlen : ws.length ≤ 100000) (hi : i < ws.length) (hx0 : ws[i]? = some x0) (h0 : isS x0 [45] = false) (hp : ∀ w', Ex w w' → Calls Tryz.prog 53 #[.slice (some ⟨b, o, none⟩) ws.length c, .int .i64 (i : Nat), .int .i64 7] w' (Ret w' (triV 0 0 ⟨#[]⟩ j false))) :
    Calls Tryz.prog 53 #[.slice (some ⟨b, o, none⟩) ws.length c, .int .i64 (i : Nat), .int .i64 6] w (Ret w (triV 0 0 ⟨#[]⟩ j false)) := by
  have HW := Lib.hid hrw
  have mi : (i : Int) < (ws.length : Int) := by omega
  have mm : (0 : Int) ≤ (i : Int) := by omega
  have mw : (ws.length : Int) ≤ 100000 := by omega
  have HX0 := Lib.hid hx0
  obtain ⟨TB0, hTB⟩ : ∃ T : ByteArray, T = ⟨x0.text.toArray⟩ := ⟨_, rfl⟩
  have HT0 := Lib.hid hTB
  clear hTB
  have HS0 : Hid (Ex w (w.alloc (.cells #[.int .i64 0, .int .i64 0, .int .i64 0, .int .i64 0, .string ⟨#[]⟩, .slice none 0 0] 24)) ∧ Zero6 (w.alloc (.cells #[.int .i64 0, .int .i64 0, .int .i64 0, .int .i64 0, .string ⟨#[]⟩, .slice none 0 0] 24)) w.heap.size ∧ w.heap.size < (w.alloc (.cells #[.int .i64 0, .int .i64 0, .int .i64 0, .int .i64 0, .string ⟨#[]⟩, .slice none 0 0] 24)).heap.size) := ⟨(Ex.refl w).alloc _, Blk.new w _ _, by simp⟩
  have HC : Hid (∀ w, Calls Tryz.prog 83 #[.agg #[.int .i64 (x0.kind : Nat), .string TB0, .int .i64 (x0.pos.1 : Nat), .int .i64 (x0.pos.2 : Nat)], .string ⟨#[45]⟩] w (Ret w (.bool false))) := fun w => by
    rw [HT0.out, ← h0]
    exact rIs_c x0 ⟨#[45]⟩ w
  clear h0
  have HP := Lib.hid hp
  clear hp
  unfold triV at HP
  obtain ⟨lb, w00, w01, w02, w03⟩ := word_cells (HW.out.exx (Ex.refl w)) HX0.out
  rw [← HT0.out] at w01
  clear hrw hlen hi hx0
  go_enter Tryz.func53, Tryz.ntmps53
  go_wp2_with fail
  refine (HC.out _).mono ?_
  rintro e W1 ⟨rfl, hz⟩
  have HS1 : Hid (Ex w W1 ∧ Zero6 W1 w.heap.size ∧ w.heap.size < W1.heap.size) := ⟨(HS0.out.1).trans hz, (HS0.out.2.1).ex hz, ((HS0.out.2.1).ex hz).lt⟩
  clear hz 
  clear lb w00 w01 w02 w03
  have rz := HS1.out.2.1
  have lz := rz.lt
  have r0 := rz.cell 0
  have r1 := rz.cell 1
  have r2 := rz.cell 2
  have r3 := rz.cell 3
  have r4 := rz.cell 4
  have r5 := rz.cell 5
  have f0 := rz.frozen 0
  have f1 := rz.frozen 1
  have f2 := rz.frozen 2
  have f3 := rz.frozen 3
  have f4 := rz.frozen 4
  have f5 := rz.frozen 5
  simp only [List.getElem?_cons_zero, List.getElem?_cons_succ] at r0 r1 r2 r3 r4 r5
  clear rz
  go_wp2_with fail
  refine (HP.out _ (HS1.out.1)).mono ?_
  rintro e W2 ⟨rfl, hz⟩
  have HS2 : Hid (Ex w W2 ∧ Zero6 W2 w.heap.size ∧ w.heap.size < W2.heap.size) := ⟨(HS1.out.1).trans hz, (HS1.out.2.1).ex hz, ((HS1.out.2.1).ex hz).lt⟩
  clear hz
  clear lz r0 r1 r2 r3 r4 r5 f0 f1 f2 f3 f4 f5
  have rz := HS2.out.2.1
  have lz := rz.lt
  have r0 := rz.cell 0
  have r1 := rz.cell 1
  have r2 := rz.cell 2
  have r3 := rz.cell 3
  have r4 := rz.cell 4
  have r5 := rz.cell 5
  have f0 := rz.frozen 0
  have f1 := rz.frozen 1
  have f2 := rz.frozen 2
  have f3 := rz.frozen 3
  have f4 := rz.frozen 4
  have f5 := rz.frozen 5
  simp only [List.getElem?_cons_zero, List.getElem?_cons_succ] at r0 r1 r2 r3 r4 r5
  clear rz
  go_wp2_with fail
  refine bodyPost_ret (results_par rfl rfl rfl rfl ((blk6 HS2.out.2.1 _ _ _ _ _ _))) rfl ?_
  exact ⟨rfl, (ex6 (Nat.le_refl _) HS2.out.1 _ _ _ _ _ _)⟩
set_option maxRecDepth 100000 in
set_option maxHeartbeats 6400000 in
theorem p6_yes_bad (ws : List Wd) (b o c i : Nat) (x0 : Wd) (w : World) (j : Nat) (hrw : Rw w b o (wdsV ws)) (hlen : ws.length ≤ 100000) (hi : i < ws.length) (hx0 : ws[i]? = some x0) (h0 : isS x0 [45] = true) (hp : ∀ w', Ex w w' → Calls Tryz.prog 53 #[.slice (some ⟨b, o, none⟩) ws.length c, .int .i64 ((i : Int) + 1), .int .i64 6] w' (Ret w' (triV 0 0 ⟨#[]⟩ j false))) :
    Calls Tryz.prog 53 #[.slice (some ⟨b, o, none⟩) ws.length c, .int .i64 (i : Nat), .int .i64 6] w (Ret w (triV 0 0 ⟨#[]⟩ j false)) := by
  have HW := Lib.hid hrw
  have mi : (i : Int) < (ws.length : Int) := by omega
  have mm : (0 : Int) ≤ (i : Int) := by omega
  have mw : (ws.length : Int) ≤ 100000 := by omega
  have HX0 := Lib.hid hx0
  obtain ⟨TB0, hTB⟩ : ∃ T : ByteArray, T = ⟨x0.text.toArray⟩ := ⟨_, rfl⟩
  have HT0 := Lib.hid hTB
  clear hTB
  have HS0 : Hid (Ex w (w.alloc (.cells #[.int .i64 0, .int .i64 0, .int .i64 0, .int .i64 0, .string ⟨#[]⟩, .slice none 0 0] 24)) ∧ Zero6 (w.alloc (.cells #[.int .i64 0, .int .i64 0, .int .i64 0, .int .i64 0, .string ⟨#[]⟩, .slice none 0 0] 24)) w.heap.size ∧ w.heap.size < (w.alloc (.cells #[.int .i64 0, .int .i64 0, .int .i64 0, .int .i64 0, .string ⟨#[]⟩, .slice none 0 0] 24)).heap.size) := ⟨(Ex.refl w).alloc _, Blk.new w _ _, by simp⟩
  have HC : Hid (∀ w, Calls Tryz.prog 83 #[.agg #[.int .i64 (x0.kind : Nat), .string TB0, .int .i64 (x0.pos.1 : Nat), .int .i64 (x0.pos.2 : Nat)], .string ⟨#[45]⟩] w (Ret w (.bool true))) := fun w => by
    rw [HT0.out, ← h0]
    exact rIs_c x0 ⟨#[45]⟩ w
  clear h0
  have HP := Lib.hid hp
  clear hp
  unfold triV at HP
  obtain ⟨lb, w00, w01, w02, w03⟩ := word_cells (HW.out.exx (Ex.refl w)) HX0.out
  rw [← HT0.out] at w01
  clear hrw hlen hi hx0
  go_enter Tryz.func53, Tryz.ntmps53
  go_wp2_with fail
  refine (HC.out _).mono ?_
  rintro e W1 ⟨rfl, hz⟩
  have HS1 : Hid (Ex w W1 ∧ Zero6 W1 w.heap.size ∧ w.heap.size < W1.heap.size) := ⟨(HS0.out.1).trans hz, (HS0.out.2.1).ex hz, ((HS0.out.2.1).ex hz).lt⟩
  clear hz 
  clear lb w00 w01 w02 w03
  have rz := HS1.out.2.1
  have lz := rz.lt
  have r0 := rz.cell 0
  have r1 := rz.cell 1
  have r2 := rz.cell 2
  have r3 := rz.cell 3
  have r4 := rz.cell 4
  have r5 := rz.cell 5
  have f0 := rz.frozen 0
  have f1 := rz.frozen 1
  have f2 := rz.frozen 2
  have f3 := rz.frozen 3
  have f4 := rz.frozen 4
  have f5 := rz.frozen 5
  simp only [List.getElem?_cons_zero, List.getElem?_cons_succ] at r0 r1 r2 r3 r4 r5
  clear rz
  go_wp2_with fail
  refine (HP.out _ (HS1.out.1)).mono ?_
  rintro e W2 ⟨rfl, hz⟩
  have HS2 : Hid (Ex w W2 ∧ Zero6 W2 w.heap.size ∧ w.heap.size < W2.heap.size) := ⟨(HS1.out.1).trans hz, (HS1.out.2.1).ex hz, ((HS1.out.2.1).ex hz).lt⟩
  clear hz
  clear lz r0 r1 r2 r3 r4 r5 f0 f1 f2 f3 f4 f5
  have rz := HS2.out.2.1
  have lz := rz.lt
  have r0 := rz.cell 0
  have r1 := rz.cell 1
  have r2 := rz.cell 2
  have r3 := rz.cell 3
  have r4 := rz.cell 4
  have r5 := rz.cell 5
  have f0 := rz.frozen 0
  have f1 := rz.frozen 1
  have f2 := rz.frozen 2
  have f3 := rz.frozen 3
  have f4 := rz.frozen 4
  have f5 := rz.frozen 5
  simp only [List.getElem?_cons_zero, List.getElem?_cons_succ] at r0 r1 r2 r3 r4 r5
  clear rz
  go_wp2_with fail
  refine bodyPost_ret (results_par rfl rfl rfl rfl ((blk6 HS2.out.2.1 _ _ _ _ _ _).alloc _)) rfl ?_
  exact ⟨rfl, (ex6 (Nat.le_refl _) HS2.out.1 _ _ _ _ _ _).alloc _⟩
set_option maxRecDepth 100000 in
set_option maxHeartbeats 6400000 in
theorem p6_no_ok (ws : List Wd) (b o c i : Nat) (x0 : Wd) (w : World) (j : Nat) (t9 : Tr) (hrw : Rw w b o (wdsV ws)) (hlen : ws.length ≤ 100000) (hi : i < ws.length) (hx0 : ws[i]? = some x0) (h0 : isS x0 [45] = false) (hp : ∀ w', Ex w w' → Calls Tryz.prog 53 #[.slice (some ⟨b, o, none⟩) ws.length c, .int .i64 (i : Nat), .int .i64 7] w' (TreeAt w' t9 j)) :
    Calls Tryz.prog 53 #[.slice (some ⟨b, o, none⟩) ws.length c, .int .i64 (i : Nat), .int .i64 6] w (TreeAt w t9 j) := by
  have HW := Lib.hid hrw
  have mi : (i : Int) < (ws.length : Int) := by omega
  have mm : (0 : Int) ≤ (i : Int) := by omega
  have mw : (ws.length : Int) ≤ 100000 := by omega
  have HX0 := Lib.hid hx0
  obtain ⟨TB0, hTB⟩ : ∃ T : ByteArray, T = ⟨x0.text.toArray⟩ := ⟨_, rfl⟩
  have HT0 := Lib.hid hTB
  clear hTB
  have HS0 : Hid (Ex w (w.alloc (.cells #[.int .i64 0, .int .i64 0, .int .i64 0, .int .i64 0, .string ⟨#[]⟩, .slice none 0 0] 24)) ∧ Zero6 (w.alloc (.cells #[.int .i64 0, .int .i64 0, .int .i64 0, .int .i64 0, .string ⟨#[]⟩, .slice none 0 0] 24)) w.heap.size ∧ w.heap.size < (w.alloc (.cells #[.int .i64 0, .int .i64 0, .int .i64 0, .int .i64 0, .string ⟨#[]⟩, .slice none 0 0] 24)).heap.size) := ⟨(Ex.refl w).alloc _, Blk.new w _ _, by simp⟩
  have HC : Hid (∀ w, Calls Tryz.prog 83 #[.agg #[.int .i64 (x0.kind : Nat), .string TB0, .int .i64 (x0.pos.1 : Nat), .int .i64 (x0.pos.2 : Nat)], .string ⟨#[45]⟩] w (Ret w (.bool false))) := fun w => by
    rw [HT0.out, ← h0]
    exact rIs_c x0 ⟨#[45]⟩ w
  clear h0
  have HP := Lib.hid hp
  clear hp
  unfold TreeAt at HP
  obtain ⟨lb, w00, w01, w02, w03⟩ := word_cells (HW.out.exx (Ex.refl w)) HX0.out
  rw [← HT0.out] at w01
  clear hrw hlen hi hx0
  go_enter Tryz.func53, Tryz.ntmps53
  go_wp2_with fail
  refine (HC.out _).mono ?_
  rintro e W1 ⟨rfl, hz⟩
  have HS1 : Hid (Ex w W1 ∧ Zero6 W1 w.heap.size ∧ w.heap.size < W1.heap.size) := ⟨(HS0.out.1).trans hz, (HS0.out.2.1).ex hz, ((HS0.out.2.1).ex hz).lt⟩
  clear hz 
  clear lb w00 w01 w02 w03
  have rz := HS1.out.2.1
  have lz := rz.lt
  have r0 := rz.cell 0
  have r1 := rz.cell 1
  have r2 := rz.cell 2
  have r3 := rz.cell 3
  have r4 := rz.cell 4
  have r5 := rz.cell 5
  have f0 := rz.frozen 0
  have f1 := rz.frozen 1
  have f2 := rz.frozen 2
  have f3 := rz.frozen 3
  have f4 := rz.frozen 4
  have f5 := rz.frozen 5
  simp only [List.getElem?_cons_zero, List.getElem?_cons_succ] at r0 r1 r2 r3 r4 r5
  clear rz
  go_wp2_with fail
  refine (HP.out _ (HS1.out.1)).mono ?_
  rintro e W2 ⟨k9, n9, p9, q9, s9, A9, m9, c9, rfl, ht9, hz⟩
  have HS2 : Hid (Ex w W2 ∧ Zero6 W2 w.heap.size ∧ w.heap.size < W2.heap.size) := ⟨(HS1.out.1).trans hz, (HS1.out.2.1).ex hz, ((HS1.out.2.1).ex hz).lt⟩
  have HT9 : Hid (TrC (fun b => w.heap.size + 1 ≤ b) W2 t9 (c6 k9 n9 p9 q9 s9 A9 m9 c9)) := ht9.imp (fun b _ h => Nat.le_trans (Nat.succ_le_of_lt HS1.out.2.2) h)
  clear hz ht9
  clear lz r0 r1 r2 r3 r4 r5 f0 f1 f2 f3 f4 f5
  have rz := HS2.out.2.1
  have lz := rz.lt
  have r0 := rz.cell 0
  have r1 := rz.cell 1
  have r2 := rz.cell 2
  have r3 := rz.cell 3
  have r4 := rz.cell 4
  have r5 := rz.cell 5
  have f0 := rz.frozen 0
  have f1 := rz.frozen 1
  have f2 := rz.frozen 2
  have f3 := rz.frozen 3
  have f4 := rz.frozen 4
  have f5 := rz.frozen 5
  simp only [List.getElem?_cons_zero, List.getElem?_cons_succ] at r0 r1 r2 r3 r4 r5
  clear rz
  go_wp2_with fail
  refine bodyPost_ret (results_par rfl rfl rfl rfl (blk6 HS2.out.2.1 _ _ _ _ _ _)) rfl ?_
  exact tree_end (Nat.le_refl _) HT9.out (fun b h => ⟨by omega, by omega⟩) HS2.out.1
set_option maxRecDepth 100000 in
set_option maxHeartbeats 6400000 in
theorem p6_yes_ok (ws : List Wd) (b o c i : Nat) (x0 : Wd) (w : World) (j : Nat) (t9 : Tr) (hrw : Rw w b o (wdsV ws)) (hlen : ws.length ≤ 100000) (hi : i < ws.length) (hx0 : ws[i]? = some x0) (h0 : isS x0 [45] = true) (hp : ∀ w', Ex w w' → Calls Tryz.prog 53 #[.slice (some ⟨b, o, none⟩) ws.length c, .int .i64 ((i : Int) + 1), .int .i64 6] w' (TreeAt w' t9 j)) :
    Calls Tryz.prog 53 #[.slice (some ⟨b, o, none⟩) ws.length c, .int .i64 (i : Nat), .int .i64 6] w (TreeAt w (nd 5 [t9]) j) := by
  have HW := Lib.hid hrw
  have mi : (i : Int) < (ws.length : Int) := by omega
  have mm : (0 : Int) ≤ (i : Int) := by omega
  have mw : (ws.length : Int) ≤ 100000 := by omega
  have HX0 := Lib.hid hx0
  obtain ⟨TB0, hTB⟩ : ∃ T : ByteArray, T = ⟨x0.text.toArray⟩ := ⟨_, rfl⟩
  have HT0 := Lib.hid hTB
  clear hTB
  have HS0 : Hid (Ex w (w.alloc (.cells #[.int .i64 0, .int .i64 0, .int .i64 0, .int .i64 0, .string ⟨#[]⟩, .slice none 0 0] 24)) ∧ Zero6 (w.alloc (.cells #[.int .i64 0, .int .i64 0, .int .i64 0, .int .i64 0, .string ⟨#[]⟩, .slice none 0 0] 24)) w.heap.size ∧ w.heap.size < (w.alloc (.cells #[.int .i64 0, .int .i64 0, .int .i64 0, .int .i64 0, .string ⟨#[]⟩, .slice none 0 0] 24)).heap.size) := ⟨(Ex.refl w).alloc _, Blk.new w _ _, by simp⟩
  have HC : Hid (∀ w, Calls Tryz.prog 83 #[.agg #[.int .i64 (x0.kind : Nat), .string TB0, .int .i64 (x0.pos.1 : Nat), .int .i64 (x0.pos.2 : Nat)], .string ⟨#[45]⟩] w (Ret w (.bool true))) := fun w => by
    rw [HT0.out, ← h0]
    exact rIs_c x0 ⟨#[45]⟩ w
  clear h0
  have HP := Lib.hid hp
  clear hp
  unfold TreeAt at HP
  obtain ⟨lb, w00, w01, w02, w03⟩ := word_cells (HW.out.exx (Ex.refl w)) HX0.out
  rw [← HT0.out] at w01
  clear hrw hlen hi hx0
  go_enter Tryz.func53, Tryz.ntmps53
  go_wp2_with fail
  refine (HC.out _).mono ?_
  rintro e W1 ⟨rfl, hz⟩
  have HS1 : Hid (Ex w W1 ∧ Zero6 W1 w.heap.size ∧ w.heap.size < W1.heap.size) := ⟨(HS0.out.1).trans hz, (HS0.out.2.1).ex hz, ((HS0.out.2.1).ex hz).lt⟩
  clear hz 
  clear lb w00 w01 w02 w03
  have rz := HS1.out.2.1
  have lz := rz.lt
  have r0 := rz.cell 0
  have r1 := rz.cell 1
  have r2 := rz.cell 2
  have r3 := rz.cell 3
  have r4 := rz.cell 4
  have r5 := rz.cell 5
  have f0 := rz.frozen 0
  have f1 := rz.frozen 1
  have f2 := rz.frozen 2
  have f3 := rz.frozen 3
  have f4 := rz.frozen 4
  have f5 := rz.frozen 5
  simp only [List.getElem?_cons_zero, List.getElem?_cons_succ] at r0 r1 r2 r3 r4 r5
  clear rz
  go_wp2_with fail
  refine (HP.out _ (HS1.out.1)).mono ?_
  rintro e W2 ⟨k9, n9, p9, q9, s9, A9, m9, c9, rfl, ht9, hz⟩
  have HS2 : Hid (Ex w W2 ∧ Zero6 W2 w.heap.size ∧ w.heap.size < W2.heap.size) := ⟨(HS1.out.1).trans hz, (HS1.out.2.1).ex hz, ((HS1.out.2.1).ex hz).lt⟩
  have HT9 : Hid (TrC (fun b => w.heap.size + 1 ≤ b) W2 t9 (c6 k9 n9 p9 q9 s9 A9 m9 c9)) := ht9.imp (fun b _ h => Nat.le_trans (Nat.succ_le_of_lt HS1.out.2.2) h)
  clear hz ht9
  clear lz r0 r1 r2 r3 r4 r5 f0 f1 f2 f3 f4 f5
  have rz := HS2.out.2.1
  have lz := rz.lt
  have r0 := rz.cell 0
  have r1 := rz.cell 1
  have r2 := rz.cell 2
  have r3 := rz.cell 3
  have r4 := rz.cell 4
  have r5 := rz.cell 5
  have f0 := rz.frozen 0
  have f1 := rz.frozen 1
  have f2 := rz.frozen 2
  have f3 := rz.frozen 3
  have f4 := rz.frozen 4
  have f5 := rz.frozen 5
  simp only [List.getElem?_cons_zero, List.getElem?_cons_succ] at r0 r1 r2 r3 r4 r5
  clear rz
  have HNd := Lib.hid (fun w => rNode_c 5 (some ⟨W2.heap.size + 1, 0, none⟩) 1 1 w)
  have HB9 : Hid (Blk ((W2.alloc (.cells #[.int .i64 k9, .int .i64 n9, .int .i64 p9, .int .i64 q9, .string s9, .slice A9 m9 c9] 24)).alloc (.cells #[.int .i64 k9, .int .i64 n9, .int .i64 p9, .int .i64 q9, .string s9, .slice A9 m9 c9] 24)) (W2.heap.size + 1) 24 (c6 k9 n9 p9 q9 s9 A9 m9 c9)) := Blk.new' _ (by simp) _ _
  have HT1 : Hid (TrC (fun b => w.heap.size + 1 ≤ b) ((W2.alloc (.cells #[.int .i64 k9, .int .i64 n9, .int .i64 p9, .int .i64 q9, .string s9, .slice A9 m9 c9] 24)).alloc (.cells #[.int .i64 k9, .int .i64 n9, .int .i64 p9, .int .i64 q9, .string s9, .slice A9 m9 c9] 24)) (nd 5 [t9]) (c6 5 0 0 0 ⟨#[]⟩ (some ⟨W2.heap.size + 1, 0, none⟩) 1 1)) := TrC.one ((HT9.out.ex ((Ex.refl _).alloc _)).ex ((Ex.refl _).alloc _)) 5 HB9.out (by have := HS2.out.2.2; omega)
  go_wp2_with fail
  generalize W2.heap.size + 1 = n8 at *
  refine (HNd.out _).mono ?_
  rintro e W3 ⟨rfl, hz⟩
  have HS3 : Hid (Ex w W3 ∧ Zero6 W3 w.heap.size) := ⟨((HS2.out.1.alloc _).alloc _).trans hz, (((HS2.out.2.1.alloc _).alloc _).ex hz)⟩
  have HT3 := Lib.hid (HT1.out.ex hz)
  clear hz
  clear lz r0 r1 r2 r3 r4 r5 f0 f1 f2 f3 f4 f5
  have rz := HS3.out.2
  have lz := rz.lt
  have r0 := rz.cell 0
  have r1 := rz.cell 1
  have r2 := rz.cell 2
  have r3 := rz.cell 3
  have r4 := rz.cell 4
  have r5 := rz.cell 5
  have f0 := rz.frozen 0
  have f1 := rz.frozen 1
  have f2 := rz.frozen 2
  have f3 := rz.frozen 3
  have f4 := rz.frozen 4
  have f5 := rz.frozen 5
  simp only [List.getElem?_cons_zero, List.getElem?_cons_succ] at r0 r1 r2 r3 r4 r5
  clear rz
  go_wp2_with fail
  refine bodyPost_ret (results_par rfl rfl rfl rfl (blk6 HS3.out.2 _ _ _ _ _ _)) rfl ?_
  exact tree_end (Nat.le_refl _) HT3.out (fun b h => ⟨by omega, by omega⟩) HS3.out.1
set_option maxRecDepth 100000 in
set_option maxHeartbeats 6400000 in
theorem p7_bad (ws : List Wd) (b o c i : Nat) (w : World) (j : Nat) (hrw : Rw w b o (wdsV ws)) (hlen : ws.length ≤ 100000) (hi : i < ws.length)  (hp : ∀ w', Ex w w' → Calls Tryz.prog 84 #[.slice (some ⟨b, o, none⟩) ws.length c, .int .i64 (i : Nat)] w' (Ret w' (triV 0 0 ⟨#[]⟩ j false))) :
    Calls Tryz.prog 53 #[.slice (some ⟨b, o, none⟩) ws.length c, .int .i64 (i : Nat), .int .i64 7] w (Ret w (triV 0 0 ⟨#[]⟩ j false)) := by
  have HW := Lib.hid hrw
  have mi : (i : Int) < (ws.length : Int) := by omega
  have mm : (0 : Int) ≤ (i : Int) := by omega
  have mw : (ws.length : Int) ≤ 100000 := by omega
  have HS0 : Hid (Ex w (w.alloc (.cells #[.int .i64 0, .int .i64 0, .int .i64 0, .int .i64 0, .string ⟨#[]⟩, .slice none 0 0] 24)) ∧ Zero6 (w.alloc (.cells #[.int .i64 0, .int .i64 0, .int .i64 0, .int .i64 0, .string ⟨#[]⟩, .slice none 0 0] 24)) w.heap.size ∧ w.heap.size < (w.alloc (.cells #[.int .i64 0, .int .i64 0, .int .i64 0, .int .i64 0, .string ⟨#[]⟩, .slice none 0 0] 24)).heap.size) := ⟨(Ex.refl w).alloc _, Blk.new w _ _, by simp⟩
  have HP := Lib.hid hp
  clear hp
  unfold triV at HP
  clear hrw hlen hi
  go_enter Tryz.func53, Tryz.ntmps53
  go_wp2_with fail
  refine (HP.out _ (HS0.out.1)).mono ?_
  rintro e W1 ⟨rfl, hz⟩
  have HS1 : Hid (Ex w W1 ∧ Zero6 W1 w.heap.size ∧ w.heap.size < W1.heap.size) := ⟨(HS0.out.1).trans hz, (HS0.out.2.1).ex hz, ((HS0.out.2.1).ex hz).lt⟩
  clear hz
  have rz := HS1.out.2.1
  have lz := rz.lt
  have r0 := rz.cell 0
  have r1 := rz.cell 1
  have r2 := rz.cell 2
  have r3 := rz.cell 3
  have r4 := rz.cell 4
  have r5 := rz.cell 5
  have f0 := rz.frozen 0
  have f1 := rz.frozen 1
  have f2 := rz.frozen 2
  have f3 := rz.frozen 3
  have f4 := rz.frozen 4
  have f5 := rz.frozen 5
  simp only [List.getElem?_cons_zero, List.getElem?_cons_succ] at r0 r1 r2 r3 r4 r5
  clear rz
  go_wp2_with fail
  refine bodyPost_ret (results_par rfl rfl rfl rfl ((blk6 HS1.out.2.1 _ _ _ _ _ _))) rfl ?_
  exact ⟨rfl, (ex6 (Nat.le_refl _) HS1.out.1 _ _ _ _ _ _)⟩
set_option maxRecDepth 100000 in
set_option maxHeartbeats 6400000 in
theorem p7_ok (ws : List Wd) (b o c i : Nat) (w : World) (j : Nat) (t9 : Tr) (hrw : Rw w b o (wdsV ws)) (hlen : ws.length ≤ 100000) (hi : i < ws.length)  (hp : ∀ w', Ex w w' → Calls Tryz.prog 84 #[.slice (some ⟨b, o, none⟩) ws.length c, .int .i64 (i : Nat)] w' (TreeAt w' t9 j)) :
    Calls Tryz.prog 53 #[.slice (some ⟨b, o, none⟩) ws.length c, .int .i64 (i : Nat), .int .i64 7] w (TreeAt w t9 j) := by
  have HW := Lib.hid hrw
  have mi : (i : Int) < (ws.length : Int) := by omega
  have mm : (0 : Int) ≤ (i : Int) := by omega
  have mw : (ws.length : Int) ≤ 100000 := by omega
  have HS0 : Hid (Ex w (w.alloc (.cells #[.int .i64 0, .int .i64 0, .int .i64 0, .int .i64 0, .string ⟨#[]⟩, .slice none 0 0] 24)) ∧ Zero6 (w.alloc (.cells #[.int .i64 0, .int .i64 0, .int .i64 0, .int .i64 0, .string ⟨#[]⟩, .slice none 0 0] 24)) w.heap.size ∧ w.heap.size < (w.alloc (.cells #[.int .i64 0, .int .i64 0, .int .i64 0, .int .i64 0, .string ⟨#[]⟩, .slice none 0 0] 24)).heap.size) := ⟨(Ex.refl w).alloc _, Blk.new w _ _, by simp⟩
  have HP := Lib.hid hp
  clear hp
  unfold TreeAt at HP
  clear hrw hlen hi
  go_enter Tryz.func53, Tryz.ntmps53
  go_wp2_with fail
  refine (HP.out _ (HS0.out.1)).mono ?_
  rintro e W1 ⟨k9, n9, p9, q9, s9, A9, m9, c9, rfl, ht9, hz⟩
  have HS1 : Hid (Ex w W1 ∧ Zero6 W1 w.heap.size ∧ w.heap.size < W1.heap.size) := ⟨(HS0.out.1).trans hz, (HS0.out.2.1).ex hz, ((HS0.out.2.1).ex hz).lt⟩
  have HT9 : Hid (TrC (fun b => w.heap.size + 1 ≤ b) W1 t9 (c6 k9 n9 p9 q9 s9 A9 m9 c9)) := ht9.imp (fun b _ h => Nat.le_trans (Nat.succ_le_of_lt HS0.out.2.2) h)
  clear hz ht9
  have rz := HS1.out.2.1
  have lz := rz.lt
  have r0 := rz.cell 0
  have r1 := rz.cell 1
  have r2 := rz.cell 2
  have r3 := rz.cell 3
  have r4 := rz.cell 4
  have r5 := rz.cell 5
  have f0 := rz.frozen 0
  have f1 := rz.frozen 1
  have f2 := rz.frozen 2
  have f3 := rz.frozen 3
  have f4 := rz.frozen 4
  have f5 := rz.frozen 5
  simp only [List.getElem?_cons_zero, List.getElem?_cons_succ] at r0 r1 r2 r3 r4 r5
  clear rz
  go_wp2_with fail
  refine bodyPost_ret (results_par rfl rfl rfl rfl (blk6 HS1.out.2.1 _ _ _ _ _ _)) rfl ?_
  exact tree_end (Nat.le_refl _) HT9.out (fun b h => ⟨by omega, by omega⟩) HS1.out.1
theorem TreeAt.alc {w : World} {t : Tr} {j : Nat} {e : Ending} {w' : World} (h : TreeAt w t j e w') (o : Obj) : TreeAt w t j e (w'.alloc o) := by
  obtain ⟨k, n, p, q, s, A, m, c, h1, h2, h3⟩ := h
  exact ⟨k, n, p, q, s, A, m, c, h1, h2.ex ((Ex.refl _).alloc o), h3.alloc o⟩
set_option maxRecDepth 100000 in
set_option maxHeartbeats 6400000 in
theorem p3_bad (ws : List Wd) (b o c i : Nat) (w : World) (j : Nat) (hrw : Rw w b o (wdsV ws)) (hlen : ws.length ≤ 100000) (hi : i < ws.length)  (hp : ∀ w', Ex w w' → Calls Tryz.prog 53 #[.slice (some ⟨b, o, none⟩) ws.length c, .int .i64 (i : Nat), .int .i64 4] w' (Ret w' (triV 0 0 ⟨#[]⟩ j false))) :
    Calls Tryz.prog 53 #[.slice (some ⟨b, o, none⟩) ws.length c, .int .i64 (i : Nat), .int .i64 3] w (Ret w (triV 0 0 ⟨#[]⟩ j false)) := by
  have HW := Lib.hid hrw
  have mi : (i : Int) < (ws.length : Int) := by omega
  have mm : (0 : Int) ≤ (i : Int) := by omega
  have mw : (ws.length : Int) ≤ 100000 := by omega
  have HS0 : Hid (Ex w (w.alloc (.cells #[.int .i64 0, .int .i64 0, .int .i64 0, .int .i64 0, .string ⟨#[]⟩, .slice none 0 0] 24)) ∧ Zero6 (w.alloc (.cells #[.int .i64 0, .int .i64 0, .int .i64 0, .int .i64 0, .string ⟨#[]⟩, .slice none 0 0] 24)) w.heap.size ∧ w.heap.size < (w.alloc (.cells #[.int .i64 0, .int .i64 0, .int .i64 0, .int .i64 0, .string ⟨#[]⟩, .slice none 0 0] 24)).heap.size) := ⟨(Ex.refl w).alloc _, Blk.new w _ _, by simp⟩
  have HP := Lib.hid hp
  clear hp
  unfold triV at HP
  clear hrw hlen hi
  go_enter Tryz.func53, Tryz.ntmps53
  go_wp2_with fail
  refine (HP.out _ (HS0.out.1)).mono ?_
  rintro e W1 ⟨rfl, hz⟩
  have HS1 : Hid (Ex w W1 ∧ Zero6 W1 w.heap.size ∧ w.heap.size < W1.heap.size) := ⟨(HS0.out.1).trans hz, (HS0.out.2.1).ex hz, ((HS0.out.2.1).ex hz).lt⟩
  clear hz
  have rz := HS1.out.2.1
  have lz := rz.lt
  have r0 := rz.cell 0
  have r1 := rz.cell 1
  have r2 := rz.cell 2
  have r3 := rz.cell 3
  have r4 := rz.cell 4
  have r5 := rz.cell 5
  have f0 := rz.frozen 0
  have f1 := rz.frozen 1
  have f2 := rz.frozen 2
  have f3 := rz.frozen 3
  have f4 := rz.frozen 4
  have f5 := rz.frozen 5
  simp only [List.getElem?_cons_zero, List.getElem?_cons_succ] at r0 r1 r2 r3 r4 r5
  clear rz
  go_wp2_with fail
  refine bodyPost_ret (results_par rfl rfl rfl rfl ((blk6 HS1.out.2.1 _ _ _ _ _ _).alloc _)) rfl ?_
  exact ⟨rfl, (ex6 (Nat.le_refl _) HS1.out.1 _ _ _ _ _ _).alloc _⟩
set_option maxRecDepth 100000 in
set_option maxHeartbeats 6400000 in
theorem p3_stop_k (ws : List Wd) (b o c i : Nat) (xj : Wd) (w : World) (j : Nat) (t9 : Tr) (hrw : Rw w b o (wdsV ws)) (hlen : ws.length ≤ 100000) (hi : i < ws.length) (hxj : ws[j]? = some xj) (hp : ∀ w', Ex w w' → Calls Tryz.prog 53 #[.slice (some ⟨b, o, none⟩) ws.length c, .int .i64 (i : Nat), .int .i64 4] w' (TreeAt w' t9 j)) (hk : xj.kind ≠ 3) :
    Calls Tryz.prog 53 #[.slice (some ⟨b, o, none⟩) ws.length c, .int .i64 (i : Nat), .int .i64 3] w (TreeAt w t9 j) := by
  have HW := Lib.hid hrw
  have mi : (i : Int) < (ws.length : Int) := by omega
  have mm : (0 : Int) ≤ (i : Int) := by omega
  have mw : (ws.length : Int) ≤ 100000 := by omega
  have HXj := Lib.hid hxj
  have mj : ((j : Nat) : Int) < (ws.length : Int) := by have := (List.getElem?_eq_some_iff.1 hxj).1; omega
  have mj0 : (0 : Int) ≤ ((j : Nat) : Int) := by omega
  obtain ⟨TBj, hTB⟩ : ∃ T : ByteArray, T = ⟨xj.text.toArray⟩ := ⟨_, rfl⟩
  have HTj := Lib.hid hTB
  clear hTB
  have HS0 : Hid (Ex w (w.alloc (.cells #[.int .i64 0, .int .i64 0, .int .i64 0, .int .i64 0, .string ⟨#[]⟩, .slice none 0 0] 24)) ∧ Zero6 (w.alloc (.cells #[.int .i64 0, .int .i64 0, .int .i64 0, .int .i64 0, .string ⟨#[]⟩, .slice none 0 0] 24)) w.heap.size ∧ w.heap.size < (w.alloc (.cells #[.int .i64 0, .int .i64 0, .int .i64 0, .int .i64 0, .string ⟨#[]⟩, .slice none 0 0] 24)).heap.size) := ⟨(Ex.refl w).alloc _, Blk.new w _ _, by simp⟩
  have ee1 : (((xj.kind : Nat) : Int) == 3) = false := beq_eq_false_iff_ne.2 (by omega)
  have ee2 : (xj.kind == 3) = false := beq_eq_false_iff_ne.2 (by omega)
  have ee3 : (((xj.kind : Nat) : Int) != 3) = true := by rw [bne_iff_ne]; omega
  have ee4 : (xj.kind != 3) = true := by rw [bne_iff_ne]; omega
  clear hk
  have HP := Lib.hid hp
  clear hp
  unfold TreeAt at HP
  clear hrw hlen hi hxj
  go_enter Tryz.func53, Tryz.ntmps53
  go_wp2_with fail
  refine (HP.out _ (HS0.out.1)).mono ?_
  rintro e W1 ⟨k9, n9, p9, q9, s9, A9, m9, c9, rfl, ht9, hz⟩
  have HS1 : Hid (Ex w W1 ∧ Zero6 W1 w.heap.size ∧ w.heap.size < W1.heap.size) := ⟨(HS0.out.1).trans hz, (HS0.out.2.1).ex hz, ((HS0.out.2.1).ex hz).lt⟩
  have HT9 : Hid (TrC (fun b => w.heap.size + 1 ≤ b) W1 t9 (c6 k9 n9 p9 q9 s9 A9 m9 c9)) := ht9.imp (fun b _ h => Nat.le_trans (Nat.succ_le_of_lt HS0.out.2.2) h)
  clear hz ht9
  have rz := HS1.out.2.1
  have lz := rz.lt
  have r0 := rz.cell 0
  have r1 := rz.cell 1
  have r2 := rz.cell 2
  have r3 := rz.cell 3
  have r4 := rz.cell 4
  have r5 := rz.cell 5
  have f0 := rz.frozen 0
  have f1 := rz.frozen 1
  have f2 := rz.frozen 2
  have f3 := rz.frozen 3
  have f4 := rz.frozen 4
  have f5 := rz.frozen 5
  simp only [List.getElem?_cons_zero, List.getElem?_cons_succ] at r0 r1 r2 r3 r4 r5
  clear rz
  obtain ⟨lb, wj0, wj1, wj2, wj3⟩ := word_cells (HW.out.exx HS1.out.1) HXj.out
  rw [← HTj.out] at wj1
  go_wp2_with fail
  refine bodyPost_ret (results_par rfl rfl rfl rfl ((blk6 HS1.out.2.1 _ _ _ _ _ _).alloc _)) rfl ?_
  exact (tree_end (Nat.le_refl _) HT9.out (fun b h => ⟨by omega, by omega⟩) HS1.out.1).alc _
set_option maxRecDepth 100000 in
set_option maxHeartbeats 6400000 in
theorem p3_stop_t (ws : List Wd) (b o c i : Nat) (xj : Wd) (w : World) (j : Nat) (t9 : Tr) (hrw : Rw w b o (wdsV ws)) (hlen : ws.length ≤ 100000) (hi : i < ws.length) (hxj : ws[j]? = some xj) (hp : ∀ w', Ex w w' → Calls Tryz.prog 53 #[.slice (some ⟨b, o, none⟩) ws.length c, .int .i64 (i : Nat), .int .i64 4] w' (TreeAt w' t9 j)) (hk : xj.kind = 3) (v0 : xj.text ≠ [61]) (v1 : xj.text ≠ [33, 61]) (v2 : xj.text ≠ [60]) (v3 : xj.text ≠ [60, 61]) (v4 : xj.text ≠ [62]) (v5 : xj.text ≠ [62, 61]) :
    Calls Tryz.prog 53 #[.slice (some ⟨b, o, none⟩) ws.length c, .int .i64 (i : Nat), .int .i64 3] w (TreeAt w t9 j) := by
  have HW := Lib.hid hrw
  have mi : (i : Int) < (ws.length : Int) := by omega
  have mm : (0 : Int) ≤ (i : Int) := by omega
  have mw : (ws.length : Int) ≤ 100000 := by omega
  have HXj := Lib.hid hxj
  have mj : ((j : Nat) : Int) < (ws.length : Int) := by have := (List.getElem?_eq_some_iff.1 hxj).1; omega
  have mj0 : (0 : Int) ≤ ((j : Nat) : Int) := by omega
  obtain ⟨TBj, hTB⟩ : ∃ T : ByteArray, T = ⟨xj.text.toArray⟩ := ⟨_, rfl⟩
  have HTj := Lib.hid hTB
  clear hTB
  have HS0 : Hid (Ex w (w.alloc (.cells #[.int .i64 0, .int .i64 0, .int .i64 0, .int .i64 0, .string ⟨#[]⟩, .slice none 0 0] 24)) ∧ Zero6 (w.alloc (.cells #[.int .i64 0, .int .i64 0, .int .i64 0, .int .i64 0, .string ⟨#[]⟩, .slice none 0 0] 24)) w.heap.size ∧ w.heap.size < (w.alloc (.cells #[.int .i64 0, .int .i64 0, .int .i64 0, .int .i64 0, .string ⟨#[]⟩, .slice none 0 0] 24)).heap.size) := ⟨(Ex.refl w).alloc _, Blk.new w _ _, by simp⟩
  have ee1 : (((xj.kind : Nat) : Int) == 3) = true := by rw [beq_iff_eq]; omega
  have ee2 : (xj.kind == 3) = true := by rw [beq_iff_eq]; omega
  have ee3 : (((xj.kind : Nat) : Int) != 3) = false := by unfold bne; rw [ee1]; rfl
  have ee4 : (xj.kind != 3) = false := by unfold bne; rw [ee2]; rfl
  clear hk
  have vt0 : (TBj.toList == [61]) = false := by
    rw [HTj.out, Lib.toList_data]
    exact beq_eq_false_iff_ne.2 v0
  have vn0 : (TBj.toList != [61]) = true := by unfold bne; rw [vt0]; rfl
  clear v0
  have vt1 : (TBj.toList == [33, 61]) = false := by
    rw [HTj.out, Lib.toList_data]
    exact beq_eq_false_iff_ne.2 v1
  have vn1 : (TBj.toList != [33, 61]) = true := by unfold bne; rw [vt1]; rfl
  clear v1
  have vt2 : (TBj.toList == [60]) = false := by
    rw [HTj.out, Lib.toList_data]
    exact beq_eq_false_iff_ne.2 v2
  have vn2 : (TBj.toList != [60]) = true := by unfold bne; rw [vt2]; rfl
  clear v2
  have vt3 : (TBj.toList == [60, 61]) = false := by
    rw [HTj.out, Lib.toList_data]
    exact beq_eq_false_iff_ne.2 v3
  have vn3 : (TBj.toList != [60, 61]) = true := by unfold bne; rw [vt3]; rfl
  clear v3
  have vt4 : (TBj.toList == [62]) = false := by
    rw [HTj.out, Lib.toList_data]
    exact beq_eq_false_iff_ne.2 v4
  have vn4 : (TBj.toList != [62]) = true := by unfold bne; rw [vt4]; rfl
  clear v4
  have vt5 : (TBj.toList == [62, 61]) = false := by
    rw [HTj.out, Lib.toList_data]
    exact beq_eq_false_iff_ne.2 v5
  have vn5 : (TBj.toList != [62, 61]) = true := by unfold bne; rw [vt5]; rfl
  clear v5
  have HP := Lib.hid hp
  clear hp
  unfold TreeAt at HP
  clear hrw hlen hi hxj
  go_enter Tryz.func53, Tryz.ntmps53
  go_wp2_with fail
  refine (HP.out _ (HS0.out.1)).mono ?_
  rintro e W1 ⟨k9, n9, p9, q9, s9, A9, m9, c9, rfl, ht9, hz⟩
  have HS1 : Hid (Ex w W1 ∧ Zero6 W1 w.heap.size ∧ w.heap.size < W1.heap.size) := ⟨(HS0.out.1).trans hz, (HS0.out.2.1).ex hz, ((HS0.out.2.1).ex hz).lt⟩
  have HT9 : Hid (TrC (fun b => w.heap.size + 1 ≤ b) W1 t9 (c6 k9 n9 p9 q9 s9 A9 m9 c9)) := ht9.imp (fun b _ h => Nat.le_trans (Nat.succ_le_of_lt HS0.out.2.2) h)
  clear hz ht9
  have rz := HS1.out.2.1
  have lz := rz.lt
  have r0 := rz.cell 0
  have r1 := rz.cell 1
  have r2 := rz.cell 2
  have r3 := rz.cell 3
  have r4 := rz.cell 4
  have r5 := rz.cell 5
  have f0 := rz.frozen 0
  have f1 := rz.frozen 1
  have f2 := rz.frozen 2
  have f3 := rz.frozen 3
  have f4 := rz.frozen 4
  have f5 := rz.frozen 5
  simp only [List.getElem?_cons_zero, List.getElem?_cons_succ] at r0 r1 r2 r3 r4 r5
  clear rz
  obtain ⟨lb, wj0, wj1, wj2, wj3⟩ := word_cells (HW.out.exx HS1.out.1) HXj.out
  rw [← HTj.out] at wj1
  go_wp2_with fail
  refine bodyPost_ret (results_par rfl rfl rfl rfl ((blk6 HS1.out.2.1 _ _ _ _ _ _).alloc _)) rfl ?_
  exact (tree_end (Nat.le_refl _) HT9.out (fun b h => ⟨by omega, by omega⟩) HS1.out.1).alc _
set_option maxRecDepth 100000 in
set_option maxHeartbeats 6400000 in
theorem p3_op0_bad (ws : List Wd) (b o c i : Nat) (xj : Wd) (w : World) (j j2 : Nat) (t9 : Tr) (hrw : Rw w b o (wdsV ws)) (hlen : ws.length ≤ 100000) (hi : i < ws.length) (hxj : ws[j]? = some xj) (hp : ∀ w', Ex w w' → Calls Tryz.prog 53 #[.slice (some ⟨b, o, none⟩) ws.length c, .int .i64 (i : Nat), .int .i64 4] w' (TreeAt w' t9 j)) (hk : xj.kind = 3) (htx : xj.text = [61]) (hq : ∀ w', Ex w w' → Calls Tryz.prog 53 #[.slice (some ⟨b, o, none⟩) ws.length c, .int .i64 ((j : Int) + 1), .int .i64 4] w' (Ret w' (triV 0 0 ⟨#[]⟩ j2 false))) :
    Calls Tryz.prog 53 #[.slice (some ⟨b, o, none⟩) ws.length c, .int .i64 (i : Nat), .int .i64 3] w (Ret w (triV 0 0 ⟨#[]⟩ j2 false)) := by
  have HW := Lib.hid hrw
  have mi : (i : Int) < (ws.length : Int) := by omega
  have mm : (0 : Int) ≤ (i : Int) := by omega
  have mw : (ws.length : Int) ≤ 100000 := by omega
  have HXj := Lib.hid hxj
  have mj : ((j : Nat) : Int) < (ws.length : Int) := by have := (List.getElem?_eq_some_iff.1 hxj).1; omega
  have mj0 : (0 : Int) ≤ ((j : Nat) : Int) := by omega
  have HTj : Hid ((⟨#[61]⟩ : ByteArray) = ⟨xj.text.toArray⟩) := by rw [htx]; exact Lib.hid rfl
  have HS0 : Hid (Ex w (w.alloc (.cells #[.int .i64 0, .int .i64 0, .int .i64 0, .int .i64 0, .string ⟨#[]⟩, .slice none 0 0] 24)) ∧ Zero6 (w.alloc (.cells #[.int .i64 0, .int .i64 0, .int .i64 0, .int .i64 0, .string ⟨#[]⟩, .slice none 0 0] 24)) w.heap.size ∧ w.heap.size < (w.alloc (.cells #[.int .i64 0, .int .i64 0, .int .i64 0, .int .i64 0, .string ⟨#[]⟩, .slice none 0 0] 24)).heap.size) := ⟨(Ex.refl w).alloc _, Blk.new w _ _, by simp⟩
  have ee1 : (((xj.kind : Nat) : Int) == 3) = true := by rw [beq_iff_eq]; omega
  have ee2 : (xj.kind == 3) = true := by rw [beq_iff_eq]; omega
  have ee3 : (((xj.kind : Nat) : Int) != 3) = false := by unfold bne; rw [ee1]; rfl
  have ee4 : (xj.kind != 3) = false := by unfold bne; rw [ee2]; rfl
  clear hk htx
  have HP := Lib.hid hp
  clear hp
  unfold TreeAt at HP
  have HQ := Lib.hid hq
  clear hq
  unfold triV at HQ
  clear hrw hlen hi hxj
  go_enter Tryz.func53, Tryz.ntmps53
  go_wp2_with fail
  refine (HP.out _ (HS0.out.1)).mono ?_
  rintro e W1 ⟨k9, n9, p9, q9, s9, A9, m9, c9, rfl, ht9, hz⟩
  have HS1 : Hid (Ex w W1 ∧ Zero6 W1 w.heap.size ∧ w.heap.size < W1.heap.size) := ⟨(HS0.out.1).trans hz, (HS0.out.2.1).ex hz, ((HS0.out.2.1).ex hz).lt⟩
  have HT9 : Hid (TrC (fun b => w.heap.size + 1 ≤ b) W1 t9 (c6 k9 n9 p9 q9 s9 A9 m9 c9)) := ht9.imp (fun b _ h => Nat.le_trans (Nat.succ_le_of_lt HS0.out.2.2) h)
  clear hz ht9
  have rz := HS1.out.2.1
  have lz := rz.lt
  have r0 := rz.cell 0
  have r1 := rz.cell 1
  have r2 := rz.cell 2
  have r3 := rz.cell 3
  have r4 := rz.cell 4
  have r5 := rz.cell 5
  have f0 := rz.frozen 0
  have f1 := rz.frozen 1
  have f2 := rz.frozen 2
  have f3 := rz.frozen 3
  have f4 := rz.frozen 4
  have f5 := rz.frozen 5
  simp only [List.getElem?_cons_zero, List.getElem?_cons_succ] at r0 r1 r2 r3 r4 r5
  clear rz
  obtain ⟨lb, wj0, wj1, wj2, wj3⟩ := word_cells (HW.out.exx HS1.out.1) HXj.out
  rw [← HTj.out] at wj1
  have HX9 : Hid (Blk (W1.alloc (.cells #[.int .i64 k9, .int .i64 n9, .int .i64 p9, .int .i64 q9, .string s9, .slice A9 m9 c9] 24)) W1.heap.size 24 (c6 k9 n9 p9 q9 s9 A9 m9 c9)) := Blk.new W1 _ _
  go_wp2_with fail
  refine (HQ.out _ (HS1.out.1.alloc _)).mono ?_
  rintro e W2 ⟨rfl, hz⟩
  have HS2 : Hid (Ex w W2 ∧ Zero6 W2 w.heap.size ∧ w.heap.size < W2.heap.size) := ⟨(HS1.out.1.alloc _).trans hz, (HS1.out.2.1.alloc _).ex hz, ((HS1.out.2.1.alloc _).ex hz).lt⟩
  clear hz
  clear lz r0 r1 r2 r3 r4 r5 f0 f1 f2 f3 f4 f5
  clear lb wj0 wj1 wj2 wj3
  have rz := HS2.out.2.1
  have lz := rz.lt
  have r0 := rz.cell 0
  have r1 := rz.cell 1
  have r2 := rz.cell 2
  have r3 := rz.cell 3
  have r4 := rz.cell 4
  have r5 := rz.cell 5
  have f0 := rz.frozen 0
  have f1 := rz.frozen 1
  have f2 := rz.frozen 2
  have f3 := rz.frozen 3
  have f4 := rz.frozen 4
  have f5 := rz.frozen 5
  simp only [List.getElem?_cons_zero, List.getElem?_cons_succ] at r0 r1 r2 r3 r4 r5
  clear rz
  go_wp2_with fail
  refine bodyPost_ret (results_par rfl rfl rfl rfl ((blk6 HS2.out.2.1 _ _ _ _ _ _).alloc _)) rfl ?_
  exact ⟨rfl, (ex6 (Nat.le_refl _) HS2.out.1 _ _ _ _ _ _).alloc _⟩
set_option maxRecDepth 100000 in
set_option maxHeartbeats 6400000 in
theorem p3_op0_ok (ws : List Wd) (b o c i : Nat) (xj : Wd) (w : World) (j j2 : Nat) (t9 t8 : Tr) (hrw : Rw w b o (wdsV ws)) (hlen : ws.length ≤ 100000) (hi : i < ws.length) (hxj : ws[j]? = some xj) (hp : ∀ w', Ex w w' → Calls Tryz.prog 53 #[.slice (some ⟨b, o, none⟩) ws.length c, .int .i64 (i : Nat), .int .i64 4] w' (TreeAt w' t9 j)) (hk : xj.kind = 3) (htx : xj.text = [61]) (hq : ∀ w', Ex w w' → Calls Tryz.prog 53 #[.slice (some ⟨b, o, none⟩) ws.length c, .int .i64 ((j : Int) + 1), .int .i64 4] w' (TreeAt w' t8 j2)) :
    Calls Tryz.prog 53 #[.slice (some ⟨b, o, none⟩) ws.length c, .int .i64 (i : Nat), .int .i64 3] w (TreeAt w (nd 9 [t9, t8]) j2) := by
  have HW := Lib.hid hrw
  have mi : (i : Int) < (ws.length : Int) := by omega
  have mm : (0 : Int) ≤ (i : Int) := by omega
  have mw : (ws.length : Int) ≤ 100000 := by omega
  have HXj := Lib.hid hxj
  have mj : ((j : Nat) : Int) < (ws.length : Int) := by have := (List.getElem?_eq_some_iff.1 hxj).1; omega
  have mj0 : (0 : Int) ≤ ((j : Nat) : Int) := by omega
  have HTj : Hid ((⟨#[61]⟩ : ByteArray) = ⟨xj.text.toArray⟩) := by rw [htx]; exact Lib.hid rfl
  have HS0 : Hid (Ex w (w.alloc (.cells #[.int .i64 0, .int .i64 0, .int .i64 0, .int .i64 0, .string ⟨#[]⟩, .slice none 0 0] 24)) ∧ Zero6 (w.alloc (.cells #[.int .i64 0, .int .i64 0, .int .i64 0, .int .i64 0, .string ⟨#[]⟩, .slice none 0 0] 24)) w.heap.size ∧ w.heap.size < (w.alloc (.cells #[.int .i64 0, .int .i64 0, .int .i64 0, .int .i64 0, .string ⟨#[]⟩, .slice none 0 0] 24)).heap.size) := ⟨(Ex.refl w).alloc _, Blk.new w _ _, by simp⟩
  have ee1 : (((xj.kind : Nat) : Int) == 3) = true := by rw [beq_iff_eq]; omega
  have ee2 : (xj.kind == 3) = true := by rw [beq_iff_eq]; omega
  have ee3 : (((xj.kind : Nat) : Int) != 3) = false := by unfold bne; rw [ee1]; rfl
  have ee4 : (xj.kind != 3) = false := by unfold bne; rw [ee2]; rfl
  clear hk htx
  have HP := Lib.hid hp
  clear hp
  unfold TreeAt at HP
  have HQ := Lib.hid hq
  clear hq
  unfold TreeAt at HQ
  clear hrw hlen hi hxj
  go_enter Tryz.func53, Tryz.ntmps53
  go_wp2_with fail
  refine (HP.out _ (HS0.out.1)).mono ?_
  rintro e W1 ⟨k9, n9, p9, q9, s9, A9, m9, c9, rfl, ht9, hz⟩
  have HS1 : Hid (Ex w W1 ∧ Zero6 W1 w.heap.size ∧ w.heap.size < W1.heap.size) := ⟨(HS0.out.1).trans hz, (HS0.out.2.1).ex hz, ((HS0.out.2.1).ex hz).lt⟩
  have HT9 : Hid (TrC (fun b => w.heap.size + 1 ≤ b) W1 t9 (c6 k9 n9 p9 q9 s9 A9 m9 c9)) := ht9.imp (fun b _ h => Nat.le_trans (Nat.succ_le_of_lt HS0.out.2.2) h)
  clear hz ht9
  have rz := HS1.out.2.1
  have lz := rz.lt
  have r0 := rz.cell 0
  have r1 := rz.cell 1
  have r2 := rz.cell 2
  have r3 := rz.cell 3
  have r4 := rz.cell 4
  have r5 := rz.cell 5
  have f0 := rz.frozen 0
  have f1 := rz.frozen 1
  have f2 := rz.frozen 2
  have f3 := rz.frozen 3
  have f4 := rz.frozen 4
  have f5 := rz.frozen 5
  simp only [List.getElem?_cons_zero, List.getElem?_cons_succ] at r0 r1 r2 r3 r4 r5
  clear rz
  obtain ⟨lb, wj0, wj1, wj2, wj3⟩ := word_cells (HW.out.exx HS1.out.1) HXj.out
  rw [← HTj.out] at wj1
  have HX9 : Hid (Blk (W1.alloc (.cells #[.int .i64 k9, .int .i64 n9, .int .i64 p9, .int .i64 q9, .string s9, .slice A9 m9 c9] 24)) W1.heap.size 24 (c6 k9 n9 p9 q9 s9 A9 m9 c9)) := Blk.new W1 _ _
  go_wp2_with fail
  refine (HQ.out _ (HS1.out.1.alloc _)).mono ?_
  rintro e W2 ⟨k8, n8, p8, q8, s8, A8, m8, c8, rfl, ht8, hz⟩
  have HS2 : Hid (Ex w W2 ∧ Zero6 W2 w.heap.size ∧ w.heap.size < W2.heap.size) := ⟨(HS1.out.1.alloc _).trans hz, (HS1.out.2.1.alloc _).ex hz, ((HS1.out.2.1.alloc _).ex hz).lt⟩
  have HT8 : Hid (TrC (fun b => w.heap.size + 1 ≤ b) W2 t8 (c6 k8 n8 p8 q8 s8 A8 m8 c8)) := ht8.imp (fun b _ h => by have := HS1.out.2.2; simp at h; omega)
  have HT9b := Lib.hid ((HT9.out.ex ((Ex.refl _).alloc (.cells #[.int .i64 k9, .int .i64 n9, .int .i64 p9, .int .i64 q9, .string s9, .slice A9 m9 c9] 24))).ex hz)
  have yz := HX9.out.ex hz
  have yl := yz.lt
  have y0 := yz.cell 0
  have y1 := yz.cell 1
  have y2 := yz.cell 2
  have y3 := yz.cell 3
  have y4 := yz.cell 4
  have y5 := yz.cell 5
  simp only [List.getElem?_cons_zero, List.getElem?_cons_succ] at y0 y1 y2 y3 y4 y5
  clear yz
  clear hz ht8
  clear lz r0 r1 r2 r3 r4 r5 f0 f1 f2 f3 f4 f5
  clear lb wj0 wj1 wj2 wj3
  have rz := HS2.out.2.1
  have lz := rz.lt
  have r0 := rz.cell 0
  have r1 := rz.cell 1
  have r2 := rz.cell 2
  have r3 := rz.cell 3
  have r4 := rz.cell 4
  have r5 := rz.cell 5
  have f0 := rz.frozen 0
  have f1 := rz.frozen 1
  have f2 := rz.frozen 2
  have f3 := rz.frozen 3
  have f4 := rz.frozen 4
  have f5 := rz.frozen 5
  simp only [List.getElem?_cons_zero, List.getElem?_cons_succ] at r0 r1 r2 r3 r4 r5
  clear rz
  have HNd := Lib.hid (fun w => rNode_c 9 (some ⟨W2.heap.size + 1, 0, none⟩) 2 2 w)
  have HB9 : Hid (Blk ((W2.alloc (.cells #[.int .i64 k8, .int .i64 n8, .int .i64 p8, .int .i64 q8, .string s8, .slice A8 m8 c8] 24)).alloc (.cells #[.int .i64 k9, .int .i64 n9, .int .i64 p9, .int .i64 q9, .string s9, .slice A9 m9 c9, .int .i64 k8, .int .i64 n8, .int .i64 p8, .int .i64 q8, .string s8, .slice A8 m8 c8] 24)) (W2.heap.size + 1) 24 ((c6 k9 n9 p9 q9 s9 A9 m9 c9) ++ (c6 k8 n8 p8 q8 s8 A8 m8 c8))) := Blk.new' _ (by simp) _ _
  have HT1 : Hid (TrC (fun b => w.heap.size + 1 ≤ b) ((W2.alloc (.cells #[.int .i64 k8, .int .i64 n8, .int .i64 p8, .int .i64 q8, .string s8, .slice A8 m8 c8] 24)).alloc (.cells #[.int .i64 k9, .int .i64 n9, .int .i64 p9, .int .i64 q9, .string s9, .slice A9 m9 c9, .int .i64 k8, .int .i64 n8, .int .i64 p8, .int .i64 q8, .string s8, .slice A8 m8 c8] 24)) (nd 9 [t9, t8]) (c6 9 0 0 0 ⟨#[]⟩ (some ⟨W2.heap.size + 1, 0, none⟩) 2 2)) := TrC.two ((HT9b.out.ex ((Ex.refl _).alloc _)).ex ((Ex.refl _).alloc _)) ((HT8.out.ex ((Ex.refl _).alloc _)).ex ((Ex.refl _).alloc _)) 9 HB9.out (by have := HS2.out.2.2; omega)
  go_wp2_with fail
  generalize W2.heap.size + 1 = n8 at *
  refine (HNd.out _).mono ?_
  rintro e W3 ⟨rfl, hz⟩
  have HS3 : Hid (Ex w W3 ∧ Zero6 W3 w.heap.size) := ⟨((HS2.out.1.alloc _).alloc _).trans hz, (((HS2.out.2.1.alloc _).alloc _).ex hz)⟩
  have HT3 := Lib.hid (HT1.out.ex hz)
  clear hz
  clear lz r0 r1 r2 r3 r4 r5 f0 f1 f2 f3 f4 f5
  have rz := HS3.out.2
  have lz := rz.lt
  have r0 := rz.cell 0
  have r1 := rz.cell 1
  have r2 := rz.cell 2
  have r3 := rz.cell 3
  have r4 := rz.cell 4
  have r5 := rz.cell 5
  have f0 := rz.frozen 0
  have f1 := rz.frozen 1
  have f2 := rz.frozen 2
  have f3 := rz.frozen 3
  have f4 := rz.frozen 4
  have f5 := rz.frozen 5
  simp only [List.getElem?_cons_zero, List.getElem?_cons_succ] at r0 r1 r2 r3 r4 r5
  clear rz
  go_wp2_with fail
  refine bodyPost_ret (results_par rfl rfl rfl rfl (blk6 HS3.out.2 _ _ _ _ _ _)) rfl ?_
  exact tree_end (Nat.le_refl _) HT3.out (fun b h => ⟨by omega, by omega⟩) HS3.out.1
set_option maxRecDepth 100000 in
set_option maxHeartbeats 6400000 in
theorem p3_op1_bad (ws : List Wd) (b o c i : Nat) (xj : Wd) (w : World) (j j2 : Nat) (t9 : Tr) (hrw : Rw w b o (wdsV ws)) (hlen : ws.length ≤ 100000) (hi : i < ws.length) (hxj : ws[j]? = some xj) (hp : ∀ w', Ex w w' → Calls Tryz.prog 53 #[.slice (some ⟨b, o, none⟩) ws.length c, .int .i64 (i : Nat), .int .i64 4] w' (TreeAt w' t9 j)) (hk : xj.kind = 3) (htx : xj.text = [33, 61]) (hq : ∀ w', Ex w w' → Calls Tryz.prog 53 #[.slice (some ⟨b, o, none⟩) ws.length c, .int .i64 ((j : Int) + 1), .int .i64 4] w' (Ret w' (triV 0 0 ⟨#[]⟩ j2 false))) :
    Calls Tryz.prog 53 #[.slice (some ⟨b, o, none⟩) ws.length c, .int .i64 (i : Nat), .int .i64 3] w (Ret w (triV 0 0 ⟨#[]⟩ j2 false)) := by
  have HW := Lib.hid hrw
  have mi : (i : Int) < (ws.length : Int) := by omega
  have mm : (0 : Int) ≤ (i : Int) := by omega
  have mw : (ws.length : Int) ≤ 100000 := by omega
  have HXj := Lib.hid hxj
  have mj : ((j : Nat) : Int) < (ws.length : Int) := by have := (List.getElem?_eq_some_iff.1 hxj).1; omega
  have mj0 : (0 : Int) ≤ ((j : Nat) : Int) := by omega
  have HTj : Hid ((⟨#[33, 61]⟩ : ByteArray) = ⟨xj.text.toArray⟩) := by rw [htx]; exact Lib.hid rfl
  have HS0 : Hid (Ex w (w.alloc (.cells #[.int .i64 0, .int .i64 0, .int .i64 0, .int .i64 0, .string ⟨#[]⟩, .slice none 0 0] 24)) ∧ Zero6 (w.alloc (.cells #[.int .i64 0, .int .i64 0, .int .i64 0, .int .i64 0, .string ⟨#[]⟩, .slice none 0 0] 24)) w.heap.size ∧ w.heap.size < (w.alloc (.cells #[.int .i64 0, .int .i64 0, .int .i64 0, .int .i64 0, .string ⟨#[]⟩, .slice none 0 0] 24)).heap.size) := ⟨(Ex.refl w).alloc _, Blk.new w _ _, by simp⟩
  have ee1 : (((xj.kind : Nat) : Int) == 3) = true := by rw [beq_iff_eq]; omega
  have ee2 : (xj.kind == 3) = true := by rw [beq_iff_eq]; omega
  have ee3 : (((xj.kind : Nat) : Int) != 3) = false := by unfold bne; rw [ee1]; rfl
  have ee4 : (xj.kind != 3) = false := by unfold bne; rw [ee2]; rfl
  clear hk htx
  have HP := Lib.hid hp
  clear hp
  unfold TreeAt at HP
  have HQ := Lib.hid hq
  clear hq
  unfold triV at HQ
  clear hrw hlen hi hxj
  go_enter Tryz.func53, Tryz.ntmps53
  go_wp2_with fail
  refine (HP.out _ (HS0.out.1)).mono ?_
  rintro e W1 ⟨k9, n9, p9, q9, s9, A9, m9, c9, rfl, ht9, hz⟩
  have HS1 : Hid (Ex w W1 ∧ Zero6 W1 w.heap.size ∧ w.heap.size < W1.heap.size) := ⟨(HS0.out.1).trans hz, (HS0.out.2.1).ex hz, ((HS0.out.2.1).ex hz).lt⟩
  have HT9 : Hid (TrC (fun b => w.heap.size + 1 ≤ b) W1 t9 (c6 k9 n9 p9 q9 s9 A9 m9 c9)) := ht9.imp (fun b _ h => Nat.le_trans (Nat.succ_le_of_lt HS0.out.2.2) h)
  clear hz ht9
  have rz := HS1.out.2.1
  have lz := rz.lt
  have r0 := rz.cell 0
  have r1 := rz.cell 1
  have r2 := rz.cell 2
  have r3 := rz.cell 3
  have r4 := rz.cell 4
  have r5 := rz.cell 5
  have f0 := rz.frozen 0
  have f1 := rz.frozen 1
  have f2 := rz.frozen 2
  have f3 := rz.frozen 3
  have f4 := rz.frozen 4
  have f5 := rz.frozen 5
  simp only [List.getElem?_cons_zero, List.getElem?_cons_succ] at r0 r1 r2 r3 r4 r5
  clear rz
  obtain ⟨lb, wj0, wj1, wj2, wj3⟩ := word_cells (HW.out.exx HS1.out.1) HXj.out
  rw [← HTj.out] at wj1
  have HX9 : Hid (Blk (W1.alloc (.cells #[.int .i64 k9, .int .i64 n9, .int .i64 p9, .int .i64 q9, .string s9, .slice A9 m9 c9] 24)) W1.heap.size 24 (c6 k9 n9 p9 q9 s9 A9 m9 c9)) := Blk.new W1 _ _
  go_wp2_with fail
  refine (HQ.out _ (HS1.out.1.alloc _)).mono ?_
  rintro e W2 ⟨rfl, hz⟩
  have HS2 : Hid (Ex w W2 ∧ Zero6 W2 w.heap.size ∧ w.heap.size < W2.heap.size) := ⟨(HS1.out.1.alloc _).trans hz, (HS1.out.2.1.alloc _).ex hz, ((HS1.out.2.1.alloc _).ex hz).lt⟩
  clear hz
  clear lz r0 r1 r2 r3 r4 r5 f0 f1 f2 f3 f4 f5
  clear lb wj0 wj1 wj2 wj3
  have rz := HS2.out.2.1
  have lz := rz.lt
  have r0 := rz.cell 0
  have r1 := rz.cell 1
  have r2 := rz.cell 2
  have r3 := rz.cell 3
  have r4 := rz.cell 4
  have r5 := rz.cell 5
  have f0 := rz.frozen 0
  have f1 := rz.frozen 1
  have f2 := rz.frozen 2
  have f3 := rz.frozen 3
  have f4 := rz.frozen 4
  have f5 := rz.frozen 5
  simp only [List.getElem?_cons_zero, List.getElem?_cons_succ] at r0 r1 r2 r3 r4 r5
  clear rz
  go_wp2_with fail
  refine bodyPost_ret (results_par rfl rfl rfl rfl ((blk6 HS2.out.2.1 _ _ _ _ _ _).alloc _)) rfl ?_
  exact ⟨rfl, (ex6 (Nat.le_refl _) HS2.out.1 _ _ _ _ _ _).alloc _⟩
set_option maxRecDepth 100000 in
set_option maxHeartbeats 6400000 in
theorem p3_op1_ok (ws : List Wd) (b o c i : Nat) (xj : Wd) (w : World) (j j2 : Nat) (t9 t8 : Tr) (hrw : Rw w b o (wdsV ws)) (hlen : ws.length ≤ 100000) (hi : i < ws.length) (hxj : ws[j]? = some xj) (hp : ∀ w', Ex w w' → Calls Tryz.prog 53 #[.slice (some ⟨b, o, none⟩) ws.length c, .int .i64 (i : Nat), .int .i64 4] w' (TreeAt w' t9 j)) (hk : xj.kind = 3) (htx : xj.text = [33, 61]) (hq : ∀ w', Ex w w' → Calls Tryz.prog 53 #[.slice (some ⟨b, o, none⟩) ws.length c, .int .i64 ((j : Int) + 1), .int .i64 4] w' (TreeAt w' t8 j2)) :
    Calls Tryz.prog 53 #[.slice (some ⟨b, o, none⟩) ws.length c, .int .i64 (i : Nat), .int .i64 3] w (TreeAt w (nd 10 [t9, t8]) j2) := by
  have HW := Lib.hid hrw
  have mi : (i : Int) < (ws.length : Int) := by omega
  have mm : (0 : Int) ≤ (i : Int) := by omega
  have mw : (ws.length : Int) ≤ 100000 := by omega
  have HXj := Lib.hid hxj
  have mj : ((j : Nat) : Int) < (ws.length : Int) := by have := (List.getElem?_eq_some_iff.1 hxj).1; omega
  have mj0 : (0 : Int) ≤ ((j : Nat) : Int) := by omega
  have HTj : Hid ((⟨#[33, 61]⟩ : ByteArray) = ⟨xj.text.toArray⟩) := by rw [htx]; exact Lib.hid rfl
  have HS0 : Hid (Ex w (w.alloc (.cells #[.int .i64 0, .int .i64 0, .int .i64 0, .int .i64 0, .string ⟨#[]⟩, .slice none 0 0] 24)) ∧ Zero6 (w.alloc (.cells #[.int .i64 0, .int .i64 0, .int .i64 0, .int .i64 0, .string ⟨#[]⟩, .slice none 0 0] 24)) w.heap.size ∧ w.heap.size < (w.alloc (.cells #[.int .i64 0, .int .i64 0, .int .i64 0, .int .i64 0, .string ⟨#[]⟩, .slice none 0 0] 24)).heap.size) := ⟨(Ex.refl w).alloc _, Blk.new w _ _, by simp⟩
  have ee1 : (((xj.kind : Nat) : Int) == 3) = true := by rw [beq_iff_eq]; omega
  have ee2 : (xj.kind == 3) = true := by rw [beq_iff_eq]; omega
  have ee3 : (((xj.kind : Nat) : Int) != 3) = false := by unfold bne; rw [ee1]; rfl
  have ee4 : (xj.kind != 3) = false := by unfold bne; rw [ee2]; rfl
  clear hk htx
  have HP := Lib.hid hp
  clear hp
  unfold TreeAt at HP
  have HQ := Lib.hid hq
  clear hq
  unfold TreeAt at HQ
  clear hrw hlen hi hxj
  go_enter Tryz.func53, Tryz.ntmps53
  go_wp2_with fail
  refine (HP.out _ (HS0.out.1)).mono ?_
  rintro e W1 ⟨k9, n9, p9, q9, s9, A9, m9, c9, rfl, ht9, hz⟩
  have HS1 : Hid (Ex w W1 ∧ Zero6 W1 w.heap.size ∧ w.heap.size < W1.heap.size) := ⟨(HS0.out.1).trans hz, (HS0.out.2.1).ex hz, ((HS0.out.2.1).ex hz).lt⟩
  have HT9 : Hid (TrC (fun b => w.heap.size + 1 ≤ b) W1 t9 (c6 k9 n9 p9 q9 s9 A9 m9 c9)) := ht9.imp (fun b _ h => Nat.le_trans (Nat.succ_le_of_lt HS0.out.2.2) h)
  clear hz ht9
  have rz := HS1.out.2.1
  have lz := rz.lt
  have r0 := rz.cell 0
  have r1 := rz.cell 1
  have r2 := rz.cell 2
  have r3 := rz.cell 3
  have r4 := rz.cell 4
  have r5 := rz.cell 5
  have f0 := rz.frozen 0
  have f1 := rz.frozen 1
  have f2 := rz.frozen 2
  have f3 := rz.frozen 3
  have f4 := rz.frozen 4
  have f5 := rz.frozen 5
  simp only [List.getElem?_cons_zero, List.getElem?_cons_succ] at r0 r1 r2 r3 r4 r5
  clear rz
  obtain ⟨lb, wj0, wj1, wj2, wj3⟩ := word_cells (HW.out.exx HS1.out.1) HXj.out
  rw [← HTj.out] at wj1
  have HX9 : Hid (Blk (W1.alloc (.cells #[.int .i64 k9, .int .i64 n9, .int .i64 p9, .int .i64 q9, .string s9, .slice A9 m9 c9] 24)) W1.heap.size 24 (c6 k9 n9 p9 q9 s9 A9 m9 c9)) := Blk.new W1 _ _
  go_wp2_with fail
  refine (HQ.out _ (HS1.out.1.alloc _)).mono ?_
  rintro e W2 ⟨k8, n8, p8, q8, s8, A8, m8, c8, rfl, ht8, hz⟩
  have HS2 : Hid (Ex w W2 ∧ Zero6 W2 w.heap.size ∧ w.heap.size < W2.heap.size) := ⟨(HS1.out.1.alloc _).trans hz, (HS1.out.2.1.alloc _).ex hz, ((HS1.out.2.1.alloc _).ex hz).lt⟩
  have HT8 : Hid (TrC (fun b => w.heap.size + 1 ≤ b) W2 t8 (c6 k8 n8 p8 q8 s8 A8 m8 c8)) := ht8.imp (fun b _ h => by have := HS1.out.2.2; simp at h; omega)
  have HT9b := Lib.hid ((HT9.out.ex ((Ex.refl _).alloc (.cells #[.int .i64 k9, .int .i64 n9, .int .i64 p9, .int .i64 q9, .string s9, .slice A9 m9 c9] 24))).ex hz)
  have yz := HX9.out.ex hz
  have yl := yz.lt
  have y0 := yz.cell 0
  have y1 := yz.cell 1
  have y2 := yz.cell 2
  have y3 := yz.cell 3
  have y4 := yz.cell 4
  have y5 := yz.cell 5
  simp only [List.getElem?_cons_zero, List.getElem?_cons_succ] at y0 y1 y2 y3 y4 y5
  clear yz
  clear hz ht8
  clear lz r0 r1 r2 r3 r4 r5 f0 f1 f2 f3 f4 f5
  clear lb wj0 wj1 wj2 wj3
  have rz := HS2.out.2.1
  have lz := rz.lt
  have r0 := rz.cell 0
  have r1 := rz.cell 1
  have r2 := rz.cell 2
  have r3 := rz.cell 3
  have r4 := rz.cell 4
  have r5 := rz.cell 5
  have f0 := rz.frozen 0
  have f1 := rz.frozen 1
  have f2 := rz.frozen 2
  have f3 := rz.frozen 3
  have f4 := rz.frozen 4
  have f5 := rz.frozen 5
  simp only [List.getElem?_cons_zero, List.getElem?_cons_succ] at r0 r1 r2 r3 r4 r5
  clear rz
  have HNd := Lib.hid (fun w => rNode_c 10 (some ⟨W2.heap.size + 1, 0, none⟩) 2 2 w)
  have HB9 : Hid (Blk ((W2.alloc (.cells #[.int .i64 k8, .int .i64 n8, .int .i64 p8, .int .i64 q8, .string s8, .slice A8 m8 c8] 24)).alloc (.cells #[.int .i64 k9, .int .i64 n9, .int .i64 p9, .int .i64 q9, .string s9, .slice A9 m9 c9, .int .i64 k8, .int .i64 n8, .int .i64 p8, .int .i64 q8, .string s8, .slice A8 m8 c8] 24)) (W2.heap.size + 1) 24 ((c6 k9 n9 p9 q9 s9 A9 m9 c9) ++ (c6 k8 n8 p8 q8 s8 A8 m8 c8))) := Blk.new' _ (by simp) _ _
  have HT1 : Hid (TrC (fun b => w.heap.size + 1 ≤ b) ((W2.alloc (.cells #[.int .i64 k8, .int .i64 n8, .int .i64 p8, .int .i64 q8, .string s8, .slice A8 m8 c8] 24)).alloc (.cells #[.int .i64 k9, .int .i64 n9, .int .i64 p9, .int .i64 q9, .string s9, .slice A9 m9 c9, .int .i64 k8, .int .i64 n8, .int .i64 p8, .int .i64 q8, .string s8, .slice A8 m8 c8] 24)) (nd 10 [t9, t8]) (c6 10 0 0 0 ⟨#[]⟩ (some ⟨W2.heap.size + 1, 0, none⟩) 2 2)) := TrC.two ((HT9b.out.ex ((Ex.refl _).alloc _)).ex ((Ex.refl _).alloc _)) ((HT8.out.ex ((Ex.refl _).alloc _)).ex ((Ex.refl _).alloc _)) 10 HB9.out (by have := HS2.out.2.2; omega)
  go_wp2_with fail
  generalize W2.heap.size + 1 = n8 at *
  refine (HNd.out _).mono ?_
  rintro e W3 ⟨rfl, hz⟩
  have HS3 : Hid (Ex w W3 ∧ Zero6 W3 w.heap.size) := ⟨((HS2.out.1.alloc _).alloc _).trans hz, (((HS2.out.2.1.alloc _).alloc _).ex hz)⟩
  have HT3 := Lib.hid (HT1.out.ex hz)
  clear hz
  clear lz r0 r1 r2 r3 r4 r5 f0 f1 f2 f3 f4 f5
  have rz := HS3.out.2
  have lz := rz.lt
  have r0 := rz.cell 0
  have r1 := rz.cell 1
  have r2 := rz.cell 2
  have r3 := rz.cell 3
  have r4 := rz.cell 4
  have r5 := rz.cell 5
  have f0 := rz.frozen 0
  have f1 := rz.frozen 1
  have f2 := rz.frozen 2
  have f3 := rz.frozen 3
  have f4 := rz.frozen 4
  have f5 := rz.frozen 5
  simp only [List.getElem?_cons_zero, List.getElem?_cons_succ] at r0 r1 r2 r3 r4 r5
  clear rz
  go_wp2_with fail
  refine bodyPost_ret (results_par rfl rfl rfl rfl (blk6 HS3.out.2 _ _ _ _ _ _)) rfl ?_
  exact tree_end (Nat.le_refl _) HT3.out (fun b h => ⟨by omega, by omega⟩) HS3.out.1
set_option maxRecDepth 100000 in
set_option maxHeartbeats 6400000 in
theorem p3_op2_bad (ws : List Wd) (b o c i : Nat) (xj : Wd) (w : World) (j j2 : Nat) (t9 : Tr) (hrw : Rw w b o (wdsV ws)) (hlen : ws.length ≤ 100000) (hi : i < ws.length) (hxj : ws[j]? = some xj) (hp : ∀ w', Ex w w' → Calls Tryz.prog 53 #[.slice (some ⟨b, o, none⟩) ws.length c, .int .i64 (i : Nat), .int .i64 4] w' (TreeAt w' t9 j)) (hk : xj.kind = 3) (htx : xj.text = [60]) (hq : ∀ w', Ex w w' → Calls Tryz.prog 53 #[.slice (some ⟨b, o, none⟩) ws.length c, .int .i64 ((j : Int) + 1), .int .i64 4] w' (Ret w' (triV 0 0 ⟨#[]⟩ j2 false))) :
    Calls Tryz.prog 53 #[.slice (some ⟨b, o, none⟩) ws.length c, .int .i64 (i : Nat), .int .i64 3] w (Ret w (triV 0 0 ⟨#[]⟩ j2 false)) := by
  have HW := Lib.hid hrw
  have mi : (i : Int) < (ws.length : Int) := by omega
  have mm : (0 : Int) ≤ (i : Int) := by omega
  have mw : (ws.length : Int) ≤ 100000 := by omega
  have HXj := Lib.hid hxj
  have mj : ((j : Nat) : Int) < (ws.length : Int) := by have := (List.getElem?_eq_some_iff.1 hxj).1; omega
  have mj0 : (0 : Int) ≤ ((j : Nat) : Int) := by omega
  have HTj : Hid ((⟨#[60]⟩ : ByteArray) = ⟨xj.text.toArray⟩) := by rw [htx]; exact Lib.hid rfl
  have HS0 : Hid (Ex w (w.alloc (.cells #[.int .i64 0, .int .i64 0, .int .i64 0, .int .i64 0, .string ⟨#[]⟩, .slice none 0 0] 24)) ∧ Zero6 (w.alloc (.cells #[.int .i64 0, .int .i64 0, .int .i64 0, .int .i64 0, .string ⟨#[]⟩, .slice none 0 0] 24)) w.heap.size ∧ w.heap.size < (w.alloc (.cells #[.int .i64 0, .int .i64 0, .int .i64 0, .int .i64 0, .string ⟨#[]⟩, .slice none 0 0] 24)).heap.size) := ⟨(Ex.refl w).alloc _, Blk.new w _ _, by simp⟩
  have ee1 : (((xj.kind : Nat) : Int) == 3) = true := by rw [beq_iff_eq]; omega
  have ee2 : (xj.kind == 3) = true := by rw [beq_iff_eq]; omega
  have ee3 : (((xj.kind : Nat) : Int) != 3) = false := by unfold bne; rw [ee1]; rfl
  have ee4 : (xj.kind != 3) = false := by unfold bne; rw [ee2]; rfl
  clear hk htx
  have HP := Lib.hid hp
  clear hp
  unfold TreeAt at HP
  have HQ := Lib.hid hq
  clear hq
  unfold triV at HQ
  clear hrw hlen hi hxj
  go_enter Tryz.func53, Tryz.ntmps53
  go_wp2_with fail
  refine (HP.out _ (HS0.out.1)).mono ?_
  rintro e W1 ⟨k9, n9, p9, q9, s9, A9, m9, c9, rfl, ht9, hz⟩
  have HS1 : Hid (Ex w W1 ∧ Zero6 W1 w.heap.size ∧ w.heap.size < W1.heap.size) := ⟨(HS0.out.1).trans hz, (HS0.out.2.1).ex hz, ((HS0.out.2.1).ex hz).lt⟩
  have HT9 : Hid (TrC (fun b => w.heap.size + 1 ≤ b) W1 t9 (c6 k9 n9 p9 q9 s9 A9 m9 c9)) := ht9.imp (fun b _ h => Nat.le_trans (Nat.succ_le_of_lt HS0.out.2.2) h)
  clear hz ht9
  have rz := HS1.out.2.1
  have lz := rz.lt
  have r0 := rz.cell 0
  have r1 := rz.cell 1
  have r2 := rz.cell 2
  have r3 := rz.cell 3
  have r4 := rz.cell 4
  have r5 := rz.cell 5
  have f0 := rz.frozen 0
  have f1 := rz.frozen 1
  have f2 := rz.frozen 2
  have f3 := rz.frozen 3
  have f4 := rz.frozen 4
  have f5 := rz.frozen 5
  simp only [List.getElem?_cons_zero, List.getElem?_cons_succ] at r0 r1 r2 r3 r4 r5
  clear rz
  obtain ⟨lb, wj0, wj1, wj2, wj3⟩ := word_cells (HW.out.exx HS1.out.1) HXj.out
  rw [← HTj.out] at wj1
  have HX9 : Hid (Blk (W1.alloc (.cells #[.int .i64 k9, .int .i64 n9, .int .i64 p9, .int .i64 q9, .string s9, .slice A9 m9 c9] 24)) W1.heap.size 24 (c6 k9 n9 p9 q9 s9 A9 m9 c9)) := Blk.new W1 _ _
  go_wp2_with fail
  refine (HQ.out _ (HS1.out.1.alloc _)).mono ?_
  rintro e W2 ⟨rfl, hz⟩
  have HS2 : Hid (Ex w W2 ∧ Zero6 W2 w.heap.size ∧ w.heap.size < W2.heap.size) := ⟨(HS1.out.1.alloc _).trans hz, (HS1.out.2.1.alloc _).ex hz, ((HS1.out.2.1.alloc _).ex hz).lt⟩
  clear hz
  clear lz r0 r1 r2 r3 r4 r5 f0 f1 f2 f3 f4 f5
  clear lb wj0 wj1 wj2 wj3
  have rz := HS2.out.2.1
  have lz := rz.lt
  have r0 := rz.cell 0
  have r1 := rz.cell 1
  have r2 := rz.cell 2
  have r3 := rz.cell 3
  have r4 := rz.cell 4
  have r5 := rz.cell 5
  have f0 := rz.frozen 0
  have f1 := rz.frozen 1
  have f2 := rz.frozen 2
  have f3 := rz.frozen 3
  have f4 := rz.frozen 4
  have f5 := rz.frozen 5
  simp only [List.getElem?_cons_zero, List.getElem?_cons_succ] at r0 r1 r2 r3 r4 r5
  clear rz
  go_wp2_with fail
  refine bodyPost_ret (results_par rfl rfl rfl rfl ((blk6 HS2.out.2.1 _ _ _ _ _ _).alloc _)) rfl ?_
  exact ⟨rfl, (ex6 (Nat.le_refl _) HS2.out.1 _ _ _ _ _ _).alloc _⟩
set_option maxRecDepth 100000 in
set_option maxHeartbeats 6400000 in
theorem p3_op2_ok (ws : List Wd) (b o c i : Nat) (xj : Wd) (w : World) (j j2 : Nat) (t9 t8 : Tr) (hrw : Rw w b o (wdsV ws)) (hlen : ws.length ≤ 100000) (hi : i < ws.length) (hxj : ws[j]? = some xj) (hp : ∀ w', Ex w w' → Calls Tryz.prog 53 #[.slice (some ⟨b, o, none⟩) ws.length c, .int .i64 (i : Nat), .int .i64 4] w' (TreeAt w' t9 j)) (hk : xj.kind = 3) (htx : xj.text = [60]) (hq : ∀ w', Ex w w' → Calls Tryz.prog 53 #[.slice (some ⟨b, o, none⟩) ws.length c, .int .i64 ((j : Int) + 1), .int .i64 4] w' (TreeAt w' t8 j2)) :
    Calls Tryz.prog 53 #[.slice (some ⟨b, o, none⟩) ws.length c, .int .i64 (i : Nat), .int .i64 3] w (TreeAt w (nd 11 [t9, t8]) j2) := by
  have HW := Lib.hid hrw
  have mi : (i : Int) < (ws.length : Int) := by omega
  have mm : (0 : Int) ≤ (i : Int) := by omega
  have mw : (ws.length : Int) ≤ 100000 := by omega
  have HXj := Lib.hid hxj
  have mj : ((j : Nat) : Int) < (ws.length : Int) := by have := (List.getElem?_eq_some_iff.1 hxj).1; omega
  have mj0 : (0 : Int) ≤ ((j : Nat) : Int) := by omega
  have HTj : Hid ((⟨#[60]⟩ : ByteArray) = ⟨xj.text.toArray⟩) := by rw [htx]; exact Lib.hid rfl
  have HS0 : Hid (Ex w (w.alloc (.cells #[.int .i64 0, .int .i64 0, .int .i64 0, .int .i64 0, .string ⟨#[]⟩, .slice none 0 0] 24)) ∧ Zero6 (w.alloc (.cells #[.int .i64 0, .int .i64 0, .int .i64 0, .int .i64 0, .string ⟨#[]⟩, .slice none 0 0] 24)) w.heap.size ∧ w.heap.size < (w.alloc (.cells #[.int .i64 0, .int .i64 0, .int .i64 0, .int .i64 0, .string ⟨#[]⟩, .slice none 0 0] 24)).heap.size) := ⟨(Ex.refl w).alloc _, Blk.new w _ _, by simp⟩
  have ee1 : (((xj.kind : Nat) : Int) == 3) = true := by rw [beq_iff_eq]; omega
  have ee2 : (xj.kind == 3) = true := by rw [beq_iff_eq]; omega
  have ee3 : (((xj.kind : Nat) : Int) != 3) = false := by unfold bne; rw [ee1]; rfl
  have ee4 : (xj.kind != 3) = false := by unfold bne; rw [ee2]; rfl
  clear hk htx
  have HP := Lib.hid hp
  clear hp
  unfold TreeAt at HP
  have HQ := Lib.hid hq
  clear hq
  unfold TreeAt at HQ
  clear hrw hlen hi hxj
  go_enter Tryz.func53, Tryz.ntmps53
  go_wp2_with fail
  refine (HP.out _ (HS0.out.1)).mono ?_
  rintro e W1 ⟨k9, n9, p9, q9, s9, A9, m9, c9, rfl, ht9, hz⟩
  have HS1 : Hid (Ex w W1 ∧ Zero6 W1 w.heap.size ∧ w.heap.size < W1.heap.size) := ⟨(HS0.out.1).trans hz, (HS0.out.2.1).ex hz, ((HS0.out.2.1).ex hz).lt⟩
  have HT9 : Hid (TrC (fun b => w.heap.size + 1 ≤ b) W1 t9 (c6 k9 n9 p9 q9 s9 A9 m9 c9)) := ht9.imp (fun b _ h => Nat.le_trans (Nat.succ_le_of_lt HS0.out.2.2) h)
  clear hz ht9
  have rz := HS1.out.2.1
  have lz := rz.lt
  have r0 := rz.cell 0
  have r1 := rz.cell 1
  have r2 := rz.cell 2
  have r3 := rz.cell 3
  have r4 := rz.cell 4
  have r5 := rz.cell 5
  have f0 := rz.frozen 0
  have f1 := rz.frozen 1
  have f2 := rz.frozen 2
  have f3 := rz.frozen 3
  have f4 := rz.frozen 4
  have f5 := rz.frozen 5
  simp only [List.getElem?_cons_zero, List.getElem?_cons_succ] at r0 r1 r2 r3 r4 r5
  clear rz
  obtain ⟨lb, wj0, wj1, wj2, wj3⟩ := word_cells (HW.out.exx HS1.out.1) HXj.out
  rw [← HTj.out] at wj1
  have HX9 : Hid (Blk (W1.alloc (.cells #[.int .i64 k9, .int .i64 n9, .int .i64 p9, .int .i64 q9, .string s9, .slice A9 m9 c9] 24)) W1.heap.size 24 (c6 k9 n9 p9 q9 s9 A9 m9 c9)) := Blk.new W1 _ _
  go_wp2_with fail
  refine (HQ.out _ (HS1.out.1.alloc _)).mono ?_
  rintro e W2 ⟨k8, n8, p8, q8, s8, A8, m8, c8, rfl, ht8, hz⟩
  have HS2 : Hid (Ex w W2 ∧ Zero6 W2 w.heap.size ∧ w.heap.size < W2.heap.size) := ⟨(HS1.out.1.alloc _).trans hz, (HS1.out.2.1.alloc _).ex hz, ((HS1.out.2.1.alloc _).ex hz).lt⟩
  have HT8 : Hid (TrC (fun b => w.heap.size + 1 ≤ b) W2 t8 (c6 k8 n8 p8 q8 s8 A8 m8 c8)) := ht8.imp (fun b _ h => by have := HS1.out.2.2; simp at h; omega)
  have HT9b := Lib.hid ((HT9.out.ex ((Ex.refl _).alloc (.cells #[.int .i64 k9, .int .i64 n9, .int .i64 p9, .int .i64 q9, .string s9, .slice A9 m9 c9] 24))).ex hz)
  have yz := HX9.out.ex hz
  have yl := yz.lt
  have y0 := yz.cell 0
  have y1 := yz.cell 1
  have y2 := yz.cell 2
  have y3 := yz.cell 3
  have y4 := yz.cell 4
  have y5 := yz.cell 5
  simp only [List.getElem?_cons_zero, List.getElem?_cons_succ] at y0 y1 y2 y3 y4 y5
  clear yz
  clear hz ht8
  clear lz r0 r1 r2 r3 r4 r5 f0 f1 f2 f3 f4 f5
  clear lb wj0 wj1 wj2 wj3
  have rz := HS2.out.2.1
  have lz := rz.lt
  have r0 := rz.cell 0
  have r1 := rz.cell 1
  have r2 := rz.cell 2
  have r3 := rz.cell 3
  have r4 := rz.cell 4
  have r5 := rz.cell 5
  have f0 := rz.frozen 0
  have f1 := rz.frozen 1
  have f2 := rz.frozen 2
  have f3 := rz.frozen 3
  have f4 := rz.frozen 4
  have f5 := rz.frozen 5
  simp only [List.getElem?_cons_zero, List.getElem?_cons_succ] at r0 r1 r2 r3 r4 r5
  clear rz
  have HNd := Lib.hid (fun w => rNode_c 11 (some ⟨W2.heap.size + 1, 0, none⟩) 2 2 w)
  have HB9 : Hid (Blk ((W2.alloc (.cells #[.int .i64 k8, .int .i64 n8, .int .i64 p8, .int .i64 q8, .string s8, .slice A8 m8 c8] 24)).alloc (.cells #[.int .i64 k9, .int .i64 n9, .int .i64 p9, .int .i64 q9, .string s9, .slice A9 m9 c9, .int .i64 k8, .int .i64 n8, .int .i64 p8, .int .i64 q8, .string s8, .slice A8 m8 c8] 24)) (W2.heap.size + 1) 24 ((c6 k9 n9 p9 q9 s9 A9 m9 c9) ++ (c6 k8 n8 p8 q8 s8 A8 m8 c8))) := Blk.new' _ (by simp) _ _
  have HT1 : Hid (TrC (fun b => w.heap.size + 1 ≤ b) ((W2.alloc (.cells #[.int .i64 k8, .int .i64 n8, .int .i64 p8, .int .i64 q8, .string s8, .slice A8 m8 c8] 24)).alloc (.cells #[.int .i64 k9, .int .i64 n9, .int .i64 p9, .int .i64 q9, .string s9, .slice A9 m9 c9, .int .i64 k8, .int .i64 n8, .int .i64 p8, .int .i64 q8, .string s8, .slice A8 m8 c8] 24)) (nd 11 [t9, t8]) (c6 11 0 0 0 ⟨#[]⟩ (some ⟨W2.heap.size + 1, 0, none⟩) 2 2)) := TrC.two ((HT9b.out.ex ((Ex.refl _).alloc _)).ex ((Ex.refl _).alloc _)) ((HT8.out.ex ((Ex.refl _).alloc _)).ex ((Ex.refl _).alloc _)) 11 HB9.out (by have := HS2.out.2.2; omega)
  go_wp2_with fail
  generalize W2.heap.size + 1 = n8 at *
  refine (HNd.out _).mono ?_
  rintro e W3 ⟨rfl, hz⟩
  have HS3 : Hid (Ex w W3 ∧ Zero6 W3 w.heap.size) := ⟨((HS2.out.1.alloc _).alloc _).trans hz, (((HS2.out.2.1.alloc _).alloc _).ex hz)⟩
  have HT3 := Lib.hid (HT1.out.ex hz)
  clear hz
  clear lz r0 r1 r2 r3 r4 r5 f0 f1 f2 f3 f4 f5
  have rz := HS3.out.2
  have lz := rz.lt
  have r0 := rz.cell 0
  have r1 := rz.cell 1
  have r2 := rz.cell 2
  have r3 := rz.cell 3
  have r4 := rz.cell 4
  have r5 := rz.cell 5
  have f0 := rz.frozen 0
  have f1 := rz.frozen 1
  have f2 := rz.frozen 2
  have f3 := rz.frozen 3
  have f4 := rz.frozen 4
  have f5 := rz.frozen 5
  simp only [List.getElem?_cons_zero, List.getElem?_cons_succ] at r0 r1 r2 r3 r4 r5
  clear rz
  go_wp2_with fail
  refine bodyPost_ret (results_par rfl rfl rfl rfl (blk6 HS3.out.2 _ _ _ _ _ _)) rfl ?_
  exact tree_end (Nat.le_refl _) HT3.out (fun b h => ⟨by omega, by omega⟩) HS3.out.1
set_option maxRecDepth 100000 in
set_option maxHeartbeats 6400000 in
theorem p3_op3_bad (ws : List Wd) (b o c i : Nat) (xj : Wd) (w : World) (j j2 : Nat) (t9 : Tr) (hrw : Rw w b o (wdsV ws)) (hlen : ws.length ≤ 100000) (hi : i < ws.length) (hxj : ws[j]? = some xj) (hp : ∀ w', Ex w w' → Calls Tryz.prog 53 #[.slice (some ⟨b, o, none⟩) ws.length c, .int .i64 (i : Nat), .int .i64 4] w' (TreeAt w' t9 j)) (hk : xj.kind = 3) (htx : xj.text = [60, 61]) (hq : ∀ w', Ex w w' → Calls Tryz.prog 53 #[.slice (some ⟨b, o, none⟩) ws.length c, .int .i64 ((j : Int) + 1), .int .i64 4] w' (Ret w' (triV 0 0 ⟨#[]⟩ j2 false))) :
    Calls Tryz.prog 53 #[.slice (some ⟨b, o, none⟩) ws.length c, .int .i64 (i : Nat), .int .i64 3] w (Ret w (triV 0 0 ⟨#[]⟩ j2 false)) := by
  have HW := Lib.hid hrw
  have mi : (i : Int) < (ws.length : Int) := by omega
  have mm : (0 : Int) ≤ (i : Int) := by omega
  have mw : (ws.length : Int) ≤ 100000 := by omega
  have HXj := Lib.hid hxj
  have mj : ((j : Nat) : Int) < (ws.length : Int) := by have := (List.getElem?_eq_some_iff.1 hxj).1; omega
  have mj0 : (0 : Int) ≤ ((j : Nat) : Int) := by omega
  have HTj : Hid ((⟨#[60, 61]⟩ : ByteArray) = ⟨xj.text.toArray⟩) := by rw [htx]; exact Lib.hid rfl
  have HS0 : Hid (Ex w (w.alloc (.cells #[.int .i64 0, .int .i64 0, .int .i64 0, .int .i64 0, .string ⟨#[]⟩, .slice none 0 0] 24)) ∧ Zero6 (w.alloc (.cells #[.int .i64 0, .int .i64 0, .int .i64 0, .int .i64 0, .string ⟨#[]⟩, .slice none 0 0] 24)) w.heap.size ∧ w.heap.size < (w.alloc (.cells #[.int .i64 0, .int .i64 0, .int .i64 0, .int .i64 0, .string ⟨#[]⟩, .slice none 0 0] 24)).heap.size) := ⟨(Ex.refl w).alloc _, Blk.new w _ _, by simp⟩
  have ee1 : (((xj.kind : Nat) : Int) == 3) = true := by rw [beq_iff_eq]; omega
  have ee2 : (xj.kind == 3) = true := by rw [beq_iff_eq]; omega
  have ee3 : (((xj.kind : Nat) : Int) != 3) = false := by unfold bne; rw [ee1]; rfl
  have ee4 : (xj.kind != 3) = false := by unfold bne; rw [ee2]; rfl
  clear hk htx
  have HP := Lib.hid hp
  clear hp
  unfold TreeAt at HP
  have HQ := Lib.hid hq
  clear hq
  unfold triV at HQ
  clear hrw hlen hi hxj
  go_enter Tryz.func53, Tryz.ntmps53
  go_wp2_with fail
  refine (HP.out _ (HS0.out.1)).mono ?_
  rintro e W1 ⟨k9, n9, p9, q9, s9, A9, m9, c9, rfl, ht9, hz⟩
  have HS1 : Hid (Ex w W1 ∧ Zero6 W1 w.heap.size ∧ w.heap.size < W1.heap.size) := ⟨(HS0.out.1).trans hz, (HS0.out.2.1).ex hz, ((HS0.out.2.1).ex hz).lt⟩
  have HT9 : Hid (TrC (fun b => w.heap.size + 1 ≤ b) W1 t9 (c6 k9 n9 p9 q9 s9 A9 m9 c9)) := ht9.imp (fun b _ h => Nat.le_trans (Nat.succ_le_of_lt HS0.out.2.2) h)
  clear hz ht9
  have rz := HS1.out.2.1
  have lz := rz.lt
  have r0 := rz.cell 0
  have r1 := rz.cell 1
  have r2 := rz.cell 2
  have r3 := rz.cell 3
  have r4 := rz.cell 4
  have r5 := rz.cell 5
  have f0 := rz.frozen 0
  have f1 := rz.frozen 1
  have f2 := rz.frozen 2
  have f3 := rz.frozen 3
  have f4 := rz.frozen 4
  have f5 := rz.frozen 5
  simp only [List.getElem?_cons_zero, List.getElem?_cons_succ] at r0 r1 r2 r3 r4 r5
  clear rz
  obtain ⟨lb, wj0, wj1, wj2, wj3⟩ := word_cells (HW.out.exx HS1.out.1) HXj.out
  rw [← HTj.out] at wj1
  have HX9 : Hid (Blk (W1.alloc (.cells #[.int .i64 k9, .int .i64 n9, .int .i64 p9, .int .i64 q9, .string s9, .slice A9 m9 c9] 24)) W1.heap.size 24 (c6 k9 n9 p9 q9 s9 A9 m9 c9)) := Blk.new W1 _ _
  go_wp2_with fail
  refine (HQ.out _ (HS1.out.1.alloc _)).mono ?_
  rintro e W2 ⟨rfl, hz⟩
  have HS2 : Hid (Ex w W2 ∧ Zero6 W2 w.heap.size ∧ w.heap.size < W2.heap.size) := ⟨(HS1.out.1.alloc _).trans hz, (HS1.out.2.1.alloc _).ex hz, ((HS1.out.2.1.alloc _).ex hz).lt⟩
  clear hz
  clear lz r0 r1 r2 r3 r4 r5 f0 f1 f2 f3 f4 f5
  clear lb wj0 wj1 wj2 wj3
  have rz := HS2.out.2.1
  have lz := rz.lt
  have r0 := rz.cell 0
  have r1 := rz.cell 1
  have r2 := rz.cell 2
  have r3 := rz.cell 3
  have r4 := rz.cell 4
  have r5 := rz.cell 5
  have f0 := rz.frozen 0
  have f1 := rz.frozen 1
  have f2 := rz.frozen 2
  have f3 := rz.frozen 3
  have f4 := rz.frozen 4
  have f5 := rz.frozen 5
  simp only [List.getElem?_cons_zero, List.getElem?_cons_succ] at r0 r1 r2 r3 r4 r5
  clear rz
  go_wp2_with fail
  refine bodyPost_ret (results_par rfl rfl rfl rfl ((blk6 HS2.out.2.1 _ _ _ _ _ _).alloc _)) rfl ?_
  exact ⟨rfl, (ex6 (Nat.le_refl _) HS2.out.1 _ _ _ _ _ _).alloc _⟩
set_option maxRecDepth 100000 in
set_option maxHeartbeats 6400000 in
theorem p3_op3_ok (ws : List Wd) (b o c i : Nat) (xj : Wd) (w : World) (j j2 : Nat) (t9 t8 : Tr) (hrw : Rw w b o (wdsV ws)) (hlen : ws.length ≤ 100000) (hi : i < ws.length) (hxj : ws[j]? = some xj) (hp : ∀ w', Ex w w' → Calls Tryz.prog 53 #[.slice (some ⟨b, o, none⟩) ws.length c, .int .i64 (i : Nat), .int .i64 4] w' (TreeAt w' t9 j)) (hk : xj.kind = 3) (htx : xj.text = [60, 61]) (hq : ∀ w', Ex w w' → Calls Tryz.prog 53 #[.slice (some ⟨b, o, none⟩) ws.length c, .int .i64 ((j : Int) + 1), .int .i64 4] w' (TreeAt w' t8 j2)) :
    Calls Tryz.prog 53 #[.slice (some ⟨b, o, none⟩) ws.length c, .int .i64 (i : Nat), .int .i64 3] w (TreeAt w (nd 12 [t9, t8]) j2) := by
  have HW := Lib.hid hrw
  have mi : (i : Int) < (ws.length : Int) := by omega
  have mm : (0 : Int) ≤ (i : Int) := by omega
  have mw : (ws.length : Int) ≤ 100000 := by omega
  have HXj := Lib.hid hxj
  have mj : ((j : Nat) : Int) < (ws.length : Int) := by have := (List.getElem?_eq_some_iff.1 hxj).1; omega
  have mj0 : (0 : Int) ≤ ((j : Nat) : Int) := by omega
  have HTj : Hid ((⟨#[60, 61]⟩ : ByteArray) = ⟨xj.text.toArray⟩) := by rw [htx]; exact Lib.hid rfl
  have HS0 : Hid (Ex w (w.alloc (.cells #[.int .i64 0, .int .i64 0, .int .i64 0, .int .i64 0, .string ⟨#[]⟩, .slice none 0 0] 24)) ∧ Zero6 (w.alloc (.cells #[.int .i64 0, .int .i64 0, .int .i64 0, .int .i64 0, .string ⟨#[]⟩, .slice none 0 0] 24)) w.heap.size ∧ w.heap.size < (w.alloc (.cells #[.int .i64 0, .int .i64 0, .int .i64 0, .int .i64 0, .string ⟨#[]⟩, .slice none 0 0] 24)).heap.size) := ⟨(Ex.refl w).alloc _, Blk.new w _ _, by simp⟩
  have ee1 : (((xj.kind : Nat) : Int) == 3) = true := by rw [beq_iff_eq]; omega
  have ee2 : (xj.kind == 3) = true := by rw [beq_iff_eq]; omega
  have ee3 : (((xj.kind : Nat) : Int) != 3) = false := by unfold bne; rw [ee1]; rfl
  have ee4 : (xj.kind != 3) = false := by unfold bne; rw [ee2]; rfl
  clear hk htx
  have HP := Lib.hid hp
  clear hp
  unfold TreeAt at HP
  have HQ := Lib.hid hq
  clear hq
  unfold TreeAt at HQ
  clear hrw hlen hi hxj
  go_enter Tryz.func53, Tryz.ntmps53
  go_wp2_with fail
  refine (HP.out _ (HS0.out.1)).mono ?_
  rintro e W1 ⟨k9, n9, p9, q9, s9, A9, m9, c9, rfl, ht9, hz⟩
  have HS1 : Hid (Ex w W1 ∧ Zero6 W1 w.heap.size ∧ w.heap.size < W1.heap.size) := ⟨(HS0.out.1).trans hz, (HS0.out.2.1).ex hz, ((HS0.out.2.1).ex hz).lt⟩
  have HT9 : Hid (TrC (fun b => w.heap.size + 1 ≤ b) W1 t9 (c6 k9 n9 p9 q9 s9 A9 m9 c9)) := ht9.imp (fun b _ h => Nat.le_trans (Nat.succ_le_of_lt HS0.out.2.2) h)
  clear hz ht9
  have rz := HS1.out.2.1
  have lz := rz.lt
  have r0 := rz.cell 0
  have r1 := rz.cell 1
  have r2 := rz.cell 2
  have r3 := rz.cell 3
  have r4 := rz.cell 4
  have r5 := rz.cell 5
  have f0 := rz.frozen 0
  have f1 := rz.frozen 1
  have f2 := rz.frozen 2
  have f3 := rz.frozen 3
  have f4 := rz.frozen 4
  have f5 := rz.frozen 5
  simp only [List.getElem?_cons_zero, List.getElem?_cons_succ] at r0 r1 r2 r3 r4 r5
  clear rz
  obtain ⟨lb, wj0, wj1, wj2, wj3⟩ := word_cells (HW.out.exx HS1.out.1) HXj.out
  rw [← HTj.out] at wj1
  have HX9 : Hid (Blk (W1.alloc (.cells #[.int .i64 k9, .int .i64 n9, .int .i64 p9, .int .i64 q9, .string s9, .slice A9 m9 c9] 24)) W1.heap.size 24 (c6 k9 n9 p9 q9 s9 A9 m9 c9)) := Blk.new W1 _ _
  go_wp2_with fail
  refine (HQ.out _ (HS1.out.1.alloc _)).mono ?_
  rintro e W2 ⟨k8, n8, p8, q8, s8, A8, m8, c8, rfl, ht8, hz⟩
  have HS2 : Hid (Ex w W2 ∧ Zero6 W2 w.heap.size ∧ w.heap.size < W2.heap.size) := ⟨(HS1.out.1.alloc _).trans hz, (HS1.out.2.1.alloc _).ex hz, ((HS1.out.2.1.alloc _).ex hz).lt⟩
  have HT8 : Hid (TrC (fun b => w.heap.size + 1 ≤ b) W2 t8 (c6 k8 n8 p8 q8 s8 A8 m8 c8)) := ht8.imp (fun b _ h => by have := HS1.out.2.2; simp at h; omega)
  have HT9b := Lib.hid ((HT9.out.ex ((Ex.refl _).alloc (.cells #[.int .i64 k9, .int .i64 n9, .int .i64 p9, .int .i64 q9, .string s9, .slice A9 m9 c9] 24))).ex hz)
  have yz := HX9.out.ex hz
  have yl := yz.lt
  have y0 := yz.cell 0
  have y1 := yz.cell 1
  have y2 := yz.cell 2
  have y3 := yz.cell 3
  have y4 := yz.cell 4
  have y5 := yz.cell 5
  simp only [List.getElem?_cons_zero, List.getElem?_cons_succ] at y0 y1 y2 y3 y4 y5
  clear yz
  clear hz ht8
  clear lz r0 r1 r2 r3 r4 r5 f0 f1 f2 f3 f4 f5
  clear lb wj0 wj1 wj2 wj3
  have rz := HS2.out.2.1
  have lz := rz.lt
  have r0 := rz.cell 0
  have r1 := rz.cell 1
  have r2 := rz.cell 2
  have r3 := rz.cell 3
  have r4 := rz.cell 4
  have r5 := rz.cell 5
  have f0 := rz.frozen 0
  have f1 := rz.frozen 1
  have f2 := rz.frozen 2
  have f3 := rz.frozen 3
  have f4 := rz.frozen 4
  have f5 := rz.frozen 5
  simp only [List.getElem?_cons_zero, List.getElem?_cons_succ] at r0 r1 r2 r3 r4 r5
  clear rz
  have HNd := Lib.hid (fun w => rNode_c 12 (some ⟨W2.heap.size + 1, 0, none⟩) 2 2 w)
  have HB9 : Hid (Blk ((W2.alloc (.cells #[.int .i64 k8, .int .i64 n8, .int .i64 p8, .int .i64 q8, .string s8, .slice A8 m8 c8] 24)).alloc (.cells #[.int .i64 k9, .int .i64 n9, .int .i64 p9, .int .i64 q9, .string s9, .slice A9 m9 c9, .int .i64 k8, .int .i64 n8, .int .i64 p8, .int .i64 q8, .string s8, .slice A8 m8 c8] 24)) (W2.heap.size + 1) 24 ((c6 k9 n9 p9 q9 s9 A9 m9 c9) ++ (c6 k8 n8 p8 q8 s8 A8 m8 c8))) := Blk.new' _ (by simp) _ _
  have HT1 : Hid (TrC (fun b => w.heap.size + 1 ≤ b) ((W2.alloc (.cells #[.int .i64 k8, .int .i64 n8, .int .i64 p8, .int .i64 q8, .string s8, .slice A8 m8 c8] 24)).alloc (.cells #[.int .i64 k9, .int .i64 n9, .int .i64 p9, .int .i64 q9, .string s9, .slice A9 m9 c9, .int .i64 k8, .int .i64 n8, .int .i64 p8, .int .i64 q8, .string s8, .slice A8 m8 c8] 24)) (nd 12 [t9, t8]) (c6 12 0 0 0 ⟨#[]⟩ (some ⟨W2.heap.size + 1, 0, none⟩) 2 2)) := TrC.two ((HT9b.out.ex ((Ex.refl _).alloc _)).ex ((Ex.refl _).alloc _)) ((HT8.out.ex ((Ex.refl _).alloc _)).ex ((Ex.refl _).alloc _)) 12 HB9.out (by have := HS2.out.2.2; omega)
  go_wp2_with fail
  generalize W2.heap.size + 1 = n8 at *
  refine (HNd.out _).mono ?_
  rintro e W3 ⟨rfl, hz⟩
  have HS3 : Hid (Ex w W3 ∧ Zero6 W3 w.heap.size) := ⟨((HS2.out.1.alloc _).alloc _).trans hz, (((HS2.out.2.1.alloc _).alloc _).ex hz)⟩
  have HT3 := Lib.hid (HT1.out.ex hz)
  clear hz
  clear lz r0 r1 r2 r3 r4 r5 f0 f1 f2 f3 f4 f5
  have rz := HS3.out.2
  have lz := rz.lt
  have r0 := rz.cell 0
  have r1 := rz.cell 1
  have r2 := rz.cell 2
  have r3 := rz.cell 3
  have r4 := rz.cell 4
  have r5 := rz.cell 5
  have f0 := rz.frozen 0
  have f1 := rz.frozen 1
  have f2 := rz.frozen 2
  have f3 := rz.frozen 3
  have f4 := rz.frozen 4
  have f5 := rz.frozen 5
  simp only [List.getElem?_cons_zero, List.getElem?_cons_succ] at r0 r1 r2 r3 r4 r5
  clear rz
  go_wp2_with fail
  refine bodyPost_ret (results_par rfl rfl rfl rfl (blk6 HS3.out.2 _ _ _ _ _ _)) rfl ?_
  exact tree_end (Nat.le_refl _) HT3.out (fun b h => ⟨by omega, by omega⟩) HS3.out.1
set_option maxRecDepth 100000 in
set_option maxHeartbeats 6400000 in
theorem p3_op4_bad (ws : List Wd) (b o c i : Nat) (xj : Wd) (w : World) (j j2 : Nat) (t9 : Tr) (hrw : Rw w b o (wdsV ws)) (hlen : ws.length ≤ 100000) (hi : i < ws.length) (hxj : ws[j]? = some xj) (hp : ∀ w', Ex w w' → Calls Tryz.prog 53 #[.slice (some ⟨b, o, none⟩) ws.length c, .int .i64 (i : Nat), .int .i64 4] w' (TreeAt w' t9 j)) (hk : xj.kind = 3) (htx : xj.text = [62]) (hq : ∀ w', Ex w w' → Calls Tryz.prog 53 #[.slice (some ⟨b, o, none⟩) ws.length c, .int .i64 ((j : Int) + 1), .int .i64 4] w' (Ret w' (triV 0 0 ⟨#[]⟩ j2 false))) :
    Calls Tryz.prog 53 #[.slice (some ⟨b, o, none⟩) ws.length c, .int .i64 (i : Nat), .int .i64 3] w (Ret w (triV 0 0 ⟨#[]⟩ j2 false)) := by
  have HW := Lib.hid hrw
  have mi : (i : Int) < (ws.length : Int) := by omega
  have mm : (0 : Int) ≤ (i : Int) := by omega
  have mw : (ws.length : Int) ≤ 100000 := by omega
  have HXj := Lib.hid hxj
  have mj : ((j : Nat) : Int) < (ws.length : Int) := by have := (List.getElem?_eq_some_iff.1 hxj).1; omega
  have mj0 : (0 : Int) ≤ ((j : Nat) : Int) := by omega
  have HTj : Hid ((⟨#[62]⟩ : ByteArray) = ⟨xj.text.toArray⟩) := by rw [htx]; exact Lib.hid rfl
  have HS0 : Hid (Ex w (w.alloc (.cells #[.int .i64 0, .int .i64 0, .int .i64 0, .int .i64 0, .string ⟨#[]⟩, .slice none 0 0] 24)) ∧ Zero6 (w.alloc (.cells #[.int .i64 0, .int .i64 0, .int .i64 0, .int .i64 0, .string ⟨#[]⟩, .slice none 0 0] 24)) w.heap.size ∧ w.heap.size < (w.alloc (.cells #[.int .i64 0, .int .i64 0, .int .i64 0, .int .i64 0, .string ⟨#[]⟩, .slice none 0 0] 24)).heap.size) := ⟨(Ex.refl w).alloc _, Blk.new w _ _, by simp⟩
  have ee1 : (((xj.kind : Nat) : Int) == 3) = true := by rw [beq_iff_eq]; omega
  have ee2 : (xj.kind == 3) = true := by rw [beq_iff_eq]; omega
  have ee3 : (((xj.kind : Nat) : Int) != 3) = false := by unfold bne; rw [ee1]; rfl
  have ee4 : (xj.kind != 3) = false := by unfold bne; rw [ee2]; rfl
  clear hk htx
  have HP := Lib.hid hp
  clear hp
  unfold TreeAt at HP
  have HQ := Lib.hid hq
  clear hq
  unfold triV at HQ
  clear hrw hlen hi hxj
  go_enter Tryz.func53, Tryz.ntmps53
  go_wp2_with fail
  refine (HP.out _ (HS0.out.1)).mono ?_
  rintro e W1 ⟨k9, n9, p9, q9, s9, A9, m9, c9, rfl, ht9, hz⟩
  have HS1 : Hid (Ex w W1 ∧ Zero6 W1 w.heap.size ∧ w.heap.size < W1.heap.size) := ⟨(HS0.out.1).trans hz, (HS0.out.2.1).ex hz, ((HS0.out.2.1).ex hz).lt⟩
  have HT9 : Hid (TrC (fun b => w.heap.size + 1 ≤ b) W1 t9 (c6 k9 n9 p9 q9 s9 A9 m9 c9)) := ht9.imp (fun b _ h => Nat.le_trans (Nat.succ_le_of_lt HS0.out.2.2) h)
  clear hz ht9
  have rz := HS1.out.2.1
  have lz := rz.lt
  have r0 := rz.cell 0
  have r1 := rz.cell 1
  have r2 := rz.cell 2
  have r3 := rz.cell 3
  have r4 := rz.cell 4
  have r5 := rz.cell 5
  have f0 := rz.frozen 0
  have f1 := rz.frozen 1
  have f2 := rz.frozen 2
  have f3 := rz.frozen 3
  have f4 := rz.frozen 4
  have f5 := rz.frozen 5
  simp only [List.getElem?_cons_zero, List.getElem?_cons_succ] at r0 r1 r2 r3 r4 r5
  clear rz
  obtain ⟨lb, wj0, wj1, wj2, wj3⟩ := word_cells (HW.out.exx HS1.out.1) HXj.out
  rw [← HTj.out] at wj1
  have HX9 : Hid (Blk (W1.alloc (.cells #[.int .i64 k9, .int .i64 n9, .int .i64 p9, .int .i64 q9, .string s9, .slice A9 m9 c9] 24)) W1.heap.size 24 (c6 k9 n9 p9 q9 s9 A9 m9 c9)) := Blk.new W1 _ _
  go_wp2_with fail
  refine (HQ.out _ (HS1.out.1.alloc _)).mono ?_
  rintro e W2 ⟨rfl, hz⟩
  have HS2 : Hid (Ex w W2 ∧ Zero6 W2 w.heap.size ∧ w.heap.size < W2.heap.size) := ⟨(HS1.out.1.alloc _).trans hz, (HS1.out.2.1.alloc _).ex hz, ((HS1.out.2.1.alloc _).ex hz).lt⟩
  clear hz
  clear lz r0 r1 r2 r3 r4 r5 f0 f1 f2 f3 f4 f5
  clear lb wj0 wj1 wj2 wj3
  have rz := HS2.out.2.1
  have lz := rz.lt
  have r0 := rz.cell 0
  have r1 := rz.cell 1
  have r2 := rz.cell 2
  have r3 := rz.cell 3
  have r4 := rz.cell 4
  have r5 := rz.cell 5
  have f0 := rz.frozen 0
  have f1 := rz.frozen 1
  have f2 := rz.frozen 2
  have f3 := rz.frozen 3
  have f4 := rz.frozen 4
  have f5 := rz.frozen 5
  simp only [List.getElem?_cons_zero, List.getElem?_cons_succ] at r0 r1 r2 r3 r4 r5
  clear rz
  go_wp2_with fail
  refine bodyPost_ret (results_par rfl rfl rfl rfl ((blk6 HS2.out.2.1 _ _ _ _ _ _).alloc _)) rfl ?_
  exact ⟨rfl, (ex6 (Nat.le_refl _) HS2.out.1 _ _ _ _ _ _).alloc _⟩
set_option maxRecDepth 100000 in
set_option maxHeartbeats 6400000 in
theorem p3_op4_ok (ws : List Wd) (b o c i : Nat) (xj : Wd) (w : World) (j j2 : Nat) (t9 t8 : Tr) (hrw : Rw w b o (wdsV ws)) (hlen : ws.length ≤ 100000) (hi : i < ws.length) (hxj : ws[j]? = some xj) (hp : ∀ w', Ex w w' → Calls Tryz.prog 53 #[.slice (some ⟨b, o, none⟩) ws.length c, .int .i64 (i : Nat), .int .i64 4] w' (TreeAt w' t9 j)) (hk : xj.kind = 3) (htx : xj.text = [62]) (hq : ∀ w', Ex w w' → Calls Tryz.prog 53 #[.slice (some ⟨b, o, none⟩) ws.length c, .int .i64 ((j : Int) + 1), .int .i64 4] w' (TreeAt w' t8 j2)) :
    Calls Tryz.prog 53 #[.slice (some ⟨b, o, none⟩) ws.length c, .int .i64 (i : Nat), .int .i64 3] w (TreeAt w (nd 11 [t8, t9]) j2) := by
  have HW := Lib.hid hrw
  have mi : (i : Int) < (ws.length : Int) := by omega
  have mm : (0 : Int) ≤ (i : Int) := by omega
  have mw : (ws.length : Int) ≤ 100000 := by omega
  have HXj := Lib.hid hxj
  have mj : ((j : Nat) : Int) < (ws.length : Int) := by have := (List.getElem?_eq_some_iff.1 hxj).1; omega
  have mj0 : (0 : Int) ≤ ((j : Nat) : Int) := by omega
  have HTj : Hid ((⟨#[62]⟩ : ByteArray) = ⟨xj.text.toArray⟩) := by rw [htx]; exact Lib.hid rfl
  have HS0 : Hid (Ex w (w.alloc (.cells #[.int .i64 0, .int .i64 0, .int .i64 0, .int .i64 0, .string ⟨#[]⟩, .slice none 0 0] 24)) ∧ Zero6 (w.alloc (.cells #[.int .i64 0, .int .i64 0, .int .i64 0, .int .i64 0, .string ⟨#[]⟩, .slice none 0 0] 24)) w.heap.size ∧ w.heap.size < (w.alloc (.cells #[.int .i64 0, .int .i64 0, .int .i64 0, .int .i64 0, .string ⟨#[]⟩, .slice none 0 0] 24)).heap.size) := ⟨(Ex.refl w).alloc _, Blk.new w _ _, by simp⟩
  have ee1 : (((xj.kind : Nat) : Int) == 3) = true := by rw [beq_iff_eq]; omega
  have ee2 : (xj.kind == 3) = true := by rw [beq_iff_eq]; omega
  have ee3 : (((xj.kind : Nat) : Int) != 3) = false := by unfold bne; rw [ee1]; rfl
  have ee4 : (xj.kind != 3) = false := by unfold bne; rw [ee2]; rfl
  clear hk htx
  have HP := Lib.hid hp
  clear hp
  unfold TreeAt at HP
  have HQ := Lib.hid hq
  clear hq
  unfold TreeAt at HQ
  clear hrw hlen hi hxj
  go_enter Tryz.func53, Tryz.ntmps53
  go_wp2_with fail
  refine (HP.out _ (HS0.out.1)).mono ?_
  rintro e W1 ⟨k9, n9, p9, q9, s9, A9, m9, c9, rfl, ht9, hz⟩
  have HS1 : Hid (Ex w W1 ∧ Zero6 W1 w.heap.size ∧ w.heap.size < W1.heap.size) := ⟨(HS0.out.1).trans hz, (HS0.out.2.1).ex hz, ((HS0.out.2.1).ex hz).lt⟩
  have HT9 : Hid (TrC (fun b => w.heap.size + 1 ≤ b) W1 t9 (c6 k9 n9 p9 q9 s9 A9 m9 c9)) := ht9.imp (fun b _ h => Nat.le_trans (Nat.succ_le_of_lt HS0.out.2.2) h)
  clear hz ht9
  have rz := HS1.out.2.1
  have lz := rz.lt
  have r0 := rz.cell 0
  have r1 := rz.cell 1
  have r2 := rz.cell 2
  have r3 := rz.cell 3
  have r4 := rz.cell 4
  have r5 := rz.cell 5
  have f0 := rz.frozen 0
  have f1 := rz.frozen 1
  have f2 := rz.frozen 2
  have f3 := rz.frozen 3
  have f4 := rz.frozen 4
  have f5 := rz.frozen 5
  simp only [List.getElem?_cons_zero, List.getElem?_cons_succ] at r0 r1 r2 r3 r4 r5
  clear rz
  obtain ⟨lb, wj0, wj1, wj2, wj3⟩ := word_cells (HW.out.exx HS1.out.1) HXj.out
  rw [← HTj.out] at wj1
  have HX9 : Hid (Blk (W1.alloc (.cells #[.int .i64 k9, .int .i64 n9, .int .i64 p9, .int .i64 q9, .string s9, .slice A9 m9 c9] 24)) W1.heap.size 24 (c6 k9 n9 p9 q9 s9 A9 m9 c9)) := Blk.new W1 _ _
  go_wp2_with fail
  refine (HQ.out _ (HS1.out.1.alloc _)).mono ?_
  rintro e W2 ⟨k8, n8, p8, q8, s8, A8, m8, c8, rfl, ht8, hz⟩
  have HS2 : Hid (Ex w W2 ∧ Zero6 W2 w.heap.size ∧ w.heap.size < W2.heap.size) := ⟨(HS1.out.1.alloc _).trans hz, (HS1.out.2.1.alloc _).ex hz, ((HS1.out.2.1.alloc _).ex hz).lt⟩
  have HT8 : Hid (TrC (fun b => w.heap.size + 1 ≤ b) W2 t8 (c6 k8 n8 p8 q8 s8 A8 m8 c8)) := ht8.imp (fun b _ h => by have := HS1.out.2.2; simp at h; omega)
  have HT9b := Lib.hid ((HT9.out.ex ((Ex.refl _).alloc (.cells #[.int .i64 k9, .int .i64 n9, .int .i64 p9, .int .i64 q9, .string s9, .slice A9 m9 c9] 24))).ex hz)
  have yz := HX9.out.ex hz
  have yl := yz.lt
  have y0 := yz.cell 0
  have y1 := yz.cell 1
  have y2 := yz.cell 2
  have y3 := yz.cell 3
  have y4 := yz.cell 4
  have y5 := yz.cell 5
  simp only [List.getElem?_cons_zero, List.getElem?_cons_succ] at y0 y1 y2 y3 y4 y5
  clear yz
  clear hz ht8
  clear lz r0 r1 r2 r3 r4 r5 f0 f1 f2 f3 f4 f5
  clear lb wj0 wj1 wj2 wj3
  have rz := HS2.out.2.1
  have lz := rz.lt
  have r0 := rz.cell 0
  have r1 := rz.cell 1
  have r2 := rz.cell 2
  have r3 := rz.cell 3
  have r4 := rz.cell 4
  have r5 := rz.cell 5
  have f0 := rz.frozen 0
  have f1 := rz.frozen 1
  have f2 := rz.frozen 2
  have f3 := rz.frozen 3
  have f4 := rz.frozen 4
  have f5 := rz.frozen 5
  simp only [List.getElem?_cons_zero, List.getElem?_cons_succ] at r0 r1 r2 r3 r4 r5
  clear rz
  have HNd := Lib.hid (fun w => rNode_c 11 (some ⟨W2.heap.size + 1, 0, none⟩) 2 2 w)
  have HB9 : Hid (Blk ((W2.alloc (.cells #[.int .i64 k8, .int .i64 n8, .int .i64 p8, .int .i64 q8, .string s8, .slice A8 m8 c8] 24)).alloc (.cells #[.int .i64 k8, .int .i64 n8, .int .i64 p8, .int .i64 q8, .string s8, .slice A8 m8 c8, .int .i64 k9, .int .i64 n9, .int .i64 p9, .int .i64 q9, .string s9, .slice A9 m9 c9] 24)) (W2.heap.size + 1) 24 ((c6 k8 n8 p8 q8 s8 A8 m8 c8) ++ (c6 k9 n9 p9 q9 s9 A9 m9 c9))) := Blk.new' _ (by simp) _ _
  have HT1 : Hid (TrC (fun b => w.heap.size + 1 ≤ b) ((W2.alloc (.cells #[.int .i64 k8, .int .i64 n8, .int .i64 p8, .int .i64 q8, .string s8, .slice A8 m8 c8] 24)).alloc (.cells #[.int .i64 k8, .int .i64 n8, .int .i64 p8, .int .i64 q8, .string s8, .slice A8 m8 c8, .int .i64 k9, .int .i64 n9, .int .i64 p9, .int .i64 q9, .string s9, .slice A9 m9 c9] 24)) (nd 11 [t8, t9]) (c6 11 0 0 0 ⟨#[]⟩ (some ⟨W2.heap.size + 1, 0, none⟩) 2 2)) := TrC.two ((HT8.out.ex ((Ex.refl _).alloc _)).ex ((Ex.refl _).alloc _)) ((HT9b.out.ex ((Ex.refl _).alloc _)).ex ((Ex.refl _).alloc _)) 11 HB9.out (by have := HS2.out.2.2; omega)
  go_wp2_with fail
  generalize W2.heap.size + 1 = n8 at *
  refine (HNd.out _).mono ?_
  rintro e W3 ⟨rfl, hz⟩
  have HS3 : Hid (Ex w W3 ∧ Zero6 W3 w.heap.size) := ⟨((HS2.out.1.alloc _).alloc _).trans hz, (((HS2.out.2.1.alloc _).alloc _).ex hz)⟩
  have HT3 := Lib.hid (HT1.out.ex hz)
  clear hz
  clear lz r0 r1 r2 r3 r4 r5 f0 f1 f2 f3 f4 f5
  have rz := HS3.out.2
  have lz := rz.lt
  have r0 := rz.cell 0
  have r1 := rz.cell 1
  have r2 := rz.cell 2
  have r3 := rz.cell 3
  have r4 := rz.cell 4
  have r5 := rz.cell 5
  have f0 := rz.frozen 0
  have f1 := rz.frozen 1
  have f2 := rz.frozen 2
  have f3 := rz.frozen 3
  have f4 := rz.frozen 4
  have f5 := rz.frozen 5
  simp only [List.getElem?_cons_zero, List.getElem?_cons_succ] at r0 r1 r2 r3 r4 r5
  clear rz
  go_wp2_with fail
  refine bodyPost_ret (results_par rfl rfl rfl rfl (blk6 HS3.out.2 _ _ _ _ _ _)) rfl ?_
  exact tree_end (Nat.le_refl _) HT3.out (fun b h => ⟨by omega, by omega⟩) HS3.out.1
set_option maxRecDepth 100000 in
set_option maxHeartbeats 6400000 in
theorem p3_op5_bad (ws : List Wd) (b o c i : Nat) (xj : Wd) (w : World) (j j2 : Nat) (t9 : Tr) (hrw : Rw w b o (wdsV ws)) (hlen : ws.length ≤ 100000) (hi : i < ws.length) (hxj : ws[j]? = some xj) (hp : ∀ w', Ex w w' → Calls Tryz.prog 53 #[.slice (some ⟨b, o, none⟩) ws.length c, .int .i64 (i : Nat), .int .i64 4] w' (TreeAt w' t9 j)) (hk : xj.kind = 3) (htx : xj.text = [62, 61]) (hq : ∀ w', Ex w w' → Calls Tryz.prog 53 #[.slice (some ⟨b, o, none⟩) ws.length c, .int .i64 ((j : Int) + 1), .int .i64 4] w' (Ret w' (triV 0 0 ⟨#[]⟩ j2 false))) :
    Calls Tryz.prog 53 #[.slice (some ⟨b, o, none⟩) ws.length c, .int .i64 (i : Nat), .int .i64 3] w (Ret w (triV 0 0 ⟨#[]⟩ j2 false)) := by
  have HW := Lib.hid hrw
  have mi : (i : Int) < (ws.length : Int) := by omega
  have mm : (0 : Int) ≤ (i : Int) := by omega
  have mw : (ws.length : Int) ≤ 100000 := by omega
  have HXj := Lib.hid hxj
  have mj : ((j : Nat) : Int) < (ws.length : Int) := by have := (List.getElem?_eq_some_iff.1 hxj).1; omega
  have mj0 : (0 : Int) ≤ ((j : Nat) : Int) := by omega
  have HTj : Hid ((⟨#[62, 61]⟩ : ByteArray) = ⟨xj.text.toArray⟩) := by rw [htx]; exact Lib.hid rfl
  have HS0 : Hid (Ex w (w.alloc (.cells #[.int .i64 0, .int .i64 0, .int .i64 0, .int .i64 0, .string ⟨#[]⟩, .slice none 0 0] 24)) ∧ Zero6 (w.alloc (.cells #[.int .i64 0, .int .i64 0, .int .i64 0, .int .i64 0, .string ⟨#[]⟩, .slice none 0 0] 24)) w.heap.size ∧ w.heap.size < (w.alloc (.cells #[.int .i64 0, .int .i64 0, .int .i64 0, .int .i64 0, .string ⟨#[]⟩, .slice none 0 0] 24)).heap.size) := ⟨(Ex.refl w).alloc _, Blk.new w _ _, by simp⟩
  have ee1 : (((xj.kind : Nat) : Int) == 3) = true := by rw [beq_iff_eq]; omega
  have ee2 : (xj.kind == 3) = true := by rw [beq_iff_eq]; omega
  have ee3 : (((xj.kind : Nat) : Int) != 3) = false := by unfold bne; rw [ee1]; rfl
  have ee4 : (xj.kind != 3) = false := by unfold bne; rw [ee2]; rfl
  clear hk htx
  have HP := Lib.hid hp
  clear hp
  unfold TreeAt at HP
  have HQ := Lib.hid hq
  clear hq
  unfold triV at HQ
  clear hrw hlen hi hxj
  go_enter Tryz.func53, Tryz.ntmps53
  go_wp2_with fail
  refine (HP.out _ (HS0.out.1)).mono ?_
  rintro e W1 ⟨k9, n9, p9, q9, s9, A9, m9, c9, rfl, ht9, hz⟩
  have HS1 : Hid (Ex w W1 ∧ Zero6 W1 w.heap.size ∧ w.heap.size < W1.heap.size) := ⟨(HS0.out.1).trans hz, (HS0.out.2.1).ex hz, ((HS0.out.2.1).ex hz).lt⟩
  have HT9 : Hid (TrC (fun b => w.heap.size + 1 ≤ b) W1 t9 (c6 k9 n9 p9 q9 s9 A9 m9 c9)) := ht9.imp (fun b _ h => Nat.le_trans (Nat.succ_le_of_lt HS0.out.2.2) h)
  clear hz ht9
  have rz := HS1.out.2.1
  have lz := rz.lt
  have r0 := rz.cell 0
  have r1 := rz.cell 1
  have r2 := rz.cell 2
  have r3 := rz.cell 3
  have r4 := rz.cell 4
  have r5 := rz.cell 5
  have f0 := rz.frozen 0
  have f1 := rz.frozen 1
  have f2 := rz.frozen 2
  have f3 := rz.frozen 3
  have f4 := rz.frozen 4
  have f5 := rz.frozen 5
  simp only [List.getElem?_cons_zero, List.getElem?_cons_succ] at r0 r1 r2 r3 r4 r5
  clear rz
  obtain ⟨lb, wj0, wj1, wj2, wj3⟩ := word_cells (HW.out.exx HS1.out.1) HXj.out
  rw [← HTj.out] at wj1
  have HX9 : Hid (Blk (W1.alloc (.cells #[.int .i64 k9, .int .i64 n9, .int .i64 p9, .int .i64 q9, .string s9, .slice A9 m9 c9] 24)) W1.heap.size 24 (c6 k9 n9 p9 q9 s9 A9 m9 c9)) := Blk.new W1 _ _
  go_wp2_with fail
  refine (HQ.out _ (HS1.out.1.alloc _)).mono ?_
  rintro e W2 ⟨rfl, hz⟩
  have HS2 : Hid (Ex w W2 ∧ Zero6 W2 w.heap.size ∧ w.heap.size < W2.heap.size) := ⟨(HS1.out.1.alloc _).trans hz, (HS1.out.2.1.alloc _).ex hz, ((HS1.out.2.1.alloc _).ex hz).lt⟩
  clear hz
  clear lz r0 r1 r2 r3 r4 r5 f0 f1 f2 f3 f4 f5
  clear lb wj0 wj1 wj2 wj3
  have rz := HS2.out.2.1
  have lz := rz.lt
  have r0 := rz.cell 0
  have r1 := rz.cell 1
  have r2 := rz.cell 2
  have r3 := rz.cell 3
  have r4 := rz.cell 4
  have r5 := rz.cell 5
  have f0 := rz.frozen 0
  have f1 := rz.frozen 1
  have f2 := rz.frozen 2
  have f3 := rz.frozen 3
  have f4 := rz.frozen 4
  have f5 := rz.frozen 5
  simp only [List.getElem?_cons_zero, List.getElem?_cons_succ] at r0 r1 r2 r3 r4 r5
  clear rz
  go_wp2_with fail
  refine bodyPost_ret (results_par rfl rfl rfl rfl ((blk6 HS2.out.2.1 _ _ _ _ _ _).alloc _)) rfl ?_
  exact ⟨rfl, (ex6 (Nat.le_refl _) HS2.out.1 _ _ _ _ _ _).alloc _⟩
set_option maxRecDepth 100000 in
set_option maxHeartbeats 6400000 in
theorem p3_op5_ok (ws : List Wd) (b o c i : Nat) (xj : Wd) (w : World) (j j2 : Nat) (t9 t8 : Tr) (hrw : Rw w b o (wdsV ws)) (hlen : ws.length ≤ 100000) (hi : i < ws.length) (hxj : ws[j]? = some xj) (hp : ∀ w', Ex w w' → Calls Tryz.prog 53 #[.slice (some ⟨b, o, none⟩) ws.length c, .int .i64 (i : Nat), .int .i64 4] w' (TreeAt w' t9 j)) (hk : xj.kind = 3) (htx : xj.text = [62, 61]) (hq : ∀ w', Ex w w' → Calls Tryz.prog 53 #[.slice (some ⟨b, o, none⟩) ws.length c, .int .i64 ((j : Int) + 1), .int .i64 4] w' (TreeAt w' t8 j2)) :
    Calls Tryz.prog 53 #[.slice (some ⟨b, o, none⟩) ws.length c, .int .i64 (i : Nat), .int .i64 3] w (TreeAt w (nd 12 [t8, t9]) j2) := by
  have HW := Lib.hid hrw
  have mi : (i : Int) < (ws.length : Int) := by omega
  have mm : (0 : Int) ≤ (i : Int) := by omega
  have mw : (ws.length : Int) ≤ 100000 := by omega
  have HXj := Lib.hid hxj
  have mj : ((j : Nat) : Int) < (ws.length : Int) := by have := (List.getElem?_eq_some_iff.1 hxj).1; omega
  have mj0 : (0 : Int) ≤ ((j : Nat) : Int) := by omega
  have HTj : Hid ((⟨#[62, 61]⟩ : ByteArray) = ⟨xj.text.toArray⟩) := by rw [htx]; exact Lib.hid rfl
  have HS0 : Hid (Ex w (w.alloc (.cells #[.int .i64 0, .int .i64 0, .int .i64 0, .int .i64 0, .string ⟨#[]⟩, .slice none 0 0] 24)) ∧ Zero6 (w.alloc (.cells #[.int .i64 0, .int .i64 0, .int .i64 0, .int .i64 0, .string ⟨#[]⟩, .slice none 0 0] 24)) w.heap.size ∧ w.heap.size < (w.alloc (.cells #[.int .i64 0, .int .i64 0, .int .i64 0, .int .i64 0, .string ⟨#[]⟩, .slice none 0 0] 24)).heap.size) := ⟨(Ex.refl w).alloc _, Blk.new w _ _, by simp⟩
  have ee1 : (((xj.kind : Nat) : Int) == 3) = true := by rw [beq_iff_eq]; omega
  have ee2 : (xj.kind == 3) = true := by rw [beq_iff_eq]; omega
  have ee3 : (((xj.kind : Nat) : Int) != 3) = false := by unfold bne; rw [ee1]; rfl
  have ee4 : (xj.kind != 3) = false := by unfold bne; rw [ee2]; rfl
  clear hk htx
  have HP := Lib.hid hp
  clear hp
  unfold TreeAt at HP
  have HQ := Lib.hid hq
  clear hq
  unfold TreeAt at HQ
  clear hrw hlen hi hxj
  go_enter Tryz.func53, Tryz.ntmps53
  go_wp2_with fail
  refine (HP.out _ (HS0.out.1)).mono ?_
  rintro e W1 ⟨k9, n9, p9, q9, s9, A9, m9, c9, rfl, ht9, hz⟩
  have HS1 : Hid (Ex w W1 ∧ Zero6 W1 w.heap.size ∧ w.heap.size < W1.heap.size) := ⟨(HS0.out.1).trans hz, (HS0.out.2.1).ex hz, ((HS0.out.2.1).ex hz).lt⟩
  have HT9 : Hid (TrC (fun b => w.heap.size + 1 ≤ b) W1 t9 (c6 k9 n9 p9 q9 s9 A9 m9 c9)) := ht9.imp (fun b _ h => Nat.le_trans (Nat.succ_le_of_lt HS0.out.2.2) h)
  clear hz ht9
  have rz := HS1.out.2.1
  have lz := rz.lt
  have r0 := rz.cell 0
  have r1 := rz.cell 1
  have r2 := rz.cell 2
  have r3 := rz.cell 3
  have r4 := rz.cell 4
  have r5 := rz.cell 5
  have f0 := rz.frozen 0
  have f1 := rz.frozen 1
  have f2 := rz.frozen 2
  have f3 := rz.frozen 3
  have f4 := rz.frozen 4
  have f5 := rz.frozen 5
  simp only [List.getElem?_cons_zero, List.getElem?_cons_succ] at r0 r1 r2 r3 r4 r5
  clear rz
  obtain ⟨lb, wj0, wj1, wj2, wj3⟩ := word_cells (HW.out.exx HS1.out.1) HXj.out
  rw [← HTj.out] at wj1
  have HX9 : Hid (Blk (W1.alloc (.cells #[.int .i64 k9, .int .i64 n9, .int .i64 p9, .int .i64 q9, .string s9, .slice A9 m9 c9] 24)) W1.heap.size 24 (c6 k9 n9 p9 q9 s9 A9 m9 c9)) := Blk.new W1 _ _
  go_wp2_with fail
  refine (HQ.out _ (HS1.out.1.alloc _)).mono ?_
  rintro e W2 ⟨k8, n8, p8, q8, s8, A8, m8, c8, rfl, ht8, hz⟩
  have HS2 : Hid (Ex w W2 ∧ Zero6 W2 w.heap.size ∧ w.heap.size < W2.heap.size) := ⟨(HS1.out.1.alloc _).trans hz, (HS1.out.2.1.alloc _).ex hz, ((HS1.out.2.1.alloc _).ex hz).lt⟩
  have HT8 : Hid (TrC (fun b => w.heap.size + 1 ≤ b) W2 t8 (c6 k8 n8 p8 q8 s8 A8 m8 c8)) := ht8.imp (fun b _ h => by have := HS1.out.2.2; simp at h; omega)
  have HT9b := Lib.hid ((HT9.out.ex ((Ex.refl _).alloc (.cells #[.int .i64 k9, .int .i64 n9, .int .i64 p9, .int .i64 q9, .string s9, .slice A9 m9 c9] 24))).ex hz)
  have yz := HX9.out.ex hz
  have yl := yz.lt
  have y0 := yz.cell 0
  have y1 := yz.cell 1
  have y2 := yz.cell 2
  have y3 := yz.cell 3
  have y4 := yz.cell 4
  have y5 := yz.cell 5
  simp only [List.getElem?_cons_zero, List.getElem?_cons_succ] at y0 y1 y2 y3 y4 y5
  clear yz
  clear hz ht8
  clear lz r0 r1 r2 r3 r4 r5 f0 f1 f2 f3 f4 f5
  clear lb wj0 wj1 wj2 wj3
  have rz := HS2.out.2.1
  have lz := rz.lt
  have r0 := rz.cell 0
  have r1 := rz.cell 1
  have r2 := rz.cell 2
  have r3 := rz.cell 3
  have r4 := rz.cell 4
  have r5 := rz.cell 5
  have f0 := rz.frozen 0
  have f1 := rz.frozen 1
  have f2 := rz.frozen 2
  have f3 := rz.frozen 3
  have f4 := rz.frozen 4
  have f5 := rz.frozen 5
  simp only [List.getElem?_cons_zero, List.getElem?_cons_succ] at r0 r1 r2 r3 r4 r5
  clear rz
  have HNd := Lib.hid (fun w => rNode_c 12 (some ⟨W2.heap.size + 1, 0, none⟩) 2 2 w)
  have HB9 : Hid (Blk ((W2.alloc (.cells #[.int .i64 k8, .int .i64 n8, .int .i64 p8, .int .i64 q8, .string s8, .slice A8 m8 c8] 24)).alloc (.cells #[.int .i64 k8, .int .i64 n8, .int .i64 p8, .int .i64 q8, .string s8, .slice A8 m8 c8, .int .i64 k9, .int .i64 n9, .int .i64 p9, .int .i64 q9, .string s9, .slice A9 m9 c9] 24)) (W2.heap.size + 1) 24 ((c6 k8 n8 p8 q8 s8 A8 m8 c8) ++ (c6 k9 n9 p9 q9 s9 A9 m9 c9))) := Blk.new' _ (by simp) _ _
  have HT1 : Hid (TrC (fun b => w.heap.size + 1 ≤ b) ((W2.alloc (.cells #[.int .i64 k8, .int .i64 n8, .int .i64 p8, .int .i64 q8, .string s8, .slice A8 m8 c8] 24)).alloc (.cells #[.int .i64 k8, .int .i64 n8, .int .i64 p8, .int .i64 q8, .string s8, .slice A8 m8 c8, .int .i64 k9, .int .i64 n9, .int .i64 p9, .int .i64 q9, .string s9, .slice A9 m9 c9] 24)) (nd 12 [t8, t9]) (c6 12 0 0 0 ⟨#[]⟩ (some ⟨W2.heap.size + 1, 0, none⟩) 2 2)) := TrC.two ((HT8.out.ex ((Ex.refl _).alloc _)).ex ((Ex.refl _).alloc _)) ((HT9b.out.ex ((Ex.refl _).alloc _)).ex ((Ex.refl _).alloc _)) 12 HB9.out (by have := HS2.out.2.2; omega)
  go_wp2_with fail
  generalize W2.heap.size + 1 = n8 at *
  refine (HNd.out _).mono ?_
  rintro e W3 ⟨rfl, hz⟩
  have HS3 : Hid (Ex w W3 ∧ Zero6 W3 w.heap.size) := ⟨((HS2.out.1.alloc _).alloc _).trans hz, (((HS2.out.2.1.alloc _).alloc _).ex hz)⟩
  have HT3 := Lib.hid (HT1.out.ex hz)
  clear hz
  clear lz r0 r1 r2 r3 r4 r5 f0 f1 f2 f3 f4 f5
  have rz := HS3.out.2
  have lz := rz.lt
  have r0 := rz.cell 0
  have r1 := rz.cell 1
  have r2 := rz.cell 2
  have r3 := rz.cell 3
  have r4 := rz.cell 4
  have r5 := rz.cell 5
  have f0 := rz.frozen 0
  have f1 := rz.frozen 1
  have f2 := rz.frozen 2
  have f3 := rz.frozen 3
  have f4 := rz.frozen 4
  have f5 := rz.frozen 5
  simp only [List.getElem?_cons_zero, List.getElem?_cons_succ] at r0 r1 r2 r3 r4 r5
  clear rz
  go_wp2_with fail
  refine bodyPost_ret (results_par rfl rfl rfl rfl (blk6 HS3.out.2 _ _ _ _ _ _)) rfl ?_
  exact tree_end (Nat.le_refl _) HT3.out (fun b h => ⟨by omega, by omega⟩) HS3.out.1
set_option maxRecDepth 100000 in
set_option maxHeartbeats 6400000 in
theorem pc_bad (ws : List Wd) (b o c i : Nat) (w : World) (j lv : Nat) (hrw : Rw w b o (wdsV ws)) (hlen : ws.length ≤ 100000) (hi : i < ws.length)  (hl2 : lv ≠ 2) (hl3 : lv ≠ 3) (hl6 : lv ≠ 6) (hl7 : lv < 7) (hp : ∀ w', Ex w w' → Calls Tryz.prog 53 #[.slice (some ⟨b, o, none⟩) ws.length c, .int .i64 (i : Nat), .int .i64 ((lv : Int) + 1)] w' (Ret w' (triV 0 0 ⟨#[]⟩ j false))) :
    Calls Tryz.prog 53 #[.slice (some ⟨b, o, none⟩) ws.length c, .int .i64 (i : Nat), .int .i64 (lv : Nat)] w (Ret w (triV 0 0 ⟨#[]⟩ j false)) := by
  have HW := Lib.hid hrw
  have mi : (i : Int) < (ws.length : Int) := by omega
  have mm : (0 : Int) ≤ (i : Int) := by omega
  have mw : (ws.length : Int) ≤ 100000 := by omega
  have HS0 : Hid (Ex w (w.alloc (.cells #[.int .i64 0, .int .i64 0, .int .i64 0, .int .i64 0, .string ⟨#[]⟩, .slice none 0 0] 24)) ∧ Zero6 (w.alloc (.cells #[.int .i64 0, .int .i64 0, .int .i64 0, .int .i64 0, .string ⟨#[]⟩, .slice none 0 0] 24)) w.heap.size ∧ w.heap.size < (w.alloc (.cells #[.int .i64 0, .int .i64 0, .int .i64 0, .int .i64 0, .string ⟨#[]⟩, .slice none 0 0] 24)).heap.size) := ⟨(Ex.refl w).alloc _, Blk.new w _ _, by simp⟩
  have v21 : (((lv : Nat) : Int) == 2) = false := beq_eq_false_iff_ne.2 (by omega)
  have v22 : (lv == 2) = false := beq_eq_false_iff_ne.2 (by omega)
  have v31 : (((lv : Nat) : Int) == 3) = false := beq_eq_false_iff_ne.2 (by omega)
  have v32 : (lv == 3) = false := beq_eq_false_iff_ne.2 (by omega)
  have v61 : (((lv : Nat) : Int) == 6) = false := beq_eq_false_iff_ne.2 (by omega)
  have v62 : (lv == 6) = false := beq_eq_false_iff_ne.2 (by omega)
  have v71 : (((lv : Nat) : Int) == 7) = false := beq_eq_false_iff_ne.2 (by omega)
  have v72 : (lv == 7) = false := beq_eq_false_iff_ne.2 (by omega)
  have v8 : (lv : Int) ≤ 7 := by omega
  have v9 : (0 : Int) ≤ (lv : Int) := by omega
  clear hl2 hl3 hl6 hl7
  have HP := Lib.hid hp
  clear hp
  unfold triV at HP
  clear hrw hlen hi
  go_enter Tryz.func53, Tryz.ntmps53
  go_wp2_with fail
  refine (HP.out _ (HS0.out.1)).mono ?_
  rintro e W1 ⟨rfl, hz⟩
  have HS1 : Hid (Ex w W1 ∧ Zero6 W1 w.heap.size ∧ w.heap.size < W1.heap.size) := ⟨(HS0.out.1).trans hz, (HS0.out.2.1).ex hz, ((HS0.out.2.1).ex hz).lt⟩
  clear hz
  have rz := HS1.out.2.1
  have lz := rz.lt
  have r0 := rz.cell 0
  have r1 := rz.cell 1
  have r2 := rz.cell 2
  have r3 := rz.cell 3
  have r4 := rz.cell 4
  have r5 := rz.cell 5
  have f0 := rz.frozen 0
  have f1 := rz.frozen 1
  have f2 := rz.frozen 2
  have f3 := rz.frozen 3
  have f4 := rz.frozen 4
  have f5 := rz.frozen 5
  simp only [List.getElem?_cons_zero, List.getElem?_cons_succ] at r0 r1 r2 r3 r4 r5
  clear rz
  have HB1 : Hid (Ex w (W1.alloc (.cells #[.int .i64 0, .int .i64 0, .int .i64 0, .int .i64 0, .string ⟨#[]⟩, .slice none 0 0] 24)) ∧ Zero6 (W1.alloc (.cells #[.int .i64 0, .int .i64 0, .int .i64 0, .int .i64 0, .string ⟨#[]⟩, .slice none 0 0] 24)) w.heap.size) := ⟨HS1.out.1.alloc _, HS1.out.2.1.alloc _⟩
  go_wp2_with fail
  obtain ⟨WA, hWA⟩ : ∃ WA, WA = W1.alloc (.cells #[.int .i64 0, .int .i64 0, .int .i64 0, .int .i64 0, .string ⟨#[]⟩, .slice none 0 0] 24) := ⟨_, rfl⟩
  rw [← hWA] at HB1
  rw [← hWA]
  clear hWA
  clear lz r0 r1 r2 r3 r4 r5 f0 f1 f2 f3 f4 f5
  go_loopw [23] (fun jv wr => jv = .int .i64 (j : Nat) ∧ wr = WA) (fun _ _ => 0)
  case atStart => exact ⟨rfl, rfl⟩
  case round =>
    obtain ⟨rfl, rfl⟩ := hrel
    have rz := HB1.out.2
    have lz := rz.lt
    have r0 := rz.cell 0
    have r1 := rz.cell 1
    have r2 := rz.cell 2
    have r3 := rz.cell 3
    have r4 := rz.cell 4
    have r5 := rz.cell 5
    have f0 := rz.frozen 0
    have f1 := rz.frozen 1
    have f2 := rz.frozen 2
    have f3 := rz.frozen 3
    have f4 := rz.frozen 4
    have f5 := rz.frozen 5
    simp only [List.getElem?_cons_zero, List.getElem?_cons_succ] at r0 r1 r2 r3 r4 r5
    clear rz
    go_wp2_with fail
    refine bodyPost_ret (results_par rfl rfl rfl rfl (blk6 HB1.out.2 _ _ _ _ _ _)) rfl ?_
    exact ⟨rfl, ex6 (Nat.le_refl _) HB1.out.1 _ _ _ _ _ _⟩
theorem pf_15 {x : Wd} (hx : Gw x) : pfP x 15 = isT (key x) [110, 111, 116] := by
  have h : firstL [110, 111, 116] = (2, 3, 0) := by decide
  rw [← key_T hx h]
  rfl
theorem pf_18 {x : Wd} (hx : Gw x) : pfP x 18 = isT (key x) [69, 70] := by
  have h : firstL [69, 70] = (2, 2, 0) := by decide
  rw [← key_T hx h]
  rfl
theorem pf_19 {x : Wd} (hx : Gw x) : pfP x 19 = isT (key x) [65, 70] := by
  have h : firstL [65, 70] = (2, 2, 0) := by decide
  rw [← key_T hx h]
  rfl
theorem pf_20 {x : Wd} (hx : Gw x) : pfP x 20 = isT (key x) [69, 71] := by
  have h : firstL [69, 71] = (2, 2, 0) := by decide
  rw [← key_T hx h]
  rfl
theorem pf_21 {x : Wd} (hx : Gw x) : pfP x 21 = isT (key x) [65, 71] := by
  have h : firstL [65, 71] = (2, 2, 0) := by decide
  rw [← key_T hx h]
  rfl
theorem bi_17 {x : Wd} (hx : Gw x) : biP x 0 17 = isT (key x) [111, 114] := by
  have h : firstL [111, 114] = (2, 2, 0) := by decide
  rw [← both_T hx h (.inl rfl)]
  unfold biP
  rw [show levelI 17 = 0 by decide, decide_eq_true rfl, Bool.true_and]
  rfl
theorem bi_16 {x : Wd} (hx : Gw x) : biP x 1 16 = isT (key x) [97, 110, 100] := by
  have h : firstL [97, 110, 100] = (2, 3, 0) := by decide
  rw [← both_T hx h (.inl rfl)]
  unfold biP
  rw [show levelI 16 = 1 by decide, decide_eq_true rfl, Bool.true_and]
  rfl
theorem bi_6 {x : Wd} (hx : Gw x) : biP x 4 6 = isT (key x) [43] := by
  have h : firstL [43] = (3, 1, 0) := by decide
  rw [← both_T hx h (.inr rfl)]
  unfold biP
  rw [show levelI 6 = 4 by decide, decide_eq_true rfl, Bool.true_and]
  rfl
theorem bi_7 {x : Wd} (hx : Gw x) : biP x 4 7 = isT (key x) [45] := by
  have h : firstL [45] = (3, 1, 0) := by decide
  rw [← both_T hx h (.inr rfl)]
  unfold biP
  rw [show levelI 7 = 4 by decide, decide_eq_true rfl, Bool.true_and]
  rfl
theorem bi_8 {x : Wd} (hx : Gw x) : biP x 5 8 = isT (key x) [42] := by
  have h : firstL [42] = (3, 1, 0) := by decide
  rw [← both_T hx h (.inr rfl)]
  unfold biP
  rw [show levelI 8 = 5 by decide, decide_eq_true rfl, Bool.true_and]
  rfl
theorem bi_no (x : Wd) (lv : Nat) (k : Int) (h : levelI k ≠ lv) : biP x lv k = false := by
  unfold biP
  rw [decide_eq_false h]; rfl
theorem pf_pick {x : Wd} (hx : Gw x) : pick prefs (key x) = if firK pfK (pfP x) = 0 then none else some (firK pfK (pfP x)) := by
  unfold pick firK
  rw [show (List.range 5).map pfK = [15, 18, 19, 20, 21] by decide]
  unfold prefs
  simp only [List.find?_cons, List.find?_nil, pf_15 hx, pf_18 hx, pf_19 hx, pf_20 hx, pf_21 hx]
  generalize isT (key x) [110, 111, 116] = b0
  generalize isT (key x) [69, 70] = b1
  generalize isT (key x) [65, 70] = b2
  generalize isT (key x) [69, 71] = b3
  generalize isT (key x) [65, 71] = b4
  cases b0 <;> cases b1 <;> cases b2 <;> cases b3 <;> cases b4 <;> rfl
theorem bi_pick {x : Wd} (hx : Gw x) (lv : Nat) (h : lv = 0 ∨ lv = 1 ∨ lv = 4 ∨ lv = 5) : pick (joints lv) (key x) = if firK biK (biP x lv) = 0 then none else some (firK biK (biP x lv)) := by
  unfold pick firK
  rw [show (List.range 5).map biK = [17, 16, 6, 7, 8] by decide]
  rcases h with rfl | rfl | rfl | rfl
  · rw [show joints 0 = [([111, 114], 17)] from rfl]
    simp only [List.find?_cons, List.find?_nil, bi_17 hx, bi_no x 0 16 (by decide), bi_no x 0 6 (by decide), bi_no x 0 7 (by decide), bi_no x 0 8 (by decide)]
    generalize isT (key x) [111, 114] = b0
    cases b0 <;> rfl
  · rw [show joints 1 = [([97, 110, 100], 16)] from rfl]
    simp only [List.find?_cons, List.find?_nil, bi_16 hx, bi_no x 1 17 (by decide), bi_no x 1 6 (by decide), bi_no x 1 7 (by decide), bi_no x 1 8 (by decide)]
    generalize isT (key x) [97, 110, 100] = b0
    cases b0 <;> rfl
  · rw [show joints 4 = [([43], 6), ([45], 7)] from rfl]
    simp only [List.find?_cons, List.find?_nil, bi_6 hx, bi_7 hx, bi_no x 4 17 (by decide), bi_no x 4 16 (by decide), bi_no x 4 8 (by decide)]
    generalize isT (key x) [43] = b0
    generalize isT (key x) [45] = b1
    cases b0 <;> cases b1 <;> rfl
  · rw [show joints 5 = [([42], 8)] from rfl]
    simp only [List.find?_cons, List.find?_nil, bi_8 hx, bi_no x 5 17 (by decide), bi_no x 5 16 (by decide), bi_no x 5 6 (by decide), bi_no x 5 7 (by decide)]
    generalize isT (key x) [42] = b0
    cases b0 <;> rfl
theorem pz_chain (f lv : Nat) (t : Tr) (ks : List K) : pz (f + 1) lv (some t) ks = match pick (joints lv) (hd ks) with
    | some k => (pz f (lv + 1) none ks.tail).bind fun u r => pz f lv (some (nd k [t, u])) r
    | none => .ok t ks := by
  conv => lhs; unfold pz
  cases pick (joints lv) (hd ks) <;> rfl
set_option maxRecDepth 100000 in
set_option maxHeartbeats 6400000 in
theorem pc_ok (ws : List Wd) (b o c i : Nat) (w : World) (j0 lv : Nat) (t7 : Tr) (hrw : Rw w b o (wdsV ws)) (hlen : ws.length ≤ 100000) (hi : i < ws.length)  (hl2 : lv ≠ 2) (hl3 : lv ≠ 3) (hl6 : lv ≠ 6) (hl7 : lv < 7) (hlv : lv = 0 ∨ lv = 1 ∨ lv = 4 ∨ lv = 5) (hWf : WfW ws) (hp : ∀ w', Ex w w' → Calls Tryz.prog 53 #[.slice (some ⟨b, o, none⟩) ws.length c, .int .i64 (i : Nat), .int .i64 ((lv : Int) + 1)] w' (TreeAt w' t7 j0)) (hj0 : j0 < ws.length) (RES : PR) (F f0 : Nat) (hRES : RES = pz f0 lv (some t7) (ksAt ws j0)) (hf0 : 10 * (ws.length - j0) + 9 ≤ f0) (hfF : f0 < F) (IH : ∀ f', f' < F → ∀ j, j + 1 < ws.length → 10 * (ws.length - (j + 1)) + (8 - (lv + 1)) ≤ f' → ∀ w', Ex w w' → Calls Tryz.prog 53 #[.slice (some ⟨b, o, none⟩) ws.length c, .int .i64 ((j : Int) + 1), .int .i64 ((lv : Int) + 1)] w' (ParR w' ws (pz f' (lv + 1) none (ksAt ws (j + 1))))) :
    Calls Tryz.prog 53 #[.slice (some ⟨b, o, none⟩) ws.length c, .int .i64 (i : Nat), .int .i64 (lv : Nat)] w (ParR w ws RES) := by
  have HW := Lib.hid hrw
  have mi : (i : Int) < (ws.length : Int) := by omega
  have mm : (0 : Int) ≤ (i : Int) := by omega
  have mw : (ws.length : Int) ≤ 100000 := by omega
  have HS0 : Hid (Ex w (w.alloc (.cells #[.int .i64 0, .int .i64 0, .int .i64 0, .int .i64 0, .string ⟨#[]⟩, .slice none 0 0] 24)) ∧ Zero6 (w.alloc (.cells #[.int .i64 0, .int .i64 0, .int .i64 0, .int .i64 0, .string ⟨#[]⟩, .slice none 0 0] 24)) w.heap.size ∧ w.heap.size < (w.alloc (.cells #[.int .i64 0, .int .i64 0, .int .i64 0, .int .i64 0, .string ⟨#[]⟩, .slice none 0 0] 24)).heap.size) := ⟨(Ex.refl w).alloc _, Blk.new w _ _, by simp⟩
  have HIH := Lib.hid IH
  have HR0 := Lib.hid (And.intro hRES (And.intro hf0 hfF))
  have HWf := Lib.hid hWf
  have Hlv := Lib.hid hlv
  have HJ0 := Lib.hid hj0
  have mj0 : (j0 : Int) < (ws.length : Int) := by omega
  have HE7 : Hid (lv ≤ 5) := by unfold Hid; omega
  clear IH hRES hf0 hfF hWf hlv hj0
  have v21 : (((lv : Nat) : Int) == 2) = false := beq_eq_false_iff_ne.2 (by omega)
  have v22 : (lv == 2) = false := beq_eq_false_iff_ne.2 (by omega)
  have v31 : (((lv : Nat) : Int) == 3) = false := beq_eq_false_iff_ne.2 (by omega)
  have v32 : (lv == 3) = false := beq_eq_false_iff_ne.2 (by omega)
  have v61 : (((lv : Nat) : Int) == 6) = false := beq_eq_false_iff_ne.2 (by omega)
  have v62 : (lv == 6) = false := beq_eq_false_iff_ne.2 (by omega)
  have v71 : (((lv : Nat) : Int) == 7) = false := beq_eq_false_iff_ne.2 (by omega)
  have v72 : (lv == 7) = false := beq_eq_false_iff_ne.2 (by omega)
  have v8 : (lv : Int) ≤ 7 := by omega
  have v9 : (0 : Int) ≤ (lv : Int) := by omega
  clear hl2 hl3 hl6 hl7
  have HP := Lib.hid hp
  clear hp
  unfold TreeAt at HP
  clear hrw hlen hi
  go_enter Tryz.func53, Tryz.ntmps53
  go_wp2_with fail
  refine (HP.out _ (HS0.out.1)).mono ?_
  rintro e W1 ⟨k7, n7, p7, q7, s7, A7, m7, c7, rfl, ht7, hz⟩
  have HS1 : Hid (Ex w W1 ∧ Zero6 W1 w.heap.size ∧ w.heap.size < W1.heap.size) := ⟨(HS0.out.1).trans hz, (HS0.out.2.1).ex hz, ((HS0.out.2.1).ex hz).lt⟩
  have HT7 : Hid (TrC (fun b => w.heap.size + 1 ≤ b) W1 t7 (c6 k7 n7 p7 q7 s7 A7 m7 c7)) := ht7.imp (fun b _ h => Nat.le_trans (Nat.succ_le_of_lt HS0.out.2.2) h)
  clear hz ht7
  have rz := HS1.out.2.1
  have lz := rz.lt
  have r0 := rz.cell 0
  have r1 := rz.cell 1
  have r2 := rz.cell 2
  have r3 := rz.cell 3
  have r4 := rz.cell 4
  have r5 := rz.cell 5
  have f0 := rz.frozen 0
  have f1 := rz.frozen 1
  have f2 := rz.frozen 2
  have f3 := rz.frozen 3
  have f4 := rz.frozen 4
  have f5 := rz.frozen 5
  simp only [List.getElem?_cons_zero, List.getElem?_cons_succ] at r0 r1 r2 r3 r4 r5
  clear rz
  have HXA : Hid (Ex w (W1.alloc (.cells #[.int .i64 k7, .int .i64 n7, .int .i64 p7, .int .i64 q7, .string s7, .slice A7 m7 c7] 24)) ∧ Zero6 (W1.alloc (.cells #[.int .i64 k7, .int .i64 n7, .int .i64 p7, .int .i64 q7, .string s7, .slice A7 m7 c7] 24)) w.heap.size ∧ Blk (W1.alloc (.cells #[.int .i64 k7, .int .i64 n7, .int .i64 p7, .int .i64 q7, .string s7, .slice A7 m7 c7] 24)) W1.heap.size 24 (c6 k7 n7 p7 q7 s7 A7 m7 c7) ∧ TrC (fun b => w.heap.size ≤ b ∧ b ≠ w.heap.size ∧ b ≠ W1.heap.size) (W1.alloc (.cells #[.int .i64 k7, .int .i64 n7, .int .i64 p7, .int .i64 q7, .string s7, .slice A7 m7 c7] 24)) t7 (c6 k7 n7 p7 q7 s7 A7 m7 c7)) := ⟨HS1.out.1.alloc _, HS1.out.2.1.alloc _, Blk.new W1 _ _, (HT7.out.keep (by simp) (fun b hb h => ⟨((Ex.refl W1).alloc _).below.block b hb, by omega, by omega, by omega⟩))⟩
  have HXL : Hid (w.heap.size ≠ W1.heap.size ∧ w.heap.size ≤ W1.heap.size) := ⟨by have := HS1.out.2.2; omega, by have := HS1.out.2.2; omega⟩
  go_wp2_with fail
  obtain ⟨WA, hWA⟩ : ∃ WA, WA = W1.alloc (.cells #[.int .i64 k7, .int .i64 n7, .int .i64 p7, .int .i64 q7, .string s7, .slice A7 m7 c7] 24) := ⟨_, rfl⟩
  rw [← hWA] at HXA
  rw [← hWA]
  clear hWA
  generalize hxb : W1.heap.size = xb at *
  clear hxb
  clear lz r0 r1 r2 r3 r4 r5 f0 f1 f2 f3 f4 f5
  go_loopw [23] (fun jv wr => ∃ (j f : Nat) (t : Tr) (k9 n9 p9 q9 : Int) (s9 : ByteArray) (A9 : Option Addr) (m9 c9 : Nat), jv = .int .i64 (j : Nat) ∧ j < ws.length ∧ Hid (RES = pz f lv (some t) (ksAt ws j) ∧ 10 * (ws.length - j) + 9 ≤ f ∧ f < F ∧ Ex w wr ∧ Zero6 wr w.heap.size ∧ Blk wr xb 24 (c6 k9 n9 p9 q9 s9 A9 m9 c9) ∧ TrC (fun b => w.heap.size ≤ b ∧ b ≠ w.heap.size ∧ b ≠ xb) wr t (c6 k9 n9 p9 q9 s9 A9 m9 c9))) (fun jv _ => ws.length - (intOf jv).toNat)
  case atStart => exact ⟨j0, f0, t7, k7, n7, p7, q7, s7, A7, m7, c7, rfl, HJ0.out, Lib.hid ⟨HR0.out.1, HR0.out.2.1, HR0.out.2.2, HXA.out⟩⟩
  case round =>
    obtain ⟨j, f, t9, k9, n9, p9, q9, s9, A9, m9, c9, rfl, hj, HH⟩ := hrel
    obtain ⟨wo, rfl⟩ : ∃ wo : World, wo = wr := ⟨_, rfl⟩
    have mj : (j : Int) < (ws.length : Int) := by omega
    have mj9 : (0 : Int) ≤ (j : Int) := by omega
    obtain ⟨xj, hxj⟩ : ∃ x, ws[j]? = some x := ⟨_, List.getElem?_eq_getElem hj⟩
    have HXj := Lib.hid hxj
    obtain ⟨TBj, hTB⟩ : ∃ T : ByteArray, T = ⟨xj.text.toArray⟩ := ⟨_, rfl⟩
    have HTj := Lib.hid hTB
    clear hTB
    have hbp := bi_pick (HWf.out.gw hxj) lv Hlv.out
    have HBi : Hid (∀ w, Calls Tryz.prog 85 #[.agg #[.int .i64 (xj.kind : Nat), .string TBj, .int .i64 (xj.pos.1 : Nat), .int .i64 (xj.pos.2 : Nat)], .int .i64 (lv : Nat)] w (Ret w (.int .i64 (firK biK (biP xj lv))))) := fun w => by
      rw [HTj.out]
      exact rBinary_c xj lv w
    have hfp : 0 < f := by have := HH.out.2.1; omega
    obtain ⟨f, rfl⟩ : ∃ g, f = g + 1 := ⟨f - 1, by omega⟩
    have hRes := HH.out.1
    rw [pz_chain, hd_at hxj, tail_at, hbp] at hRes
    generalize firK biK (biP xj lv) = kk at *
    obtain ⟨lb, wj0, wj1, wj2, wj3⟩ := word_cells (HW.out.exx HH.out.2.2.2.1) HXj.out
    rw [← HTj.out] at wj1
    by_cases hk0 : kk = 0
    · rw [if_pos hk0] at hRes
      subst hk0
      have HRes := Lib.hid hRes
      clear hRes hbp hxj hfp
      go_wp2_with fail
      refine (HBi.out _).mono ?_
      rintro e V1 ⟨rfl, hz⟩
      have HS1' := Lib.hid (And.intro (HH.out.2.2.2.1.trans hz) (And.intro (HH.out.2.2.2.2.1.ex hz) (And.intro (HH.out.2.2.2.2.2.1.ex hz) (HH.out.2.2.2.2.2.2.ex hz))))
      clear hz
      clear lb wj0 wj1 wj2 wj3
      have rz := HS1'.out.2.1
      have lz := rz.lt
      have r0 := rz.cell 0
      have r1 := rz.cell 1
      have r2 := rz.cell 2
      have r3 := rz.cell 3
      have r4 := rz.cell 4
      have r5 := rz.cell 5
      have f0 := rz.frozen 0
      have f1 := rz.frozen 1
      have f2 := rz.frozen 2
      have f3 := rz.frozen 3
      have f4 := rz.frozen 4
      have f5 := rz.frozen 5
      simp only [List.getElem?_cons_zero, List.getElem?_cons_succ] at r0 r1 r2 r3 r4 r5
      clear rz
      have yz := HS1'.out.2.2.1
      have yl := yz.lt
      have y0 := yz.cell 0
      have y1 := yz.cell 1
      have y2 := yz.cell 2
      have y3 := yz.cell 3
      have y4 := yz.cell 4
      have y5 := yz.cell 5
      simp only [List.getElem?_cons_zero, List.getElem?_cons_succ] at y0 y1 y2 y3 y4 y5
      clear yz
      go_wp2_with fail
      refine bodyPost_ret (results_par rfl rfl rfl rfl (blk6 HS1'.out.2.1 _ _ _ _ _ _)) rfl ?_
      rw [HRes.out]
      exact par_tree hj (tree_end (Nat.le_refl _) HS1'.out.2.2.2 (fun b h => ⟨h.1, h.2.1⟩) HS1'.out.1)
    · rw [if_neg hk0] at hRes
      have ek : (kk == 0) = false := beq_eq_false_iff_ne.2 hk0
      have hj1 : j + 1 < ws.length := by
        obtain ⟨y, hy⟩ := HWf.out.more hxj (fun h4 => by
          have h9 := HWf.out.gw hxj
          have h8 : pick (joints lv) (key xj) = some kk := by rw [hbp, if_neg hk0]
          unfold pick at h8
          cases hf9 : (joints lv).find? (fun j => isT (key xj) j.1) with
          | none => rw [hf9] at h8; cases h8
          | some js =>
            have h7 := List.find?_some (p := fun (j : List UInt8 × Int) => isT (key xj) j.1) hf9
            exact isT_kind h7 h4)
        exact (List.getElem?_eq_some_iff.1 hy).1
      have hf1 := HH.out.2.1
      have hfF := HH.out.2.2.1
      have hlv5 := HE7.out
      have hIH := HIH.out f (by omega) j hj1 (by omega)
      have hens : pz f (lv + 1) none (ksAt ws (j + 1)) ≠ .stuck := enough f (lv + 1) none (ksAt ws (j + 1)) (by omega) (fun h => absurd rfl h) (by
        simp only [need, ksAt, List.length_map, List.length_drop]
        omega)
      have hat := pz_at HWf.out hj1 f (lv + 1) none
      have hfin := fine f (lv + 1) (ksAt ws (j + 1))
      have hRes' : RES = (pz f (lv + 1) none (ksAt ws (j + 1))).bind fun u r => pz f lv (some (nd kk [t9, u])) r := hRes
      clear hRes
      cases hX : pz f (lv + 1) none (ksAt ws (j + 1)) with
      | stuck => exact absurd hX hens
      | bad r =>
        rw [hX] at hIH hRes'
        obtain ⟨j2, hj2, rfl⟩ := hat (nd 0 []) r (.inr hX)
        have HQ := Lib.hid (fun w' hx => (hIH w' hx).mono fun e w2 h => bad_par hj2 h)
        unfold triV at HQ
        have HRes := Lib.hid (And.intro hRes' hj2)
        clear hRes' hIH hens hat hfin hX hbp hxj hfp hf1 hfF hlv5 hj1 hk0 hj2
        go_wp2_with fail
        refine (HBi.out _).mono ?_
        rintro e V1 ⟨rfl, hz⟩
        have HS1' := Lib.hid (And.intro (HH.out.2.2.2.1.trans hz) (HH.out.2.2.2.2.1.ex hz))
        clear hz
        clear lb wj0 wj1 wj2 wj3
        go_wp2_with fail
        refine (HQ.out _ HS1'.out.1).mono ?_
        rintro e V2 ⟨rfl, hz⟩
        have HS2' := Lib.hid (And.intro (HS1'.out.1.trans hz) (HS1'.out.2.ex hz))
        clear hz
        have rz := HS2'.out.2
        have lz := rz.lt
        have r0 := rz.cell 0
        have r1 := rz.cell 1
        have r2 := rz.cell 2
        have r3 := rz.cell 3
        have r4 := rz.cell 4
        have r5 := rz.cell 5
        have f0 := rz.frozen 0
        have f1 := rz.frozen 1
        have f2 := rz.frozen 2
        have f3 := rz.frozen 3
        have f4 := rz.frozen 4
        have f5 := rz.frozen 5
        simp only [List.getElem?_cons_zero, List.getElem?_cons_succ] at r0 r1 r2 r3 r4 r5
        clear rz
        go_wp2_with fail
        refine bodyPost_ret (results_par rfl rfl rfl rfl ((blk6 HS2'.out.2 _ _ _ _ _ _).alloc _)) rfl ?_
        rw [HRes.out.1]
        exact ⟨j2, HRes.out.2, rfl, rfl, (ex6 (Nat.le_refl _) HS2'.out.1 _ _ _ _ _ _).alloc _⟩
      | ok u r =>
        rw [hX] at hIH hRes' hfin
        obtain ⟨j2, hj2, rfl⟩ := hat u r (.inl hX)
        have hlt2 : j + 1 < j2 := by
          have h9 := hfin.2
          simp [ksAt] at h9
          omega
        have HQ := Lib.hid (fun w' hx => (hIH w' hx).mono fun e w2 h => tree_par hj2 h)
        unfold TreeAt at HQ
        have HRes : Hid (RES = pz f lv (some (nd kk [t9, u])) (ksAt ws j2)) := hRes'
        clear hRes' hIH hens hat hfin hX hbp hxj hfp hlv5 hk0
        go_wp2_with fail
        refine (HBi.out _).mono ?_
        rintro e V1 ⟨rfl, hz⟩
        have HS1' := Lib.hid (And.intro (HH.out.2.2.2.1.trans hz) (And.intro (HH.out.2.2.2.2.1.ex hz) (And.intro (HH.out.2.2.2.2.2.1.ex hz) (HH.out.2.2.2.2.2.2.ex hz))))
        clear hz
        clear lb wj0 wj1 wj2 wj3
        go_wp2_with fail
        refine (HQ.out _ HS1'.out.1).mono ?_
        rintro e V2 ⟨k8, n8, p8, q8, s8, A8, m8, c8, rfl, ht8, hz⟩
        have HS2' := Lib.hid (And.intro (HS1'.out.1.trans hz) (And.intro (HS1'.out.2.1.ex hz) (And.intro (HS1'.out.2.2.1.ex hz) (HS1'.out.2.2.2.ex hz))))
        have HT8 : Hid (TrC (fun b => w.heap.size ≤ b ∧ b ≠ w.heap.size ∧ b ≠ xb) V2 u (c6 k8 n8 p8 q8 s8 A8 m8 c8)) := ht8.imp (fun b _ h => by have h1 := HS1'.out.2.1.lt; have h2 := HS1'.out.2.2.1.lt; exact ⟨by omega, by omega, by omega⟩)
        clear hz ht8
        have rz := HS2'.out.2.1
        have lz := rz.lt
        have r0 := rz.cell 0
        have r1 := rz.cell 1
        have r2 := rz.cell 2
        have r3 := rz.cell 3
        have r4 := rz.cell 4
        have r5 := rz.cell 5
        have f0 := rz.frozen 0
        have f1 := rz.frozen 1
        have f2 := rz.frozen 2
        have f3 := rz.frozen 3
        have f4 := rz.frozen 4
        have f5 := rz.frozen 5
        simp only [List.getElem?_cons_zero, List.getElem?_cons_succ] at r0 r1 r2 r3 r4 r5
        clear rz
        have yz := HS2'.out.2.2.1
        have yl := yz.lt
        have y0 := yz.cell 0
        have y1 := yz.cell 1
        have y2 := yz.cell 2
        have y3 := yz.cell 3
        have y4 := yz.cell 4
        have y5 := yz.cell 5
        simp only [List.getElem?_cons_zero, List.getElem?_cons_succ] at y0 y1 y2 y3 y4 y5
        clear yz
        have HNd := Lib.hid (fun w => rNode_c kk (some ⟨V2.heap.size + 1, 0, none⟩) 2 2 w)
        have HB9 : Hid (Blk ((V2.alloc (.cells #[.int .i64 k8, .int .i64 n8, .int .i64 p8, .int .i64 q8, .string s8, .slice A8 m8 c8] 24)).alloc (.cells #[.int .i64 k9, .int .i64 n9, .int .i64 p9, .int .i64 q9, .string s9, .slice A9 m9 c9, .int .i64 k8, .int .i64 n8, .int .i64 p8, .int .i64 q8, .string s8, .slice A8 m8 c8] 24)) (V2.heap.size + 1) 24 ((c6 k9 n9 p9 q9 s9 A9 m9 c9) ++ (c6 k8 n8 p8 q8 s8 A8 m8 c8))) := Blk.new' _ (by simp) _ _
        have HT1 : Hid (TrC (fun b => w.heap.size ≤ b ∧ b ≠ w.heap.size ∧ b ≠ xb) ((V2.alloc (.cells #[.int .i64 k8, .int .i64 n8, .int .i64 p8, .int .i64 q8, .string s8, .slice A8 m8 c8] 24)).alloc (.cells #[.int .i64 k9, .int .i64 n9, .int .i64 p9, .int .i64 q9, .string s9, .slice A9 m9 c9, .int .i64 k8, .int .i64 n8, .int .i64 p8, .int .i64 q8, .string s8, .slice A8 m8 c8] 24)) (nd kk [t9, u]) (c6 kk 0 0 0 ⟨#[]⟩ (some ⟨V2.heap.size + 1, 0, none⟩) 2 2)) := TrC.two ((HS2'.out.2.2.2.ex ((Ex.refl _).alloc _)).ex ((Ex.refl _).alloc _)) ((HT8.out.ex ((Ex.refl _).alloc _)).ex ((Ex.refl _).alloc _)) kk HB9.out (by have h1 := HS2'.out.2.1.lt; have h2 := HS2'.out.2.2.1.lt; exact ⟨by omega, by omega, by omega⟩)
        go_wp2_with fail
        generalize V2.heap.size + 1 = n8 at *
        refine (HNd.out _).mono ?_
        rintro e V3 ⟨rfl, hz⟩
        have HS3' := Lib.hid (And.intro (((HS2'.out.1.alloc _).alloc _).trans hz) (And.intro (((HS2'.out.2.1.alloc _).alloc _).ex hz) (((HS2'.out.2.2.1.alloc _).alloc _).ex hz)))
        have HT3 := Lib.hid (HT1.out.ex hz)
        clear hz
        clear lz r0 r1 r2 r3 r4 r5 f0 f1 f2 f3 f4 f5
        clear yl y0 y1 y2 y3 y4 y5
        have yz := HS3'.out.2.2
        have yl := yz.lt
        have y0 := yz.cell 0
        have y1 := yz.cell 1
        have y2 := yz.cell 2
        have y3 := yz.cell 3
        have y4 := yz.cell 4
        have y5 := yz.cell 5
        simp only [List.getElem?_cons_zero, List.getElem?_cons_succ] at y0 y1 y2 y3 y4 y5
        have yf0 := yz.frozen 0
        have yf1 := yz.frozen 1
        have yf2 := yz.frozen 2
        have yf3 := yz.frozen 3
        have yf4 := yz.frozen 4
        have yf5 := yz.frozen 5
        clear yz
        go_wp2_with fail
        have q1 : ∀ b, (w.heap.size ≤ b ∧ b ≠ w.heap.size ∧ b ≠ xb) → b ≠ xb := fun b h => h.2.2
        refine ⟨⟨j2, f, nd kk [t9, u], kk, 0, 0, 0, ⟨#[]⟩, some ⟨n8, 0, none⟩, 2, 2, rfl, hj2, Lib.hid ⟨HRes.out, by omega, by omega, ex6 HXL.out.2 HS3'.out.1 _ _ _ _ _ _, ?_, blk6 HS3'.out.2.2 _ _ _ _ _ _, ?_⟩⟩, by simp [intOf]; omega⟩
        · have r1 := HXL.out.1
          exact (((((HS3'.out.2.1.far r1 _).far r1 _).far r1 _).far r1 _).far r1 _).far r1 _
        · exact (((((HT3.out.far q1 _).far q1 _).far q1 _).far q1 _).far q1 _).far q1 _
end Go.Proofs.YthjalkonlcjhnaaGreatDoor
