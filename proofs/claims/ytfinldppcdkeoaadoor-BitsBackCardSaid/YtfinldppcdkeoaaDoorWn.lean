/-
  The laws' wake-up check, and the search for a number outside the range.
  Conditions: the library's table as laid.
-/
import Derived.Test.YtfinldppcdkeoaaDoorWm
namespace Go.Proofs.YtfinldppcdkeoaaDoor
open Go.RowKit Bm
theorem ofA : ofL 70 [65, 3] = [8, 2] := by decide +kernel
theorem ofB : ofL 70 [4, 5] = [48, 0] := by decide +kernel
theorem validA : Valid 70 [8, 2] := by rw [← ofA]; exact valid_ofL (by decide) (by decide)
theorem validBB : Valid 70 [48, 0] := by rw [← ofB]; exact valid_ofL (by decide) (by decide)
theorem wdA : Wd [8, 2] := by rw [← ofA]; exact wd_ofL _ _
theorem wdB : Wd [48, 0] := by rw [← ofB]; exact wd_ofL _ _
theorem cmpAB : cmpS 70 [8, 2] [48, 0] = -1 := by decide +kernel
theorem memsA : mems 70 [8, 2] = [3, 65] := by decide +kernel
theorem awake1 (w : World) (g : Nat) (hB : Blk w g 3 [.int .i64 65, .int .i64 3]) : Calls Tryd.prog 13 #[.int .i64 70, .slice (some ⟨g, 0, none⟩) 2 2] w (NewSetE w 70 [8, 2]) := by
  have h := bOf_ok 70 [65, 3] (some ⟨g, 0, none⟩) 2 w (by decide) (by decide) hB.cells (by decide)
  rw [ofA] at h
  exact h
theorem awake2 (w : World) (g : Nat) (hB : Blk w g 3 [.int .i64 4, .int .i64 5]) : Calls Tryd.prog 13 #[.int .i64 70, .slice (some ⟨g, 0, none⟩) 2 2] w (NewSetE w 70 [48, 0]) := by
  have h := bOf_ok 70 [4, 5] (some ⟨g, 0, none⟩) 2 w (by decide) (by decide) hB.cells (by decide)
  rw [ofB] at h
  exact h
theorem awake3 (w : World) (g h : Nat) (hB : Blk w g 54 (u64s [8, 2])) (hB2 : Blk w h 54 (u64s [48, 0])) :
    Calls Tryd.prog 24 #[.agg #[.int .i64 70, .slice (some ⟨g, 0, none⟩) 2 2], .agg #[.int .i64 70, .slice (some ⟨h, 0, none⟩) 2 2]] w (Ret w (cmpR (-1) 0)) := by
  have h := bCompare_ok 70 (some ⟨g, 0, none⟩) (some ⟨h, 0, none⟩) 2 2 [8, 2] [48, 0] w hB.cells hB2.cells wdA wdB validA validBB
  rw [cmpAB] at h
  exact h
theorem awake4 (w : World) (g : Nat) (hB : Blk w g 54 (u64s [8, 2])) (hT : Tab w) :
    Calls Tryd.prog 14 #[.agg #[.int .i64 70, .slice (some ⟨g, 0, none⟩) 2 2]] w (RetOwnE w (natsV [3, 65])) := by
  have h := bMembers_ok 70 (some ⟨g, 0, none⟩) 2 [8, 2] w hB.cells wdA validA hT
  rw [memsA] at h
  exact h
theorem awake5 (w : World) (g h : Nat) (hB : Blk w g 54 (u64s [8, 2])) (hB2 : Blk w h 54 (u64s [8, 2])) :
    Calls Tryd.prog 18 #[.agg #[.int .i64 70, .slice (some ⟨g, 0, none⟩) 2 2], .agg #[.int .i64 70, .slice (some ⟨h, 0, none⟩) 2 2]] w (Ret w (.bool true)) := by
  have h := same_c 70 70 (some ⟨g, 0, none⟩) (some ⟨h, 0, none⟩) 2 2 [8, 2] [8, 2] w hB.cells hB2.cells (by decide)
  exact h
theorem awake6 (w : World) (A : Option Addr) (c g : Nat) (hC : Cells w A (natsV [3, 65])) (hB2 : Blk w g 3 [.int .i64 3, .int .i64 65]) :
    Calls Tryd.prog 22 #[.slice A 2 c, .slice (some ⟨g, 0, none⟩) 2 2] w (Ret w (.bool true)) := by
  have h := eqi_c A (some ⟨g, 0, none⟩) c 2 [3, 65] [3, 65] w hC hB2.cells (by decide)
  exact h
set_option maxHeartbeats 1600000 in
theorem awake_c (w : World) (hT : Tab w) : Calls Tryd.prog 11 #[] w (Ret w (.bool true)) := by
  have HT := Lib.hid (fun w' (hx : Ex w w') => hT.ex hx)
  clear hT
  go_enter Tryd.func11, Tryd.ntmps11
  go_wp2_with fail
  refine (awake1 _ _ (Blk.new' w rfl 3 [.int .i64 65, .int .i64 3])).mono ?_
  rintro e w1 ⟨g1, rfl, hg1, hB1, hx1⟩
  have hE1 := ((Ex.refl w).alloc (.cells #[.int .i64 65, .int .i64 3] 3)).trans hx1
  clear hg1 hx1
  go_wp2_with fail
  refine (awake2 _ _ (Blk.new' (w1.alloc (.cells #[.int .i64 70, .slice (some ⟨g1, 0, none⟩) 2 2] 24)) (by simp) 3 [.int .i64 4, .int .i64 5])).mono ?_
  rintro e w2 ⟨g2, rfl, hg2, hB2, hx2⟩
  have hE2 := ((hE1.alloc (.cells #[.int .i64 70, .slice (some ⟨g1, 0, none⟩) 2 2] 24)).alloc (.cells #[.int .i64 4, .int .i64 5] 3)).trans hx2
  have hB1' := ((hB1.alloc (.cells #[.int .i64 70, .slice (some ⟨g1, 0, none⟩) 2 2] 24)).alloc (.cells #[.int .i64 4, .int .i64 5] 3)).ex hx2
  have hS1 := ((Blk.new w1 24 [.int .i64 70, .slice (some ⟨g1, 0, none⟩) 2 2]).alloc (.cells #[.int .i64 4, .int .i64 5] 3)).ex hx2
  clear hg2 hx2 hB1 hE1
  generalize w1.heap.size = s1 at *
  clear w1
  have hE3 := hE2.alloc (.cells #[.int .i64 70, .slice (some ⟨g2, 0, none⟩) 2 2] 24)
  have hB3 := hB1'.alloc (.cells #[.int .i64 70, .slice (some ⟨g2, 0, none⟩) 2 2] 24)
  have hB4 := hB2.alloc (.cells #[.int .i64 70, .slice (some ⟨g2, 0, none⟩) 2 2] 24)
  have hS3 := hS1.alloc (.cells #[.int .i64 70, .slice (some ⟨g2, 0, none⟩) 2 2] 24)
  have hS4 := Blk.new w2 24 [.int .i64 70, .slice (some ⟨g2, 0, none⟩) 2 2]
  have hs2 := hS1.lt
  have f0 := hS1.cell 0
  have f1 := hS1.cell 1
  simp only [List.getElem?_cons_zero, List.getElem?_cons_succ] at f0 f1
  have HA := Lib.hid (And.intro hE3 (And.intro hB3 (And.intro hB4 (And.intro hS3 hS4))))
  clear hE3 hB3 hB4 hS3 hS4 hS1 hE2 hB1' hB2
  go_wp2_with fail
  refine (awake3 _ _ _ HA.out.2.1 HA.out.2.2.1).mono ?_
  rintro e w3 ⟨rfl, hx3⟩
  obtain ⟨hE3, hB3, hB4, hS3, hS4⟩ := HA.out
  have hE := hE3.trans hx3
  have hB5 := hB3.ex hx3
  have hS5 := hS3.ex hx3
  clear HA hE3 hB3 hB4 hS3 hS4 hx3 f0 f1
  have hs5 := hS5.lt
  have f0 := hS5.cell 0
  have f1 := hS5.cell 1
  simp only [List.getElem?_cons_zero, List.getElem?_cons_succ] at f0 f1
  have HA := Lib.hid (And.intro hE (And.intro hB5 hS5))
  clear hE hB5 hS5
  unfold cmpR
  go_wp2_with fail
  refine (awake4 _ _ HA.out.2.1 (HT.out _ HA.out.1)).mono ?_
  rintro e w4 ⟨v, rfl, hown, hx4⟩
  obtain ⟨A, c, rfl, hC, -⟩ := own_cells hown
  obtain ⟨hE3, hB3, hS3⟩ := HA.out
  have hE := hE3.trans hx4
  have hB5 := hB3.ex hx4
  have hS5 := hS3.ex hx4
  clear HA hE3 hB3 hS3 hx4 f0 f1 hown
  have hs5 := hS5.lt
  have f0 := hS5.cell 0
  have f1 := hS5.cell 1
  simp only [List.getElem?_cons_zero, List.getElem?_cons_succ] at f0 f1
  have hE' := hE.alloc (.cells #[.int .u64 8, .int .u64 2] 54)
  have hB5' := hB5.alloc (.cells #[.int .u64 8, .int .u64 2] 54)
  have hN := Blk.new w4 54 [.int .u64 8, .int .u64 2]
  have hC' := hC.ex ((Ex.refl _).alloc (.cells #[.int .u64 8, .int .u64 2] 54))
  have HA := Lib.hid (And.intro hE' (And.intro hB5' (And.intro hN hC')))
  clear hE hB5 hS5 hE' hB5' hN hC' hC
  simp only [show (natsV [3, 65]).length = 2 from rfl]
  go_wp2_with fail
  refine (awake5 _ _ _ HA.out.2.1 HA.out.2.2.1).mono ?_
  rintro e w5 ⟨rfl, hx5⟩
  obtain ⟨hE, -, -, hC⟩ := HA.out
  have HA2 := Lib.hid (And.intro (hE.trans hx5) (hC.ex hx5))
  clear HA hE hC hx5 f0 f1 hs5
  go_wp2_with fail
  refine (awake6 _ _ _ _ (HA2.out.2.ex ((Ex.refl _).alloc _)) (Blk.new' w5 (by simp) 3 [.int .i64 3, .int .i64 65])).mono ?_
  rintro e w6 ⟨rfl, hx6⟩
  have HA3 := Lib.hid ((HA2.out.1.alloc (.cells #[.int .i64 3, .int .i64 65] 3)).trans hx6)
  clear HA2 hx6
  go_wp2
  go_ret
  exact Ret.mk rfl HA3.out
def outB (n x : Int) : Bool := decide (x < 0) || decide (n ≤ x)
theorem out_c (n x : Int) (b : Nat) (w : World) (hc : w.cell? ⟨b, 0, none⟩ = some (.int .i64 n)) :
    Calls Tryd.prog 16 #[.int .i64 x, .pointer (some ⟨b, 0, none⟩)] w (Ret w (.bool (outB n x))) := by
  go_enter Tryd.func16, Tryd.ntmps16
  by_cases h : x < 0
  · have g : decide (x < 0) = true := by simp [h]
    have hf : Hid (outB n x = true) := by show outB n x = true; simp [outB, h]
    clear h
    go_wp2
    go_ret
    exact Ret.mk (by rw [hf.out]; rfl) (Ex.refl _)
  · have g : decide (x < 0) = false := by simp; omega
    have hf : Hid (outB n x = decide (n ≤ x)) := by show outB n x = _; simp [outB, h]
    clear h
    go_wp2
    go_ret
    exact Ret.mk (by rw [hf.out]; rfl) (Ex.refl _)
theorem ints_find {n : Int} (l : List Int) : (∃ k0, k0 < l.length ∧ outB n (l.getD k0 0) = true ∧ ∀ j, j < k0 → outB n (l.getD j 0) = false) ∨ (∀ j, j < l.length → outB n (l.getD j 0) = false) := by
  induction l with
  | nil => right; intro j hj; simp at hj
  | cons x l ih =>
    cases h : outB n x
    · rcases ih with ⟨k, h1, h2, h3⟩ | h3
      · left
        refine ⟨k + 1, by simp; omega, by simpa using h2, fun j hj => ?_⟩
        cases j with
        | zero => simpa using h
        | succ j => simpa using h3 j (by omega)
      · right
        intro j hj
        cases j with
        | zero => simpa using h
        | succ j => simpa using h3 j (by simpa using hj)
    · left
      exact ⟨0, by simp, by simpa using h, fun j hj => by omega⟩
set_option maxHeartbeats 800000 in
theorem out_none (n : Int) (l : List Int) (A : Option Addr) (c : Nat) (b : Nat) (w : World) (hC : Cells w A (ints l)) (hlen : l.length ≤ 1000000) (hc : w.cell? ⟨b, 0, none⟩ = some (.int .i64 n)) (hb : b < w.heap.size)
    (hall : ∀ j, j < l.length → outB n (l.getD j 0) = false) :
    Calls Tryd.prog 51 #[.slice A l.length c, .func (.func 16) #[] #[.pointer (some ⟨b, 0, none⟩)]] w (Ret w (.int .i64 (-1))) := by
  have HA := Lib.hid (fun i (h : i < l.length) => ints_at hC i h)
  have HL := Lib.hid hall
  have HO := Lib.hid (fun x w' (hx : Ex w w') => out_c n x b w' ((hx.below.cell hb).trans hc))
  clear hC hall hc hb
  generalize l.length = m at *
  go_enter Tryd.func51, Tryd.ntmps51
  go_wp2
  go_loopw [8] (fun i wr => ∃ k : Nat, i = .int .i64 k ∧ k ≤ m ∧ Ex w wr) (fun i _ => m - (intOf i).toNat)
  case atStart => exact ⟨0, rfl, by omega, Ex.refl _⟩
  case round =>
    obtain ⟨k, rfl, hk, z, rfl⟩ := hrel
    by_cases hlt : k < m
    · obtain ⟨ad, rfl, ha1, ha2⟩ := HA.out k hlt
      have HOk := Lib.hid (HO.out (l.getD k 0) _ ⟨z, rfl⟩)
      rw [HL.out k hlt] at HOk
      generalize l.getD k 0 = x at *
      have hkm : (k : Int) < m := by omega
      go_wp2_with fail
      refine (Calls.up (W := w) ⟨_, rfl⟩ HOk.out).mono ?_
      rintro e w' ⟨rfl, y, rfl⟩
      go_wp2
      go_roundw
      case rel => exact ⟨k + 1, by go_num, by omega, (Ex.refl _).ext _⟩
      case measure => simp [intOf]; omega
    · go_wp2
      go_ret
      exact Ret.mk rfl ((Ex.refl _).ext _)
set_option maxHeartbeats 800000 in
theorem out_some (n : Int) (l : List Int) (A : Option Addr) (c : Nat) (b : Nat) (w : World) (hC : Cells w A (ints l)) (hlen : l.length ≤ 1000000) (hc : w.cell? ⟨b, 0, none⟩ = some (.int .i64 n)) (hb : b < w.heap.size)
    (k0 : Nat) (hk0 : k0 < l.length) (h0 : outB n (l.getD k0 0) = true) (hall : ∀ j, j < k0 → outB n (l.getD j 0) = false) :
    Calls Tryd.prog 51 #[.slice A l.length c, .func (.func 16) #[] #[.pointer (some ⟨b, 0, none⟩)]] w (Ret w (.int .i64 k0)) := by
  have HA := Lib.hid (fun i (h : i < l.length) => ints_at hC i h)
  have HL := Lib.hid hall
  have H0 := Lib.hid h0
  have HO := Lib.hid (fun x w' (hx : Ex w w') => out_c n x b w' ((hx.below.cell hb).trans hc))
  clear hC hall hc hb h0
  generalize l.length = m at *
  go_enter Tryd.func51, Tryd.ntmps51
  go_wp2
  go_loopw [8] (fun i wr => ∃ k : Nat, i = .int .i64 k ∧ k ≤ k0 ∧ Ex w wr) (fun i _ => m - (intOf i).toNat)
  case atStart => exact ⟨0, rfl, by omega, Ex.refl _⟩
  case round =>
    obtain ⟨k, rfl, hk, z, rfl⟩ := hrel
    obtain ⟨ad, rfl, ha1, ha2⟩ := HA.out k (by omega)
    have HOk := Lib.hid (HO.out (l.getD k 0) _ ⟨z, rfl⟩)
    have hkm : (k : Int) < m := by omega
    by_cases hlt : k < k0
    · rw [HL.out k hlt] at HOk
      generalize l.getD k 0 = x at *
      go_wp2_with fail
      refine (Calls.up (W := w) ⟨_, rfl⟩ HOk.out).mono ?_
      rintro e w' ⟨rfl, y, rfl⟩
      go_wp2
      go_roundw
      case rel => exact ⟨k + 1, by go_num, by omega, (Ex.refl _).ext _⟩
      case measure => simp [intOf]; omega
    · obtain rfl : k = k0 := by omega
      rw [H0.out] at HOk
      generalize l.getD k 0 = x at *
      go_wp2_with fail
      refine (Calls.up (W := w) ⟨_, rfl⟩ HOk.out).mono ?_
      rintro e w' ⟨rfl, y, rfl⟩
      go_wp2
      go_ret
      exact Ret.mk rfl ((Ex.refl _).ext _)
theorem contains_c (n : Int) (l : List Int) (A : Option Addr) (c : Nat) (b : Nat) (w : World) (hC : Cells w A (ints l)) (hlen : l.length ≤ 1000000) (hc : w.cell? ⟨b, 0, none⟩ = some (.int .i64 n)) (hb : b < w.heap.size) :
    Calls Tryd.prog 15 #[.slice A l.length c, .func (.func 16) #[] #[.pointer (some ⟨b, 0, none⟩)]] w (Ret w (.bool (l.any (outB n)))) := by
  rcases ints_find (n := n) l with ⟨k0, h1, h2, h3⟩ | h3
  · have H := Lib.hid (out_some n l A c b w hC hlen hc hb k0 h1 h2 h3)
    have hf : Hid (l.any (outB n) = true) := by
      show l.any (outB n) = true
      rw [List.any_eq_true]
      refine ⟨l.getD k0 0, ?_, h2⟩
      rw [List.getD_eq_getElem?_getD, List.getElem?_eq_getElem h1]; exact List.getElem_mem _
    clear hC hc hb h1 h2 h3
    generalize l.length = m at *
    go_enter Tryd.func15, Tryd.ntmps15
    go_wp2_with fail
    refine H.out.mono ?_
    rintro e w' ⟨rfl, y, rfl⟩
    go_wp2
    go_ret
    exact Ret.mk (by rw [hf.out]; rfl) ((Ex.refl _).ext _)
  · have H := Lib.hid (out_none n l A c b w hC hlen hc hb h3)
    have hf : Hid (l.any (outB n) = false) := by
      show l.any (outB n) = false
      rw [List.any_eq_false]
      intro x hx
      obtain ⟨i, hi, rfl⟩ := List.getElem_of_mem hx
      have := h3 i hi
      rw [List.getD_eq_getElem?_getD, List.getElem?_eq_getElem hi] at this
      simpa using this
    clear hC hc hb h3
    generalize l.length = m at *
    go_enter Tryd.func15, Tryd.ntmps15
    go_wp2_with fail
    refine H.out.mono ?_
    rintro e w' ⟨rfl, y, rfl⟩
    go_wp2
    go_ret
    exact Ret.mk (by rw [hf.out]; rfl) ((Ex.refl _).ext _)
end Go.Proofs.YtfinldppcdkeoaaDoor
