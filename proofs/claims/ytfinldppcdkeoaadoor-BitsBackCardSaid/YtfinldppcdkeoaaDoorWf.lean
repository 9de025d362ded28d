/-
  The program's Of: the set of some numbers, or the error.
  Conditions: at most a million numbers.
-/
import Derived.Test.YtfinldppcdkeoaaDoorWe
namespace Go.Proofs.YtfinldppcdkeoaaDoor
open Go.RowKit Bm
def NewSetE (w : World) (n : Int) (ws : List Nat) (e : Ending) (w' : World) : Prop :=
  ∃ g, e = .returned (.tuple #[.agg #[.int .i64 n, .slice (some ⟨g, 0, none⟩) ws.length ws.length], .int .i64 0]) ∧ w.heap.size ≤ g ∧ Blk w' g 54 (u64s ws) ∧ Ex w w'
def Zero (code : Int) : Value := .tuple #[.agg #[.int .i64 0, .slice none 0 0], .int .i64 code]
set_option maxHeartbeats 1600000 in
theorem bOf_ok (n : Nat) (l : List Nat) (A : Option Addr) (c : Nat) (w : World) (hn : n ≤ 512) (hl : ∀ x ∈ l, x < n) (hC : Cells w A (natsV l)) (hlen : l.length ≤ 1000000) :
    Calls Tryd.prog 13 #[.int .i64 n, .slice A l.length c] w (NewSetE w n (ofL n l)) := by
  have HA := Lib.hid (fun i (h : i < l.length) => nats_at hC i h)
  have hmk := mk_u64 (((n : Int) + 63) / 64) ((n + 63) / 64) (by omega) (by omega)
  have HT := Lib.hid (fold_take l)
  have HX : Hid (∀ k, k < l.length → l.getD k 0 < n) := fun k hk => by
    rw [List.getD_eq_getElem?_getD, List.getElem?_eq_getElem hk]; exact hl _ (List.getElem_mem _)
  have HO : Hid (ofL n l = (l.take l.length).foldl setBit (zeros n)) := by show ofL n l = _; rw [List.take_length]; rfl
  have HZ := Lib.hid (length_zeros n)
  have HWo := Lib.hid (fun w' => words_c n w' (by omega) (by omega)) 
  have g0 : decide ((n : Int) < 0) = false := by simp
  have g1 : decide (512 < (n : Int)) = false := by simp; omega
  have HZr : Hid ((u64s (zeros n)).toArray = zrow ((n + 63) / 64)) := rfl
  have hM : (n + 63) / 64 ≤ 8 := by omega
  have HM2 : Hid (∀ x, x < n → x / 64 < (n + 63) / 64) := fun x hx => by omega
  have HLn : Hid (∀ k, ((l.take k).foldl setBit (zeros n)).length = (n + 63) / 64) := fun k => by rw [fold_len, length_zeros]
  have HWd : Hid (∀ k, Wd ((l.take k).foldl setBit (zeros n))) := fun k => fold_wd _ _ (Wd.zeros n)
  clear hC hl
  generalize l.length = m at *
  generalize (n + 63) / 64 = M at *
  go_enter Tryd.func13, Tryd.ntmps13
  go_wp2_with fail
  refine (HWo.out _).mono ?_
  rintro e w1 ⟨rfl, z, rfl⟩
  go_wp2_with fail
  have hB4 : Blk (ext (w.alloc (.cells #[.int .i64 0, .slice none 0 0] 24)) z) w.heap.size 24 [.int .i64 0, .slice none 0 0] := (Blk.new w 24 [.int .i64 0, .slice none 0 0]).ex ⟨z, rfl⟩
  have hb4x := hB4.lt
  have hX : Ex w (ext (w.alloc (.cells #[.int .i64 0, .slice none 0 0] 24)) z) := ((Ex.refl _).alloc _).ext _
  generalize ext (w.alloc (.cells #[.int .i64 0, .slice none 0 0] 24)) z = X at *
  have hB0 : Blk (X.alloc (.cells (zrow M) 54)) X.heap.size 54 (u64s (zeros n)) := by rw [← HZr.out]; exact Blk.new X 54 _
  have hB4' := hB4.alloc (.cells (zrow M) 54)
  have hX' := hX.alloc (.cells (zrow M) 54)
  have hs1 : (X.alloc (.cells (zrow M) 54)).heap.size = X.heap.size + 1 := by simp
  have hg' : w.heap.size ≤ X.heap.size := by omega
  have hB6 : Blk ((X.alloc (.cells (zrow M) 54)).alloc (.cells #[.int .i64 n, .slice (some ⟨X.heap.size, 0, none⟩) M M] 24)) (X.heap.size + 1) 24 [.int .i64 n, .slice (some ⟨X.heap.size, 0, none⟩) M M] := Blk.new' _ hs1.symm 24 [.int .i64 n, .slice (some ⟨X.heap.size, 0, none⟩) M M]
  have hB1 := hB0.alloc (.cells #[.int .i64 n, .slice (some ⟨X.heap.size, 0, none⟩) M M] 24)
  have hB4'' := hB4'.alloc (.cells #[.int .i64 n, .slice (some ⟨X.heap.size, 0, none⟩) M M] 24)
  have hX'' := hX'.alloc (.cells #[.int .i64 n, .slice (some ⟨X.heap.size, 0, none⟩) M M] 24)
  clear hs1 hB0 hB4' hX' hB4 hX hb4x hmk
  generalize (X.alloc (.cells (zrow M) 54)).alloc (.cells #[.int .i64 n, .slice (some ⟨X.heap.size, 0, none⟩) M M] 24) = Y at *
  obtain ⟨b6, hb6⟩ : ∃ b6, b6 = X.heap.size + 1 := ⟨_, rfl⟩
  have hb6' : w.heap.size ≤ b6 := by omega
  rw [← hb6] at hB6
  rw [← hb6]
  clear hb6
  generalize X.heap.size = g at *
  go_loopw [23] (fun i wr => ∃ k : Nat, i = .int .i64 k ∧ k ≤ m ∧ Blk wr b6 24 [.int .i64 n, .slice (some ⟨g, 0, none⟩) M M] ∧ Blk wr w.heap.size 24 [.int .i64 0, .slice none 0 0] ∧ Blk wr g 54 (u64s ((l.take k).foldl setBit (zeros n))) ∧ Ex w wr)
    (fun i _ => m - (intOf i).toNat)
  case atStart => exact ⟨0, rfl, by omega, hB6, hB4'', hB1, hX''⟩
  case round =>
    clear hB6 hB4'' hB1 hX''
    obtain ⟨k, rfl, hk, h5, h4, hr, hx⟩ := hrel
    have HXx := Lib.hid hx
    have H5 := Lib.hid h5
    have H4 := Lib.hid h4
    have f0 : wr.cell? ⟨b6, 0, none⟩ = some (.int .i64 n) := h5.cell 0
    have f1 : wr.cell? ⟨b6, 1, none⟩ = some (.slice (some ⟨g, 0, none⟩) M M) := h5.cell 1
    have l5 := h5.lt
    have l4 := h4.lt
    have lg := hr.lt
    by_cases hlt : k < m
    · obtain ⟨ad, rfl, ha1, ha2⟩ := HA.out k hlt
      have hT := Lib.hid (HT.out k hlt (zeros n))
      have hxn := HX.out k hlt
      have HLk := Lib.hid (HLn.out k)
      have HWk := Lib.hid (HWd.out k)
      generalize (l.take k).foldl setBit (zeros n) = ws at *
      generalize l.getD k 0 = x at *
      have hx64 := HM2.out x hxn
      have f2 : wr.cell? ⟨g, x / 64, none⟩ = some (.int .u64 ((ws.getD (x / 64) 0 : Nat) : Int)) := by
        rw [hr.cell, u64s_get (by rw [HLk.out]; exact hx64), List.getD_eq_getElem?_getD, List.getElem?_eq_getElem (by rw [HLk.out]; exact hx64)]; rfl
      have HW := Lib.hid (HWk.out.lt (x / 64))
      generalize hov : ws.getD (x / 64) 0 = ov at f2
      have HOv := Lib.hid hov; clear hov
      have f3 : wr.frozen? ⟨g, x / 64, none⟩ = false := hr.frozen _
      have f4 : wr.cell? (ad.add k) = some (.int .i64 x) := (hx.below.cell ha1).trans ha2
      have HR := Lib.hid hr
      have HI := Lib.hid (fun (w' : World) => inside_c n x (some ⟨g, 0, none⟩) M M w')
      have hq : (decide ((0 : Int) ≤ (x : Int)) && decide ((x : Int) < (n : Int))) = true := by simp; omega
      rw [hq] at HI; clear hq
      have hxi : ((x / 64 : Nat) : Int) < (M : Int) := by omega
      have hki : (k : Int) < (m : Int) := by omega
      clear hr h5 h4 hx ha2 ha1
      go_wp2_with fail
      refine (HI.out _).mono ?_
      rintro e w2 ⟨rfl, y, rfl⟩
      go_wp2
      refine wp_region_tail 11 (by kernel_rfl) (by kernel_rfl) ?_
      simp only [List.take_succ_cons, List.take_zero, List.drop_succ_cons, List.drop_zero]
      repeat (go_big_quiet_step (fail))
      refine wpQuiet_on ?_
      go_wp2
      go_roundw
      case rel =>
        rw [or_bit ov (x % 64) (by rw [← HOv.out]; exact HW.out) (by omega)]
        refine ⟨k + 1, by go_num, by omega, ((H5.out.ex ⟨y, rfl⟩).far (H5.out.ne HR.out (by decide)) _).drew, ((H4.out.ex ⟨y, rfl⟩).far (H4.out.ne HR.out (by decide)) _).drew, ?_, ((HXx.out.ext y).setCell hg' _).drew⟩
        rw [hT.out, setBit, HOv.out, u64s_set]
        exact ((HR.out.ex ⟨y, rfl⟩).set_ _ _).drew
      case measure => simp [intOf]; omega
    · have hkm : k = m := by omega
      have HF := HO.out
      rw [← hkm] at HF
      rw [← HF] at hr
      have HF2 := Lib.hid HF
      have f2 : wr.cell? ⟨w.heap.size, 0, none⟩ = some (.int .i64 0) := h4.cell 0
      have f3 : wr.cell? ⟨w.heap.size, 1, none⟩ = some (.slice none 0 0) := h4.cell 1
      have f4 : wr.frozen? ⟨w.heap.size, 0, none⟩ = false := h4.frozen _
      have f5 : wr.frozen? ⟨w.heap.size, 1, none⟩ = false := h4.frozen _
      have HR := Lib.hid hr
      clear hr h5 h4 hx hkm HF
      go_wp2
      have hb := (H4.out.set_ 0 (.int .i64 n)).set_ 1 (.slice (some ⟨g, 0, none⟩) M M)
      have c0 := hb.cell 0
      have c1 := hb.cell 1
      refine bodyPost_ret (v := .tuple #[.agg #[.int .i64 n, .slice (some ⟨g, 0, none⟩) M M], .int .i64 0]) ?_ rfl ⟨g, ?_, ?_, ?_, ?_⟩
      · simp [results, Tryd.results13, go_sem, c0, c1]
      · rw [length_ofL, ← length_zeros, HZ.out]
      · omega
      · exact (HR.out.far (HR.out.ne H4.out (by decide)) _).far (HR.out.ne H4.out (by decide)) _
      · exact (HXx.out.setCell (Nat.le_refl _) _).setCell (Nat.le_refl _) _
set_option maxHeartbeats 1600000 in
theorem bOf_at (n : Nat) (l : List Int) (k0 : Nat) (A : Option Addr) (c : Nat) (w : World) (hn : n ≤ 512) (hk0 : k0 < l.length) (hbad : ¬ (0 ≤ l.getD k0 0 ∧ l.getD k0 0 < n)) (hgood : ∀ j, j < k0 → 0 ≤ l.getD j 0 ∧ l.getD j 0 < n) (hC : Cells w A (ints l)) (hlen : l.length ≤ 1000000) :
    Calls Tryd.prog 13 #[.int .i64 n, .slice A l.length c] w (Ret w (Zero 2)) := by
  have HA := Lib.hid (fun i (h : i < l.length) => ints_at hC i h)
  have HBad := Lib.hid hbad
  have HGood := Lib.hid hgood
  have hmk := mk_u64 (((n : Int) + 63) / 64) ((n + 63) / 64) (by omega) (by omega)
  have HZ := Lib.hid (length_zeros n)
  have HWo := Lib.hid (fun w' => words_c n w' (by omega) (by omega)) 
  have g0 : decide ((n : Int) < 0) = false := by simp
  have g1 : decide (512 < (n : Int)) = false := by simp; omega
  have HZr : Hid ((u64s (zeros n)).toArray = zrow ((n + 63) / 64)) := rfl
  have hM : (n + 63) / 64 ≤ 8 := by omega
  have HM2 : Hid (∀ x, x < n → x / 64 < (n + 63) / 64) := fun x hx => by omega
  clear hC hbad hgood
  generalize l.length = m at *
  generalize (n + 63) / 64 = M at *
  go_enter Tryd.func13, Tryd.ntmps13
  go_wp2_with fail
  refine (HWo.out _).mono ?_
  rintro e w1 ⟨rfl, z, rfl⟩
  go_wp2_with fail
  have hB4 : Blk (ext (w.alloc (.cells #[.int .i64 0, .slice none 0 0] 24)) z) w.heap.size 24 [.int .i64 0, .slice none 0 0] := (Blk.new w 24 [.int .i64 0, .slice none 0 0]).ex ⟨z, rfl⟩
  have hb4x := hB4.lt
  have hX : Ex w (ext (w.alloc (.cells #[.int .i64 0, .slice none 0 0] 24)) z) := ((Ex.refl _).alloc _).ext _
  generalize ext (w.alloc (.cells #[.int .i64 0, .slice none 0 0] 24)) z = X at *
  have hB0 : Blk (X.alloc (.cells (zrow M) 54)) X.heap.size 54 (u64s (zeros n)) := by rw [← HZr.out]; exact Blk.new X 54 _
  have hB4' := hB4.alloc (.cells (zrow M) 54)
  have hX' := hX.alloc (.cells (zrow M) 54)
  have hs1 : (X.alloc (.cells (zrow M) 54)).heap.size = X.heap.size + 1 := by simp
  have hg' : w.heap.size ≤ X.heap.size := by omega
  have hB6 : Blk ((X.alloc (.cells (zrow M) 54)).alloc (.cells #[.int .i64 n, .slice (some ⟨X.heap.size, 0, none⟩) M M] 24)) (X.heap.size + 1) 24 [.int .i64 n, .slice (some ⟨X.heap.size, 0, none⟩) M M] := Blk.new' _ hs1.symm 24 [.int .i64 n, .slice (some ⟨X.heap.size, 0, none⟩) M M]
  have hB1 := hB0.alloc (.cells #[.int .i64 n, .slice (some ⟨X.heap.size, 0, none⟩) M M] 24)
  have hB4'' := hB4'.alloc (.cells #[.int .i64 n, .slice (some ⟨X.heap.size, 0, none⟩) M M] 24)
  have hX'' := hX'.alloc (.cells #[.int .i64 n, .slice (some ⟨X.heap.size, 0, none⟩) M M] 24)
  clear hs1 hB0 hB4' hX' hB4 hX hb4x hmk
  generalize (X.alloc (.cells (zrow M) 54)).alloc (.cells #[.int .i64 n, .slice (some ⟨X.heap.size, 0, none⟩) M M] 24) = Y at *
  obtain ⟨b6, hb6⟩ : ∃ b6, b6 = X.heap.size + 1 := ⟨_, rfl⟩
  have hb6' : w.heap.size ≤ b6 := by omega
  rw [← hb6] at hB6
  rw [← hb6]
  clear hb6
  generalize X.heap.size = g at *
  go_loopw [23] (fun i wr => ∃ (k : Nat) (ws : List Nat), i = .int .i64 k ∧ k ≤ k0 ∧ ws.length = M ∧ Wd ws ∧ Blk wr b6 24 [.int .i64 n, .slice (some ⟨g, 0, none⟩) M M] ∧ Blk wr w.heap.size 24 [.int .i64 0, .slice none 0 0] ∧ Blk wr g 54 (u64s ws) ∧ Ex w wr)
    (fun i _ => m - (intOf i).toNat)
  case atStart => exact ⟨0, zeros n, rfl, by omega, HZ.out, Wd.zeros n, hB6, hB4'', hB1, hX''⟩
  case round =>
    clear hB6 hB4'' hB1 hX''
    obtain ⟨k, ws, rfl, hk, hwl, hwd, h5, h4, hr, hx⟩ := hrel
    have HLk := Lib.hid hwl
    have HWk := Lib.hid hwd
    have HXx := Lib.hid hx
    have H5 := Lib.hid h5
    have H4 := Lib.hid h4
    have f0 : wr.cell? ⟨b6, 0, none⟩ = some (.int .i64 n) := h5.cell 0
    have f1 : wr.cell? ⟨b6, 1, none⟩ = some (.slice (some ⟨g, 0, none⟩) M M) := h5.cell 1
    have l5 := h5.lt
    have l4 := h4.lt
    have lg := hr.lt
    have hlt : k < m := by omega
    obtain ⟨ad, rfl, ha1, ha2⟩ := HA.out k hlt
    have hki : (k : Int) < (m : Int) := by omega
    by_cases hkk : k < k0
    · obtain ⟨x, hxe⟩ : ∃ x : Nat, l.getD k 0 = x := ⟨(l.getD k 0).toNat, by have := (HGood.out k hkk).1; omega⟩
      have hxn : x < n := by have := (HGood.out k hkk).2; omega
      rw [hxe] at ha2
      clear hxe
      have hx64 := HM2.out x hxn
      have f2 : wr.cell? ⟨g, x / 64, none⟩ = some (.int .u64 ((ws.getD (x / 64) 0 : Nat) : Int)) := by
        rw [hr.cell, u64s_get (by rw [HLk.out]; exact hx64), List.getD_eq_getElem?_getD, List.getElem?_eq_getElem (by rw [HLk.out]; exact hx64)]; rfl
      have HW := Lib.hid (HWk.out.lt (x / 64))
      generalize hov : ws.getD (x / 64) 0 = ov at f2
      have HOv := Lib.hid hov; clear hov
      have f3 : wr.frozen? ⟨g, x / 64, none⟩ = false := hr.frozen _
      have f4 : wr.cell? (ad.add k) = some (.int .i64 x) := (hx.below.cell ha1).trans ha2
      have HR := Lib.hid hr
      have HI := Lib.hid (fun (w' : World) => inside_c n x (some ⟨g, 0, none⟩) M M w')
      have hq : (decide ((0 : Int) ≤ (x : Int)) && decide ((x : Int) < (n : Int))) = true := by simp; omega
      rw [hq] at HI; clear hq
      have hxi : ((x / 64 : Nat) : Int) < (M : Int) := by omega
      clear hr h5 h4 hx ha2 ha1 hwl hwd
      go_wp2_with fail
      refine (HI.out _).mono ?_
      rintro e w2 ⟨rfl, y, rfl⟩
      go_wp2
      refine wp_region_tail 11 (by kernel_rfl) (by kernel_rfl) ?_
      simp only [List.take_succ_cons, List.take_zero, List.drop_succ_cons, List.drop_zero]
      repeat (go_big_quiet_step (fail))
      refine wpQuiet_on ?_
      go_wp2
      go_roundw
      case rel =>
        rw [or_bit ov (x % 64) (by rw [← HOv.out]; exact HW.out) (by omega)]
        refine ⟨k + 1, setBit ws x, by go_num, by omega, by rw [length_setBit]; exact HLk.out, HWk.out.setBit x, ((H5.out.ex ⟨y, rfl⟩).far (H5.out.ne HR.out (by decide)) _).drew, ((H4.out.ex ⟨y, rfl⟩).far (H4.out.ne HR.out (by decide)) _).drew, ?_, ((HXx.out.ext y).setCell hg' _).drew⟩
        rw [setBit, HOv.out, u64s_set]
        exact ((HR.out.ex ⟨y, rfl⟩).set_ _ _).drew
      case measure => simp [intOf]; omega
    · obtain rfl : k = k0 := by omega
      generalize l.getD k 0 = x at *
      have f2 : wr.cell? ⟨w.heap.size, 0, none⟩ = some (.int .i64 0) := h4.cell 0
      have f3 : wr.cell? ⟨w.heap.size, 1, none⟩ = some (.slice none 0 0) := h4.cell 1
      have f4 : wr.frozen? ⟨w.heap.size, 0, none⟩ = false := h4.frozen _
      have f5 : wr.frozen? ⟨w.heap.size, 1, none⟩ = false := h4.frozen _
      have f6 : wr.cell? (ad.add k) = some (.int .i64 x) := (hx.below.cell ha1).trans ha2
      have HI := Lib.hid (fun (w' : World) => inside_c n x (some ⟨g, 0, none⟩) M M w')
      have hq : (decide ((0 : Int) ≤ x) && decide (x < (n : Int))) = false := by have := HBad.out; simp; omega
      rw [hq] at HI; clear hq
      clear hr h5 h4 hx ha2 ha1 hwl hwd
      go_wp2_with fail
      refine (HI.out _).mono ?_
      rintro e w2 ⟨rfl, y, rfl⟩
      go_wp2
      have hb := ((H4.out.ex ⟨y, rfl⟩).set_ 0 (.int .i64 0)).set_ 1 (.slice none 0 0)
      have c0 := hb.cell 0
      have c1 := hb.cell 1
      refine bodyPost_ret (v := Zero 2) ?_ rfl ⟨rfl, ?_⟩
      · simp [results, Tryd.results13, go_sem, c0, c1, Zero]
      · exact ((HXx.out.ext y).setCell (Nat.le_refl _) _).setCell (Nat.le_refl _) _
theorem bOf_size (n : Int) (A : Option Addr) (m c : Nat) (w : World) (h : n < 0 ∨ 512 < n) :
    Calls Tryd.prog 13 #[.int .i64 n, .slice A m c] w (Ret w (Zero 2)) := by
  rcases h with h | h
  · go_enter Tryd.func13, Tryd.ntmps13
    go_wp2
    refine bodyPost_ret (v := Zero 2) ?_ rfl ⟨rfl, (Ex.refl _).alloc _⟩
    simp [results, Tryd.results13, go_sem, Zero]
  · have g0 : decide (n < 0) = false := by simp; omega
    go_enter Tryd.func13, Tryd.ntmps13
    go_wp2
    refine bodyPost_ret (v := Zero 2) ?_ rfl ⟨rfl, (Ex.refl _).alloc _⟩
    simp [results, Tryd.results13, go_sem, Zero]
theorem first_bad {p : Int → Prop} [DecidablePred p] (l : List Int) (h : ∃ x ∈ l, ¬ p x) : ∃ k, k < l.length ∧ ¬ p (l.getD k 0) ∧ ∀ j, j < k → p (l.getD j 0) := by
  induction l with
  | nil => obtain ⟨x, hx, _⟩ := h; cases hx
  | cons a l ih =>
    by_cases ha : p a
    · obtain ⟨x, hx, hp⟩ := h
      have : ∃ x ∈ l, ¬ p x := by
        rcases List.mem_cons.1 hx with rfl | hx
        · exact absurd ha hp
        · exact ⟨x, hx, hp⟩
      obtain ⟨k, h1, h2, h3⟩ := ih this
      refine ⟨k + 1, by simp; omega, by simpa using h2, fun j hj => ?_⟩
      cases j with
      | zero => simpa using ha
      | succ j => simpa using h3 j (by omega)
    · exact ⟨0, by simp, by simpa using ha, fun j hj => by omega⟩
theorem bOf_bad (n : Int) (l : List Int) (A : Option Addr) (c : Nat) (w : World) (h : n < 0 ∨ 512 < n ∨ ∃ x ∈ l, ¬ (0 ≤ x ∧ x < n)) (hC : Cells w A (ints l)) (hlen : l.length ≤ 1000000) :
    Calls Tryd.prog 13 #[.int .i64 n, .slice A l.length c] w (Ret w (Zero 2)) := by
  by_cases h0 : n < 0
  · exact bOf_size n A _ c w (.inl h0)
  by_cases h1 : 512 < n
  · exact bOf_size n A _ c w (.inr h1)
  obtain ⟨k, rfl⟩ : ∃ k : Nat, n = k := ⟨n.toNat, by omega⟩
  obtain ⟨k0, h2, h3, h4⟩ := first_bad (p := fun x => 0 ≤ x ∧ x < (k : Int)) l (by rcases h with h | h | h <;> first | omega | exact h)
  exact bOf_at k l k0 A c w (by omega) h2 h3 h4 hC hlen
end Go.Proofs.YtfinldppcdkeoaaDoor
