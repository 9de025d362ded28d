/-
  The functions that make sets: Empty and Of of the reference.
  Conditions: a size of at most 512; the numbers below the size.
-/
import Derived.Test.YtfinldppcdkeoaaDoorWd
namespace Go.Proofs.YtfinldppcdkeoaaDoor
open Go.RowKit Bm
theorem info54 : (Tryd.prog.info? 54).map (fun i => (i.zero, i.size, i.bytes)) = some (some (.int .u64 0), 1, 8) := by kernel_rfl
def zrow (m : Nat) : Array Value := (u64s (List.replicate m 0)).toArray
theorem zrow_eq (m : Nat) : madeCells #[.int .u64 0] (m * 1) = zrow m := by
  unfold madeCells zrow u64s
  apply Array.ext
  · simp
  · intro i h1 h2
    simp [Nat.mod_one]
theorem mk_u64 (L : Int) (m : Nat) (hL : L = m) (hm : m ≤ 1000) (W : World) :
    (Instr.makeSlice 22 (.int .i64 L) (.int .i64 L)).run Tryd.prog W = .ok (.slice (some ⟨W.heap.size, 0, none⟩) m m) (W.alloc (.cells (zrow m) 54)) := by
  obtain ⟨i, hi, hz, hs, hb⟩ := info_parts info54
  have h := run_make (P := Tryd.prog) W 22 54 i (.int .u64 0) Tryd.underlying22 hi hz .i64 .i64 L L (by omega) (Int.le_refl _) (by rw [hb]; omega) (by omega)
  rw [h, hs]
  subst hL
  rw [Int.toNat_natCast]
  have e := zrow_eq m
  simp only [Value.cells]
  rw [e]
def NewSet (w : World) (n : Int) (ws : List Nat) (e : Ending) (w' : World) : Prop :=
  ∃ g, e = .returned (.agg #[.int .i64 n, .slice (some ⟨g, 0, none⟩) ws.length ws.length]) ∧ w.heap.size ≤ g ∧ Blk w' g 54 (u64s ws) ∧ Ex w w'
theorem Blk.new' (X : World) {g : Nat} (hg : g = X.heap.size) (t : Nat) (cs : List Value) : Blk (X.alloc (.cells cs.toArray t)) g t cs := by rw [hg]; exact Blk.new X t cs
set_option maxHeartbeats 400000 in
theorem empty_c (n : Nat) (w : World) (hn : n ≤ 512) : Calls Tryd.prog 52 #[.int .i64 n] w (NewSet w n (zeros n)) := by
  have hmk := mk_u64 (((n : Int) + 63) / 64) ((n + 63) / 64) (by omega) (by omega)
  have HZ : Hid ((u64s (zeros n)).toArray = zrow ((n + 63) / 64) ∧ (zeros n).length = (n + 63) / 64) := ⟨rfl, length_zeros n⟩
  generalize (n + 63) / 64 = m at *
  go_enter Tryd.func52, Tryd.ntmps52
  go_wp2
  refine bodyPost_ret (v := .agg #[.int .i64 n, .slice (some ⟨w.heap.size + 1, 0, none⟩) m m]) ?_ rfl ⟨w.heap.size + 1, ?_, ?_, ?_, ?_⟩
  · simp [results, Tryd.results52, go_sem]
  · rw [HZ.out.2]
  · omega
  · rw [← HZ.out.1]
    exact Blk.new' _ (by simp) _ _
  · exact ((Ex.refl _).alloc _).alloc _
def natsV (l : List Nat) : List Value := l.map (fun (x : Nat) => .int .i64 (x : Int))
theorem nats_at {w : World} {A : Option Addr} {xs : List Nat} (hC : Cells w A (natsV xs)) (i : Nat) (h : i < xs.length) :
    ∃ ad, A = some ad ∧ (ad.add i).block < w.heap.size ∧ w.cell? (ad.add i) = some (.int .i64 ((xs.getD i 0 : Nat) : Int)) := by
  have hg : (natsV xs)[i]? = some (.int .i64 ((xs[i] : Nat) : Int)) := by rw [natsV, List.getElem?_map, List.getElem?_eq_getElem h]; rfl
  obtain ⟨ad, e, hb, hc⟩ := hC i _ hg
  have e2 : xs.getD i 0 = xs[i] := by rw [List.getD_eq_getElem?_getD, List.getElem?_eq_getElem h]; rfl
  rw [e2]
  exact ⟨ad, e, hb, hc⟩

theorem fold_take (l : List Nat) (k : Nat) (h : k < l.length) (ws : List Nat) : (l.take (k + 1)).foldl setBit ws = setBit ((l.take k).foldl setBit ws) (l.getD k 0) := by
  rw [List.take_succ_eq_append_getElem h, List.foldl_append, List.getD_eq_getElem?_getD, List.getElem?_eq_getElem h]
  rfl
theorem or_bit (x r : Nat) (hx : x < 18446744073709551616) (hr : r < 64) : bits BinOp.or IntKind.u64 (x : Int) (IntKind.u64.wrap (2 ^ r)) = ((x ||| 2 ^ r : Nat) : Int) := by
  have hp : (2 : Nat) ^ r < 18446744073709551616 := Nat.pow_lt_pow_right (by omega) (show r < 64 from hr)
  have e : IntKind.u64.wrap (2 ^ r) = ((2 ^ r : Nat) : Int) := by
    have e2 : ((2 : Int) ^ r) = ((2 ^ r : Nat) : Int) := by simp
    rw [IntKind.wrap_u64, e2]
    generalize (2 : Nat) ^ r = p at *
    omega
  rw [e, u64_or_nat _ _ hx hp]
theorem u64s_set (ws : List Nat) (k v : Nat) : u64s (ws.set k v) = (u64s ws).set k (.int .u64 (v : Int)) := by
  unfold u64s; rw [List.map_set]
set_option maxHeartbeats 1600000 in
theorem rOf_c (n : Nat) (l : List Nat) (A : Option Addr) (c : Nat) (w : World) (hn : n ≤ 512) (hl : ∀ x ∈ l, x < n) (hC : Cells w A (natsV l)) (hlen : l.length ≤ 1000000) :
    Calls Tryd.prog 19 #[.int .i64 n, .slice A l.length c] w (NewSet w n (ofL n l)) := by
  have HA := Lib.hid (fun i (h : i < l.length) => nats_at hC i h)
  have HE := Lib.hid (fun w' => empty_c n w' hn)
  have HT := Lib.hid (fold_take l)
  have HX : Hid (∀ k, k < l.length → l.getD k 0 < n) := fun k hk => by
    rw [List.getD_eq_getElem?_getD, List.getElem?_eq_getElem hk]; exact hl _ (List.getElem_mem _)
  have HO : Hid (ofL n l = (l.take l.length).foldl setBit (zeros n)) := by show ofL n l = _; rw [List.take_length]; rfl
  have hz := length_zeros n
  have HZ := Lib.hid hz
  clear hC hl hz
  generalize l.length = m at *
  go_enter Tryd.func19, Tryd.ntmps19
  go_wp2_with fail
  refine (HE.out _).mono ?_
  rintro e w1 ⟨g, rfl, hg, hB, z, rfl⟩
  rw [HZ.out]
  have hM : (n + 63) / 64 ≤ 8 := by omega
  have HM2 : Hid (∀ x, x < n → x / 64 < (n + 63) / 64) := fun x hx => by omega
  have HLn : Hid (∀ k, ((l.take k).foldl setBit (zeros n)).length = (n + 63) / 64) := fun k => by rw [fold_len, length_zeros]
  have HWd : Hid (∀ k, Wd ((l.take k).foldl setBit (zeros n))) := fun k => fold_wd _ _ (Wd.zeros n)
  generalize (n + 63) / 64 = M at *
  have hg' : w.heap.size ≤ g := by simp at hg; omega
  go_wp2
  have hgx := hB.lt
  have hB4 : Blk (ext (w.alloc (.cells #[.int .i64 0, .slice none 0 0] 24)) z) w.heap.size 24 [.int .i64 0, .slice none 0 0] := (Blk.new w 24 [.int .i64 0, .slice none 0 0]).ex ⟨z, rfl⟩
  have hb4x := hB4.lt
  have hX : Ex w (ext (w.alloc (.cells #[.int .i64 0, .slice none 0 0] 24)) z) := ((Ex.refl _).alloc _).ext _
  generalize ext (w.alloc (.cells #[.int .i64 0, .slice none 0 0] 24)) z = X at *
  have hB5 : Blk (X.alloc (.cells #[.int .i64 n, .slice (some ⟨g, 0, none⟩) M M] 24)) X.heap.size 24 [.int .i64 n, .slice (some ⟨g, 0, none⟩) M M] := Blk.new X 24 [.int .i64 n, .slice (some ⟨g, 0, none⟩) M M]
  have hb5 : w.heap.size ≤ X.heap.size := by omega
  have hB' := hB.alloc (.cells #[.int .i64 n, .slice (some ⟨g, 0, none⟩) M M] 24)
  have hB4' := hB4.alloc (.cells #[.int .i64 n, .slice (some ⟨g, 0, none⟩) M M] 24)
  have hX' := hX.alloc (.cells #[.int .i64 n, .slice (some ⟨g, 0, none⟩) M M] 24)
  generalize X.alloc (.cells #[.int .i64 n, .slice (some ⟨g, 0, none⟩) M M] 24) = Y at *
  clear hB hB4 hX hgx hb4x
  generalize X.heap.size = b5 at *
  go_loopw [6] (fun i wr => ∃ k : Nat, i = .int .i64 k ∧ k ≤ m ∧ Blk wr b5 24 [.int .i64 n, .slice (some ⟨g, 0, none⟩) M M] ∧ Blk wr w.heap.size 24 [.int .i64 0, .slice none 0 0] ∧ Blk wr g 54 (u64s ((l.take k).foldl setBit (zeros n))) ∧ Ex w wr)
    (fun i _ => m - (intOf i).toNat)
  case atStart => exact ⟨0, rfl, by omega, hB5, hB4', hB', hX'⟩
  case round =>
    obtain ⟨k, rfl, hk, h5, h4, hr, hx⟩ := hrel
    by_cases hlt : k < m
    · obtain ⟨ad, rfl, ha1, ha2⟩ := HA.out k hlt
      have hT := Lib.hid (HT.out k hlt (zeros n))
      have hxn := HX.out k hlt
      have HLk := Lib.hid (HLn.out k)
      have HWk := Lib.hid (HWd.out k)
      generalize (l.take k).foldl setBit (zeros n) = ws at *
      generalize l.getD k 0 = x at *
      have hx64 := HM2.out x hxn
      have f0 : wr.cell? ⟨b5, 0, none⟩ = some (.int .i64 n) := h5.cell 0
      have f1 : wr.cell? ⟨b5, 1, none⟩ = some (.slice (some ⟨g, 0, none⟩) M M) := h5.cell 1
      have f2 : wr.cell? ⟨g, x / 64, none⟩ = some (.int .u64 ((ws.getD (x / 64) 0 : Nat) : Int)) := by
        rw [hr.cell, u64s_get (by rw [HLk.out]; exact hx64), List.getD_eq_getElem?_getD, List.getElem?_eq_getElem (by rw [HLk.out]; exact hx64)]; rfl
      have HW := Lib.hid (HWk.out.lt (x / 64))
      generalize hov : ws.getD (x / 64) 0 = ov at f2
      have HOv := Lib.hid hov; clear hov
      have f3 : wr.frozen? ⟨g, x / 64, none⟩ = false := hr.frozen _
      have f4 : wr.cell? (ad.add k) = some (.int .i64 x) := (hx.below.cell ha1).trans ha2
      have HR := Lib.hid hr
      have H5 := Lib.hid h5
      have H4 := Lib.hid h4
      have HXx := Lib.hid hx
      have hxi : ((x / 64 : Nat) : Int) < (M : Int) := by omega
      have hki : (k : Int) < (m : Int) := by omega
      clear hr h5 h4 hx ha2 hB' hB4' hB5 hX'
      go_wp2
      refine wp_region_tail 25 (by kernel_rfl) (by kernel_rfl) ?_
      simp only [List.take_succ_cons, List.take_zero, List.drop_succ_cons, List.drop_zero]
      repeat (go_big_quiet_step (fail))
      refine wpQuiet_on ?_
      go_wp2
      go_roundw
      case rel =>
        rw [or_bit ov (x % 64) (by rw [← HOv.out]; exact HW.out) (by omega)]
        refine ⟨k + 1, by go_num, by omega, (H5.out.far (H5.out.ne HR.out (by decide)) _).drew, (H4.out.far (H4.out.ne HR.out (by decide)) _).drew, ?_, (HXx.out.setCell hg' _).drew⟩
        rw [hT.out, setBit, HOv.out, u64s_set]
        exact (HR.out.set_ _ _).drew
      case measure => simp [intOf]; omega
    · have hkm : k = m := by omega
      have HF := HO.out
      rw [← hkm] at HF
      rw [← HF] at hr
      have HF2 := Lib.hid HF
      have f0 : wr.cell? ⟨b5, 0, none⟩ = some (.int .i64 n) := h5.cell 0
      have f1 : wr.cell? ⟨b5, 1, none⟩ = some (.slice (some ⟨g, 0, none⟩) M M) := h5.cell 1
      have f2 : wr.cell? ⟨w.heap.size, 0, none⟩ = some (.int .i64 0) := h4.cell 0
      have f3 : wr.cell? ⟨w.heap.size, 1, none⟩ = some (.slice none 0 0) := h4.cell 1
      have f4 : wr.frozen? ⟨w.heap.size, 0, none⟩ = false := h4.frozen _
      have f5 : wr.frozen? ⟨w.heap.size, 1, none⟩ = false := h4.frozen _
      have HR := Lib.hid hr
      have H4 := Lib.hid h4
      have HXx := Lib.hid hx
      clear hr h5 h4 hx hB' hB4' hB5 hX' hkm HF
      go_wp2
      have hb := (H4.out.set_ 0 (.int .i64 n)).set_ 1 (.slice (some ⟨g, 0, none⟩) M M)
      have c0 := hb.cell 0
      have c1 := hb.cell 1
      refine bodyPost_ret (v := .agg #[.int .i64 n, .slice (some ⟨g, 0, none⟩) M M]) ?_ rfl ⟨g, ?_, ?_, ?_, ?_⟩
      · simp [results, Tryd.results19, go_sem, c0, c1]
      · rw [length_ofL, ← length_zeros, HZ.out]
      · omega
      · exact (HR.out.far (HR.out.ne H4.out (by decide)) _).far (HR.out.ne H4.out (by decide)) _
      · exact (HXx.out.setCell (Nat.le_refl _) _).setCell (Nat.le_refl _) _
end Go.Proofs.YtfinldppcdkeoaaDoor
