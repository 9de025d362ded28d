/-
  What the small functions over sets return: validity, bits, equality.
  Conditions: words below 2^64, at most 20 words, where it is said.
-/
import Derived.Test.YtfinldppcdkeoaaDoorBase
import Derived.Test.YtfinldppcdkeoaaDoorMathb
namespace Go.Proofs.YtfinldppcdkeoaaDoor
open Go.RowKit Bm
def u64s (ws : List Nat) : List Value := ws.map (fun (x : Nat) => .int .u64 (x : Int))
theorem u64s_get {ws : List Nat} {i : Nat} (h : i < ws.length) : (u64s ws)[i]? = some (.int .u64 ((ws[i] : Nat) : Int)) := by
  rw [u64s, List.getElem?_map, List.getElem?_eq_getElem h]; rfl
theorem u64s_at {w : World} {A : Option Addr} {ws : List Nat} (hC : Cells w A (u64s ws)) (i : Nat) (h : i < ws.length) :
    ∃ ad, A = some ad ∧ (ad.add i).block < w.heap.size ∧ w.cell? (ad.add i) = some (.int .u64 ((ws.getD i 0 : Nat) : Int)) := by
  obtain ⟨ad, e, hb, hc⟩ := hC i _ (u64s_get h)
  have e2 : ws.getD i 0 = ws[i] := by rw [List.getD_eq_getElem?_getD, List.getElem?_eq_getElem h]; rfl
  rw [e2]
  exact ⟨ad, e, hb, hc⟩
def ints (xs : List Int) : List Value := xs.map (fun x => .int .i64 x)
theorem ints_get {xs : List Int} {i : Nat} (h : i < xs.length) : (ints xs)[i]? = some (.int .i64 xs[i]) := by
  rw [ints, List.getElem?_map, List.getElem?_eq_getElem h]; rfl
theorem ints_at {w : World} {A : Option Addr} {xs : List Int} (hC : Cells w A (ints xs)) (i : Nat) (h : i < xs.length) :
    ∃ ad, A = some ad ∧ (ad.add i).block < w.heap.size ∧ w.cell? (ad.add i) = some (.int .i64 (xs.getD i 0)) := by
  obtain ⟨ad, e, hb, hc⟩ := hC i _ (ints_get h)
  have e2 : xs.getD i 0 = xs[i] := by rw [List.getD_eq_getElem?_getD, List.getElem?_eq_getElem h]; rfl
  rw [e2]
  exact ⟨ad, e, hb, hc⟩
theorem test_eq (x r : Nat) (hx : x < 18446744073709551616) : (bits BinOp.and IntKind.u64 ((x : Int) / 2 ^ r) 1 == 1) = x.testBit r := by
  have h : ((x : Int) / 2 ^ r) = ((x / 2 ^ r : Nat) : Int) := by simp
  have hlt : x / 2 ^ r < 18446744073709551616 := Nat.lt_of_le_of_lt (Nat.div_le_self _ _) hx
  rw [h, show (1 : Int) = ((1 : Nat) : Int) from rfl, u64_and_nat _ 1 hlt (by decide), nat_mask1, Nat.testBit_eq_decide_div_mod_eq, Bool.eq_iff_iff]
  simp
  omega
theorem Bm.Wd.lt {ws : List Nat} (h : Wd ws) (i : Nat) : ws.getD i 0 < 18446744073709551616 := h.getD i

theorem words_c (n : Int) (w : World) (h0 : 0 ≤ n) (h1 : n ≤ 512) : Calls Tryd.prog 48 #[.int .i64 n] w (Ret w (.int .i64 ((n + 63) / 64))) := by
  go_enter Tryd.func48, Tryd.ntmps48
  go_wp2
  go_ret
  exact Ret.mk (by simp; omega) (Ex.refl _)
theorem inside_c (n i : Int) (A : Option Addr) (m c : Nat) (w : World) :
    Calls Tryd.prog 49 #[.agg #[.int .i64 n, .slice A m c], .int .i64 i] w (Ret w (.bool (decide (0 ≤ i) && decide (i < n)))) := by
  by_cases h : 0 ≤ i
  · by_cases h2 : i < n
    all_goals
      go_enter Tryd.func49, Tryd.ntmps49
      go_wp2
      go_ret
      exact Ret.mk (by simp [h, h2]) ((Ex.refl _).alloc _)
  · go_enter Tryd.func49, Tryd.ntmps49
    go_wp2
    go_ret
    exact Ret.mk (by simp; omega) ((Ex.refl _).alloc _)
set_option maxHeartbeats 400000 in
theorem bit_c (n : Int) (i : Nat) (A : Option Addr) (c : Nat) (w : World) (ws : List Nat) (hC : Cells w A (u64s ws)) (hw : Wd ws) (hi : i < 64 * ws.length) (hm : ws.length ≤ 20) :
    Calls Tryd.prog 53 #[.agg #[.int .i64 n, .slice A ws.length c], .int .i64 i] w (Ret w (.bool (bitAt ws i))) := by
  obtain ⟨ad, rfl, hb, hc⟩ := u64s_at hC (i / 64) (by omega)
  have HB := Lib.hid (test_eq _ (i % 64) (hw.lt (i / 64)))
  have HU : Hid (bitAt ws i = (ws.getD (i / 64) 0).testBit (i % 64)) := rfl
  generalize ws.getD (i / 64) 0 = x at *
  have hq : ((i / 64 : Nat) : Int) < ws.length := by omega
  clear hC hw
  go_enter Tryd.func53, Tryd.ntmps53
  go_wp2
  go_ret
  exact Ret.mk (by rw [HU.out, ← HB.out]; rfl) ((Ex.refl _).alloc _)
set_option maxHeartbeats 400000 in
theorem has_c (n : Int) (i : Nat) (A : Option Addr) (c : Nat) (w : World) (ws : List Nat) (hC : Cells w A (u64s ws)) (hw : Wd ws) (hi : i < 64 * ws.length) (hm : ws.length ≤ 20) :
    Calls Tryd.prog 61 #[.agg #[.int .i64 n, .slice A ws.length c], .int .i64 i] w (Ret w (.bool (bitAt ws i))) := by
  obtain ⟨ad, rfl, hb, hc⟩ := u64s_at hC (i / 64) (by omega)
  have HB := Lib.hid (test_eq _ (i % 64) (hw.lt (i / 64)))
  have HU : Hid (bitAt ws i = (ws.getD (i / 64) 0).testBit (i % 64)) := rfl
  generalize ws.getD (i / 64) 0 = x at *
  have hq : ((i / 64 : Nat) : Int) < ws.length := by omega
  clear hC hw
  go_enter Tryd.func61, Tryd.ntmps61
  go_wp2
  go_ret
  exact Ret.mk (by rw [HU.out, ← HB.out]; rfl) ((Ex.refl _).alloc _)

theorem validB_neg {n : Int} {ws : List Nat} (h : n < 0 ∨ 512 < n) : validB n ws = false := by
  unfold validB; simp; omega
theorem validB_len {n : Int} {ws : List Nat} (h : (ws.length : Int) ≠ (n + 63) / 64) : validB n ws = false := by
  unfold validB; simp [h]
theorem validB_clean {n : Nat} {ws : List Nat} (h1 : n ≤ 512) (h : (ws.length : Int) = (n + 63) / 64) : validB n ws = cleanB ws n := by
  unfold validB; simp [h]; intro; omega
set_option maxHeartbeats 800000 in
theorem rvalid_ok (n : Nat) (A : Option Addr) (c : Nat) (ws : List Nat) (w : World) (hC : Cells w A (u64s ws)) (hw : Wd ws) (h1 : n ≤ 512) (hm : (ws.length : Int) = (n + 63) / 64) :
    Calls Tryd.prog 20 #[.agg #[.int .i64 n, .slice A ws.length c]] w (Ret w (.bool (cleanB ws n))) := by
  have hd : ((ws.length : Int) != ((n : Int) + 63) / 64) = false := by simpa using hm
  have hle : ws.length ≤ 8 := by omega
  have HB := Lib.hid (fun (w' : World) (hx : Ex w w') (i : Nat) (hi : i < 64 * ws.length) => bit_c n i A c w' ws (hC.ex hx) hw hi (by omega))
  have hn : n ≤ 64 * ws.length := by omega
  have HI := Lib.hid (cleanB_iff ws n)
  generalize hl : ws.length = m at *
  clear hl hm hw hC
  go_enter Tryd.func20, Tryd.ntmps20
  go_wp2
  go_loopw [3] (fun i wr => ∃ k : Nat, i = .int .i64 k ∧ n ≤ k ∧ k ≤ 64 * m ∧ Hid (∀ j, n ≤ j → j < k → bitAt ws j = false) ∧ Ex (w.alloc (.cells #[.int .i64 n, .slice A m c] 24)) wr)
    (fun i _ => 64 * m - (intOf i).toNat)
  case atStart => exact ⟨n, rfl, Nat.le_refl _, hn, fun j _ _ => by omega, Ex.refl _⟩
  case round =>
    obtain ⟨k, rfl, hk1, hk2, hk3, z, rfl⟩ := hrel
    by_cases hlt : k < 64 * m
    · cases hbit : bitAt ws k
      · have HBit := Lib.hid hbit
        have HK := Lib.hid (HB.out _ (((Ex.refl _).alloc _).ext z) k hlt)
        rw [hbit] at HK; clear hbit
        go_wp2_with (go_at_call 53; refine HK.out.mono ?_; rintro e w' ⟨rfl, y, rfl⟩)
        go_roundw
        case rel =>
          refine ⟨k + 1, by go_num, by omega, by omega, ?_, ext_ext _ _ _⟩
          intro j h1 h2
          by_cases hj : j = k
          · rw [hj]; exact HBit.out
          · exact hk3 j h1 (by omega)
        case measure => simp [intOf]; omega
      · have HBit := Lib.hid hbit
        have HK := Lib.hid (HB.out _ (((Ex.refl _).alloc _).ext z) k hlt)
        rw [hbit] at HK; clear hbit
        have hf : cleanB ws n = false := by
          cases hc : cleanB ws n
          · rfl
          · have := HI.out.1 hc k hk1 hlt; rw [HBit.out] at this; cases this
        have HF := Lib.hid hf; clear hf
        go_wp2_with (go_at_call 53; refine HK.out.mono ?_; rintro e w' ⟨rfl, y, rfl⟩)
        go_ret
        exact Ret.mk (by rw [HF.out]; rfl) ((((Ex.refl _).alloc _).ext _).ext _)
    · have hf : cleanB ws n = true := HI.out.2 fun i h1 h2 => hk3 i h1 (by omega)
      have HF := Lib.hid hf; clear hf
      go_wp2
      go_ret
      exact Ret.mk (by rw [HF.out]; rfl) (((Ex.refl _).alloc _).ext _)
set_option maxHeartbeats 400000 in
theorem rvalid_c (n : Int) (A : Option Addr) (c : Nat) (ws : List Nat) (w : World) (hC : Cells w A (u64s ws)) (hw : Wd ws) :
    Calls Tryd.prog 20 #[.agg #[.int .i64 n, .slice A ws.length c]] w (Ret w (.bool (validB n ws))) := by
  by_cases h0 : n < 0
  · rw [validB_neg (.inl h0)]
    clear hC hw
    go_enter Tryd.func20, Tryd.ntmps20
    go_wp2
    go_ret
    exact Ret.mk rfl ((Ex.refl _).alloc _)
  · have g0 : decide (n < 0) = false := by simp; omega
    by_cases h1 : 512 < n
    · rw [validB_neg (.inr h1)]
      clear hC hw
      go_enter Tryd.func20, Tryd.ntmps20
      go_wp2
      go_ret
      exact Ret.mk rfl ((Ex.refl _).alloc _)
    · have g1 : decide (512 < n) = false := by simp; omega
      by_cases h2 : (ws.length : Int) = (n + 63) / 64
      · obtain ⟨k, rfl⟩ : ∃ k : Nat, n = k := ⟨n.toNat, by omega⟩
        rw [validB_clean (by omega) h2]
        exact rvalid_ok k A c ws w hC hw (by omega) h2
      · rw [validB_len h2]
        have hd : ((ws.length : Int) != (n + 63) / 64) = true := by simpa using h2
        have h3 : n ≤ 512 := by omega
        have h4 : 0 ≤ n := by omega
        clear hC hw h2 h0 h1
        go_enter Tryd.func20, Tryd.ntmps20
        go_wp2
        go_ret
        exact Ret.mk rfl ((Ex.refl _).alloc _)
end Go.Proofs.YtfinldppcdkeoaaDoor
