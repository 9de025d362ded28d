/-
  The program's order of sets.
  Conditions: words below 2^64.
-/
import Derived.Test.YtfinldppcdkeoaaDoorWl
namespace Go.Proofs.YtfinldppcdkeoaaDoor
open Go.RowKit Bm
def cmpI (x y : Int) : Int := if x < y then -1 else if y < x then 1 else 0
theorem isNaN_c (x : Int) (w : World) : Calls Tryd.prog 69 #[.int .i64 x] w (Ret w (.bool false)) := by
  have h : (x != x) = false := by simp
  go_enter Tryd.func69, Tryd.ntmps69
  go_wp2
  go_ret
  exact Ret.mk rfl (Ex.refl _)
theorem cmp_c (x y : Int) (w : World) : Calls Tryd.prog 56 #[.int .i64 x, .int .i64 y] w (Ret w (.int .i64 (cmpI x y))) := by
  have H1 := Lib.hid (fun w' => isNaN_c x w')
  have H2 := Lib.hid (fun w' => isNaN_c y w')
  have HV : Hid (∀ r, cmpI x y = r → Value.int .i64 r = .int .i64 (cmpI x y)) := fun r h => by rw [h]
  by_cases h1 : x < y
  · have hr : Hid (cmpI x y = -1) := by show cmpI x y = -1; simp [cmpI, h1]
    have g1 : decide (x < y) = true := by simp [h1]
    clear h1
    go_enter Tryd.func56, Tryd.ntmps56
    go_wp2_with fail
    refine (H1.out _).mono ?_
    rintro e w' ⟨rfl, y1, rfl⟩
    go_wp2_with fail
    refine (Calls.up (W := w) ⟨_, rfl⟩ (H2.out _)).mono ?_
    rintro e w' ⟨rfl, y2, rfl⟩
    go_wp2
    go_ret
    exact Ret.mk (by rw [hr.out]; rfl) ((Ex.refl _).ext _)
  · have g1 : decide (x < y) = false := by simp; omega
    by_cases h2 : y < x
    · have hr : Hid (cmpI x y = 1) := by show cmpI x y = 1; simp [cmpI, h1, h2]
      have g2 : decide (y < x) = true := by simp [h2]
      clear h1 h2
      go_enter Tryd.func56, Tryd.ntmps56
      go_wp2_with fail
      refine (H1.out _).mono ?_
      rintro e w' ⟨rfl, y1, rfl⟩
      go_wp2_with fail
      refine (Calls.up (W := w) ⟨_, rfl⟩ (H2.out _)).mono ?_
      rintro e w' ⟨rfl, y2, rfl⟩
      go_wp2
      go_ret
      exact Ret.mk (by rw [hr.out]; rfl) ((Ex.refl _).ext _)
    · have hr : Hid (cmpI x y = 0) := by show cmpI x y = 0; simp [cmpI, h1, h2]
      have g2 : decide (y < x) = false := by simp; omega
      clear h1 h2
      go_enter Tryd.func56, Tryd.ntmps56
      go_wp2_with fail
      refine (H1.out _).mono ?_
      rintro e w' ⟨rfl, y1, rfl⟩
      go_wp2_with fail
      refine (Calls.up (W := w) ⟨_, rfl⟩ (H2.out _)).mono ?_
      rintro e w' ⟨rfl, y2, rfl⟩
      go_wp2
      go_ret
      exact Ret.mk (by rw [hr.out]; rfl) ((Ex.refl _).ext _)
def cmpR (r c : Int) : Value := .tuple #[.int .i64 r, .int .i64 c]
set_option maxHeartbeats 800000 in
theorem bCompare_bad (n p : Int) (A B : Option Addr) (c d : Nat) (ws us : List Nat) (w : World) (hC : Cells w A (u64s ws)) (hD : Cells w B (u64s us)) (hw : Wd ws) (hu : Wd us) (h : (validB n ws && (validB p us && decide (n = p))) = false) :
    Calls Tryd.prog 24 #[.agg #[.int .i64 n, .slice A ws.length c], .agg #[.int .i64 p, .slice B us.length d]] w (Ret w (cmpR 0 1)) := by
  have H1 := Lib.hid (fun w' (hx : Ex w w') => matching_c n p A B c d ws us w' (hC.ex hx) (hD.ex hx) hw hu)
  rw [h] at H1; clear h
  clear hC hD hw hu
  generalize ws.length = m at *
  generalize us.length = m2 at *
  go_enter Tryd.func24, Tryd.ntmps24
  go_wp2_with fail
  refine (H1.out _ (by repeat (first | exact Ex.refl _ | apply Ex.ext | apply Ex.alloc))).mono ?_
  rintro e w' ⟨rfl, y, rfl⟩
  go_wp2
  go_ret2
  exact Ret.mk rfl ((((Ex.refl _).alloc _).alloc _).ext _)
set_option maxHeartbeats 800000 in
theorem bCompare_same (n : Nat) (A B : Option Addr) (c d : Nat) (ws : List Nat) (w : World) (hC : Cells w A (u64s ws)) (hD : Cells w B (u64s ws)) (hw : Wd ws) (hv : Valid n ws) :
    Calls Tryd.prog 24 #[.agg #[.int .i64 n, .slice A ws.length c], .agg #[.int .i64 n, .slice B ws.length d]] w (Ret w (cmpR 0 0)) := by
  have h20 : ws.length ≤ 20 := by have := hv.le; have := hv.len; omega
  have H1 := Lib.hid (fun w' (hx : Ex w w') => matching_c n n A B c d ws ws w' (hC.ex hx) (hD.ex hx) hw hw)
  rw [(validB_iff n ws).2 ⟨n, rfl, hv⟩, decide_eq_true (rfl : (n : Int) = n)] at H1
  have H2 := Lib.hid (fun w' (hx : Ex w w') => equ_c A B c d ws ws w' (hC.ex hx) (hD.ex hx) (by omega))
  rw [decide_eq_true (rfl : ws = ws)] at H2
  clear hC hD hw hv
  generalize ws.length = m at *
  go_enter Tryd.func24, Tryd.ntmps24
  go_wp2_with fail
  refine (H1.out _ (by repeat (first | exact Ex.refl _ | apply Ex.ext | apply Ex.alloc))).mono ?_
  rintro e w' ⟨rfl, y, rfl⟩
  go_wp2_with fail
  refine (Calls.up (W := (w.alloc (.cells #[.int .i64 n, .slice A m c] 24)).alloc (.cells #[.int .i64 n, .slice B m d] 24)) ⟨_, rfl⟩ (H2.out _ (by repeat (first | exact Ex.refl _ | apply Ex.ext | apply Ex.alloc)))).mono ?_
  rintro e w' ⟨rfl, y2, rfl⟩
  go_wp2
  go_ret2
  exact Ret.mk rfl ((((Ex.refl _).alloc _).alloc _).ext _)
set_option maxHeartbeats 1600000 in
theorem bCompare_cnt (n : Nat) (A B : Option Addr) (c d : Nat) (ws us : List Nat) (w : World) (hC : Cells w A (u64s ws)) (hD : Cells w B (u64s us)) (hw : Wd ws) (hu : Wd us) (hv : Valid n ws) (hvu : Valid n us)
    (hne : ws ≠ us) (r : Int) (hr : cmpI (cntB n ws) (cntB n us) = r) (hr0 : (r != 0) = true) :
    Calls Tryd.prog 24 #[.agg #[.int .i64 n, .slice A ws.length c], .agg #[.int .i64 n, .slice B us.length d]] w (Ret w (cmpR r 0)) := by
  have h20 : ws.length ≤ 20 := by have := hv.le; have := hv.len; omega
  have H1 := Lib.hid (fun w' (hx : Ex w w') => matching_c n n A B c d ws us w' (hC.ex hx) (hD.ex hx) hw hu)
  rw [(validB_iff n ws).2 ⟨n, rfl, hv⟩, (validB_iff n us).2 ⟨n, rfl, hvu⟩, decide_eq_true (rfl : (n : Int) = n)] at H1
  have H2 := Lib.hid (fun w' (hx : Ex w w') => equ_c A B c d ws us w' (hC.ex hx) (hD.ex hx) (by omega))
  rw [decide_eq_false hne] at H2
  have H3 := Lib.hid (fun w' (hx : Ex w w') => bCount_c n A c ws w' (hC.ex hx) hw)
  have H4 := Lib.hid (fun w' (hx : Ex w w') => bCount_c n B d us w' (hD.ex hx) hu)
  have H5 := Lib.hid (fun w' => cmp_c (cntB n ws) (cntB n us) w')
  rw [hr] at H5
  clear hC hD hw hv hu hvu hne hr
  generalize cntB n ws = c1 at *
  generalize cntB n us = c2 at *
  generalize ws.length = m at *
  generalize us.length = m2 at *
  go_enter Tryd.func24, Tryd.ntmps24
  go_wp2_with fail
  refine (H1.out _ (by repeat (first | exact Ex.refl _ | apply Ex.ext | apply Ex.alloc))).mono ?_
  rintro e w' ⟨rfl, y, rfl⟩
  go_wp2_with fail
  refine (Calls.up (W := (w.alloc (.cells #[.int .i64 n, .slice A m c] 24)).alloc (.cells #[.int .i64 n, .slice B m2 d] 24)) ⟨_, rfl⟩ (H2.out _ (by repeat (first | exact Ex.refl _ | apply Ex.ext | apply Ex.alloc)))).mono ?_
  rintro e w' ⟨rfl, y2, rfl⟩
  go_wp2
  refine wp_region_exu (by kernel_rfl) (by kernel_rfl) ?_
  repeat (go_big_quiet_step (fail))
  go_big_quiet_step ((go_at_call 25; exact quiet_ext (H3.out _ (by repeat (first | exact Ex.refl _ | apply Ex.ext | apply Ex.alloc)))))
  repeat (go_big_quiet_step (fail))
  go_big_quiet_step ((go_at_call 25; exact quiet_ext (H4.out _ (by repeat (first | exact Ex.refl _ | apply Ex.ext | apply Ex.alloc)))))
  repeat (go_big_quiet_step ((go_at_call 56; exact quiet_ext (H5.out _))))
  refine wpQuiet_nil (fun w' ⟨z, hz⟩ => ?_)
  subst hz
  go_wp2
  go_ret2
  exact Ret.mk rfl ((((Ex.refl _).alloc _).alloc _).ext _)
theorem low_and (v d : Nat) (h0 : d ≠ 0) (hv : v < 18446744073709551616) (hd : d < 18446744073709551616) :
    (bits BinOp.and .u64 (v : Int) (bits BinOp.and .u64 (d : Int) (IntKind.u64.wrap (-(d : Int)))) != 0) = v.testBit (Go.Lib.ctz 64 d) := by
  have e1 : IntKind.u64.wrap (-(d : Int)) = ((18446744073709551616 - d : Nat) : Int) := by rw [IntKind.wrap_u64]; omega
  have hl := (Go.Lib.lowest_bit 64 d h0 hd)
  rw [e1, u64_and_nat d _ hd (by omega), hl.1]
  have hp : 2 ^ Go.Lib.ctz 64 d < 18446744073709551616 := Nat.pow_lt_pow_right (by omega) (show Go.Lib.ctz 64 d < 64 from hl.2)
  rw [u64_and_nat v _ hv hp]
  generalize Go.Lib.ctz 64 d = t
  have h2 : (2 : Nat) ^ t ≠ 0 := by have := Nat.two_pow_pos t; omega
  cases hb : v.testBit t
  · have e : v &&& 2 ^ t = 0 := by
      apply Nat.eq_of_testBit_eq
      intro i
      rw [Nat.testBit_and, Nat.testBit_two_pow, Nat.zero_testBit]
      by_cases hi : t = i
      · subst hi; simp [hb]
      · simp [hi]
    rw [e]; rfl
  · have e : v &&& 2 ^ t = 2 ^ t := by
      apply Nat.eq_of_testBit_eq
      intro i
      rw [Nat.testBit_and, Nat.testBit_two_pow]
      by_cases hi : t = i
      · subst hi; simp [hb]
      · simp [hi]
    rw [e]
    generalize (2 : Nat) ^ t = q at *
    simp; omega
theorem xor_zero_eq {a b : Nat} (h : a ^^^ b = 0) : a = b := Nat.eq_of_testBit_eq fun i => by
  have h2 := congrArg (fun x => x.testBit i) h
  simpa using h2
theorem bCompare_loop_fact (n : Nat) (ws us : List Nat) (hw : Wd ws) (hu : Wd us) (hv : Valid n ws) (hvu : Valid n us) (k : Nat) (hk : k < ws.length) (hlow : ∀ j, j < k → ws.getD j 0 = us.getD j 0) (hd : ws.getD k 0 ^^^ us.getD k 0 ≠ 0) :
    fd (bitAt ws) (bitAt us) (List.range n) = if (ws.getD k 0).testBit (Go.Lib.ctz 64 (ws.getD k 0 ^^^ us.getD k 0)) then -1 else 1 := by
  have hnm : n ≤ 64 * ws.length := by have := hv.len; omega
  rw [← fd_word hk hlow (hw.getD k) (hu.getD k) hd]
  refine (fd_range_le hnm fun i hi => ?_).symm
  rw [hv.clean i hi, hvu.clean i hi]
set_option maxHeartbeats 1600000 in
theorem bCompare_loop (n : Nat) (A B : Option Addr) (c d : Nat) (ws us : List Nat) (w : World) (hC : Cells w A (u64s ws)) (hD : Cells w B (u64s us)) (hw : Wd ws) (hu : Wd us) (hv : Valid n ws) (hvu : Valid n us)
    (hne : ws ≠ us) (hr : cmpI (cntB n ws) (cntB n us) = 0) :
    Calls Tryd.prog 24 #[.agg #[.int .i64 n, .slice A ws.length c], .agg #[.int .i64 n, .slice B us.length d]] w (Ret w (cmpR (fd (bitAt ws) (bitAt us) (List.range n)) 0)) := by
  have h20 : ws.length ≤ 20 := by have := hv.le; have := hv.len; omega
  have hl : ws.length = us.length := by rw [hv.len, hvu.len]
  have H1 := Lib.hid (fun w' (hx : Ex w w') => matching_c n n A B c d ws us w' (hC.ex hx) (hD.ex hx) hw hu)
  rw [(validB_iff n ws).2 ⟨n, rfl, hv⟩, (validB_iff n us).2 ⟨n, rfl, hvu⟩, decide_eq_true (rfl : (n : Int) = n)] at H1
  have H2 := Lib.hid (fun w' (hx : Ex w w') => equ_c A B c d ws us w' (hC.ex hx) (hD.ex hx) (by omega))
  rw [decide_eq_false hne] at H2
  have H3 := Lib.hid (fun w' (hx : Ex w w') => bCount_c n A c ws w' (hC.ex hx) hw)
  have H4 := Lib.hid (fun w' (hx : Ex w w') => bCount_c n B d us w' (hD.ex hx) hu)
  have H5 := Lib.hid (fun w' => cmp_c (cntB n ws) (cntB n us) w')
  rw [hr] at H5
  have HA := Lib.hid (fun i (h : i < ws.length) => u64s_at hC i h)
  have HB := Lib.hid (fun i (h : i < us.length) => u64s_at hD i h)
  have HW := Lib.hid (fun i => hw.lt i)
  have HU := Lib.hid (fun i => hu.lt i)
  have HF := Lib.hid (bCompare_loop_fact n ws us hw hu hv hvu)
  have HN : Hid ((∀ j, j < ws.length → ws.getD j 0 = us.getD j 0) → False) := fun h => hne (list_ext_upto (d := 0) hl h)
  rw [← hl] at *
  clear hC hD hw hv hu hvu hne hr hl
  generalize fd (bitAt ws) (bitAt us) (List.range n) = R at *
  generalize cntB n ws = c1 at *
  generalize cntB n us = c2 at *
  generalize ws.length = m at *
  go_enter Tryd.func24, Tryd.ntmps24
  go_wp2_with fail
  refine (H1.out _ (by repeat (first | exact Ex.refl _ | apply Ex.ext | apply Ex.alloc))).mono ?_
  rintro e w' ⟨rfl, y, rfl⟩
  go_wp2_with fail
  refine (Calls.up (W := (w.alloc (.cells #[.int .i64 n, .slice A m c] 24)).alloc (.cells #[.int .i64 n, .slice B m d] 24)) ⟨_, rfl⟩ (H2.out _ (by repeat (first | exact Ex.refl _ | apply Ex.ext | apply Ex.alloc)))).mono ?_
  rintro e w' ⟨rfl, y2, rfl⟩
  go_wp2
  refine wp_region_exu (by kernel_rfl) (by kernel_rfl) ?_
  repeat (go_big_quiet_step (fail))
  go_big_quiet_step ((go_at_call 25; exact quiet_ext (H3.out _ (by repeat (first | exact Ex.refl _ | apply Ex.ext | apply Ex.alloc)))))
  repeat (go_big_quiet_step (fail))
  go_big_quiet_step ((go_at_call 25; exact quiet_ext (H4.out _ (by repeat (first | exact Ex.refl _ | apply Ex.ext | apply Ex.alloc)))))
  repeat (go_big_quiet_step ((go_at_call 56; exact quiet_ext (H5.out _))))
  refine wpQuiet_nil (fun w' ⟨z, hz⟩ => ?_)
  subst hz
  clear H1 H2 H3 H4 H5
  go_wp2
  go_loopw [30] (fun i wr => ∃ k : Nat, i = .int .i64 k ∧ k ≤ m ∧ Hid (∀ j, j < k → ws.getD j 0 = us.getD j 0) ∧ Ex ((w.alloc (.cells #[.int .i64 n, .slice A m c] 24)).alloc (.cells #[.int .i64 n, .slice B m d] 24)) wr)
    (fun i _ => m - (intOf i).toNat)
  case atStart => exact ⟨0, rfl, by omega, fun j _ => by omega, ⟨_, rfl⟩⟩
  case round =>
    obtain ⟨k, rfl, hk, hk3, z2, rfl⟩ := hrel
    by_cases hlt : k < m
    · obtain ⟨ad, rfl, ha1, ha2⟩ := HA.out k hlt
      obtain ⟨bd, rfl, hb1, hb2⟩ := HB.out k hlt
      have hki : (k : Int) < (m : Int) := by omega
      have ha3 : (ad.add k).block < w.heap.size + 1 + 1 := by omega
      have hb3 : (bd.add k).block < w.heap.size + 1 + 1 := by omega
      have hxor := u64_xor_nat _ _ (HW.out k) (HU.out k)
      by_cases hxy : ws.getD k 0 = us.getD k 0
      · have HE := Lib.hid hxy
        rw [← hxy] at hb2 hxor
        rw [Nat.xor_self] at hxor
        have hn0 : (((0 : Nat) : Int) != 0) = false := rfl
        clear hxy
        generalize ws.getD k 0 = x at ha2 hb2 hxor
        go_wp2
        go_roundw
        case rel =>
          refine ⟨k + 1, by go_num, by omega, ?_, ⟨_, rfl⟩⟩
          intro j h1
          by_cases hj : j = k
          · rw [hj]; exact HE.out
          · exact hk3 j (by omega)
        case measure => simp [intOf]; omega
      · have hx0 : ws.getD k 0 ^^^ us.getD k 0 ≠ 0 := fun h => hxy (xor_zero_eq h)
        have HFk := Lib.hid (HF.out k hlt hk3 hx0)
        have hlow := low_and _ _ hx0 (HW.out k) (Nat.xor_lt_two_pow (n := 64) (HW.out k) (HU.out k))
        clear hxy
        generalize hdd : ws.getD k 0 ^^^ us.getD k 0 = dd at *
        clear hdd
        have hn0 : ((dd : Int) != 0) = true := by simp; omega
        generalize ws.getD k 0 = x at ha2 hxor hlow HFk
        generalize us.getD k 0 = x2 at hb2 hxor
        cases hbb : x.testBit (Go.Lib.ctz 64 dd)
        · rw [hbb] at hlow HFk
          clear hbb hx0
          go_wp2
          go_ret2
          exact Ret.mk (by rw [HFk.out]; rfl) ((((Ex.refl _).alloc _).alloc _).ext _)
        · rw [hbb] at hlow HFk
          clear hbb hx0
          go_wp2
          go_ret2
          exact Ret.mk (by rw [HFk.out]; rfl) ((((Ex.refl _).alloc _).alloc _).ext _)
    · exact (HN.out fun j hj => hk3 j (by omega)).elim
theorem bCompare_ok (n : Nat) (A B : Option Addr) (c d : Nat) (ws us : List Nat) (w : World) (hC : Cells w A (u64s ws)) (hD : Cells w B (u64s us)) (hw : Wd ws) (hu : Wd us) (hv : Valid n ws) (hvu : Valid n us) :
    Calls Tryd.prog 24 #[.agg #[.int .i64 n, .slice A ws.length c], .agg #[.int .i64 n, .slice B us.length d]] w (Ret w (cmpR (cmpS n ws us) 0)) := by
  by_cases h : ws = us
  · subst h
    have e : cmpS n ws ws = 0 := by
      unfold cmpS
      rw [if_neg (Nat.lt_irrefl _), if_neg (Nat.lt_irrefl _)]
      exact fd_same fun _ _ => rfl
    rw [e]
    exact bCompare_same n A B c d ws w hC hD hw hv
  · have e1 := cntB_ok hv
    have e2 := cntB_ok hvu
    unfold cmpS
    by_cases h1 : (mems n ws).length < (mems n us).length
    · rw [if_pos h1]
      exact bCompare_cnt n A B c d ws us w hC hD hw hu hv hvu h (-1) (by rw [e1, e2]; unfold cmpI; rw [if_pos (by omega)]) rfl
    · rw [if_neg h1]
      by_cases h2 : (mems n us).length < (mems n ws).length
      · rw [if_pos h2]
        exact bCompare_cnt n A B c d ws us w hC hD hw hu hv hvu h 1 (by rw [e1, e2]; unfold cmpI; rw [if_neg (by omega), if_pos (by omega)]) rfl
      · rw [if_neg h2]
        exact bCompare_loop n A B c d ws us w hC hD hw hu hv hvu h (by rw [e1, e2]; unfold cmpI; rw [if_neg (by omega), if_neg (by omega)])
end Go.Proofs.YtfinldppcdkeoaaDoor
