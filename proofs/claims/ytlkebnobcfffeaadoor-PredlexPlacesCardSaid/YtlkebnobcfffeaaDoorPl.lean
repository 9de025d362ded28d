/-
  The laws Kinds and Places, walked.
  Conditions: the world's tables are as laid (Env).
-/
import Derived.Test.YtlkebnobcfffeaaDoorPk
namespace Go.Proofs.YtlkebnobcfffeaaDoor
open Go.RowKit
set_option maxRecDepth 20000 in
set_option maxHeartbeats 1600000 in
theorem kinds_c (s : ByteArray) (w : World) (hE : Env w) : Calls Tryd.prog 7 #[.string s] w (Ret w (.bool true)) := by
  have HA := Lib.hid (fun w' (hx : Ex w w') => awake_c w' (hE.ex hx))
  clear hE
  by_cases h : 200 < s.size
  · have f1 : decide (200 < (s.size : Int)) = true := decide_eq_true (by omega)
    clear h
    go_enter Tryd.func7, Tryd.ntmps7
    go_wp2_with fail
    refine (HA.out _ (Ex.refl _)).mono ?_
    rintro e w' ⟨rfl, z, rfl⟩
    go_wp2_with fail
    refine (HA.out _ ((Ex.refl _).ext z)).mono ?_
    rintro e w' ⟨rfl, z2, rfl⟩
    go_wp2_with fail
    go_ret
    exact Ret.mk rfl (((Ex.refl _).ext _).ext _)
  · have f1 : decide (200 < (s.size : Int)) = false := decide_eq_false (by omega)
    have H16 := Lib.hid (sign_c s)
    have H17 := Lib.hid (rSign_c s)
    have H18 := Lib.hid (fun w => isName_c s w (by omega))
    have H19 := Lib.hid (fun w => rIsName_c s w (by omega))
    have H20 := Lib.hid (isKey_c s)
    have H21 := Lib.hid (rIsKey_c s)
    have hS : ∀ t, signF s = some t → 0 < t.size := fun t ht => (sign_small t (List.mem_of_find?_eq_some ht)).2
    unfold SignR at H16
    generalize nmB s.data.toList = q1 at *
    generalize keyB s = q2 at *
    obtain ⟨t, b, ht, hb, hq⟩ : ∃ t b, (signF s).getD ⟨#[]⟩ = t ∧ (signF s).isSome = b ∧ b = !t.toList.isEmpty := by
      refine ⟨_, _, rfl, rfl, ?_⟩
      cases hs : signF s with
      | none =>
        rw [Option.getD_none, nonempty_iff]
        rfl
      | some t =>
        rw [Option.getD_some, nonempty_iff, decide_eq_false (by have := hS t hs; omega)]
        rfl
    rw [ht, hb] at H16
    rw [ht] at H17
    have hq2 : t.toList.isEmpty = !b := by rw [hq]; simp
    clear h hS hb ht hq
    cases q1 <;> cases q2 <;> cases b
    all_goals
      go_enter Tryd.func7, Tryd.ntmps7
      go_wp2_with fail
      refine (HA.out _ (Ex.refl _)).mono ?_
      rintro e w' ⟨rfl, z, rfl⟩
      go_wp2_with fail
      refine (H16.out _).mono ?_
      rintro e w' ⟨rfl, z2, rfl⟩
      go_wp2_with fail
      refine (H17.out _).mono ?_
      rintro e w' ⟨rfl, z3, rfl⟩
      go_wp2_with fail
      refine (H18.out _).mono ?_
      rintro e w' ⟨rfl, z4, rfl⟩
      go_wp2_with fail
      refine (H19.out _).mono ?_
      rintro e w' ⟨rfl, z5, rfl⟩
      go_wp2_with fail
      refine (H20.out _).mono ?_
      rintro e w' ⟨rfl, z6, rfl⟩
      go_wp2_with fail
      refine (H21.out _).mono ?_
      rintro e w' ⟨rfl, z7, rfl⟩
      go_wp2_with fail
      go_ret
      exact Ret.mk rfl ((((((((Ex.refl _).ext _).ext _).ext _).ext _).ext _).ext _).ext _)
set_option maxRecDepth 20000 in
set_option maxHeartbeats 1600000 in
theorem places_c (s : ByteArray) (x : Int) (w : World) (hE : Env w) : Calls Tryd.prog 4 #[.string s, .int .i64 x] w (Ret w (.bool true)) := by
  have HA := Lib.hid (fun w' (hx : Ex w w') => awake_c w' (hE.ex hx))
  clear hE
  by_cases h1 : 1000 < s.size ∧ s.size ≤ 16384
  · have f1 : decide (1000 < (s.size : Int)) = true := decide_eq_true (by omega)
    have f2 : decide ((s.size : Int) ≤ 16384) = true := decide_eq_true (by omega)
    clear h1
    go_enter Tryd.func4, Tryd.ntmps4
    go_wp2_with fail
    refine (HA.out _ (Ex.refl _)).mono ?_
    rintro e w' ⟨rfl, z, rfl⟩
    go_wp2_with fail
    refine (HA.out _ ((Ex.refl _).ext z)).mono ?_
    rintro e w' ⟨rfl, z2, rfl⟩
    go_wp2_with fail
    go_ret
    exact Ret.mk rfl (((Ex.refl _).ext _).ext _)
  by_cases h2 : 17000 < s.size
  · have f1 : decide (1000 < (s.size : Int)) = true := decide_eq_true (by omega)
    have f2 : decide ((s.size : Int) ≤ 16384) = false := decide_eq_false (by omega)
    have f3 : decide (17000 < (s.size : Int)) = true := decide_eq_true (by omega)
    clear h1 h2
    go_enter Tryd.func4, Tryd.ntmps4
    go_wp2_with fail
    refine (HA.out _ (Ex.refl _)).mono ?_
    rintro e w' ⟨rfl, z, rfl⟩
    go_wp2_with fail
    refine (HA.out _ ((Ex.refl _).ext z)).mono ?_
    rintro e w' ⟨rfl, z2, rfl⟩
    go_wp2_with fail
    go_ret
    exact Ret.mk rfl (((Ex.refl _).ext _).ext _)
  have f3 : decide (17000 < (s.size : Int)) = false := decide_eq_false (by omega)
  by_cases h3 : 16384 < s.size
  · have f1 : decide (1000 < (s.size : Int)) = true := decide_eq_true (by omega)
    have f2 : decide ((s.size : Int) ≤ 16384) = false := decide_eq_false (by omega)
    have f4 : decide (16384 < (s.size : Int)) = true := decide_eq_true (by omega)
    have H13 := Lib.hid (fun w => place_long s x w h3)
    unfold PosE at H13
    dsimp only at H13
    clear h1 h2 h3
    go_enter Tryd.func4, Tryd.ntmps4
    go_wp2_with fail
    refine (HA.out _ (Ex.refl _)).mono ?_
    rintro e w' ⟨rfl, z, rfl⟩
    go_wp2_with fail
    refine (H13.out _).mono ?_
    rintro e w' ⟨rfl, z2, rfl⟩
    go_wp2_with fail
    go_ret
    exact Ret.mk rfl ((((Ex.refl _).ext _).ext _).alloc _)
  have f1 : decide (1000 < (s.size : Int)) = false := decide_eq_false (by omega)
  have f4 : decide (16384 < (s.size : Int)) = false := decide_eq_false (by omega)
  by_cases h4 : x < 0 ∨ (s.size : Int) < x
  · have H13 := Lib.hid (fun w => place_range s x w (by omega) h4)
    unfold PosE at H13
    dsimp only at H13
    have f5 : (decide (x < 0) = true) ∨ (decide (x < 0) = false ∧ decide ((s.size : Int) < x) = true) := by
      by_cases h : x < 0
      · exact .inl (decide_eq_true h)
      · exact .inr ⟨decide_eq_false h, decide_eq_true (by omega)⟩
    clear h1 h2 h3 h4
    rcases f5 with f5 | ⟨f5, f6⟩
    all_goals
      go_enter Tryd.func4, Tryd.ntmps4
      go_wp2_with fail
      refine (HA.out _ (Ex.refl _)).mono ?_
      rintro e w' ⟨rfl, z, rfl⟩
      go_wp2_with fail
      refine (H13.out _).mono ?_
      rintro e w' ⟨rfl, z2, rfl⟩
      go_wp2_with fail
      go_ret
      exact Ret.mk rfl ((((Ex.refl _).ext _).ext _).alloc _)
  · obtain ⟨n, rfl⟩ : ∃ n : Nat, x = n := ⟨x.toNat, by omega⟩
    have hn : n ≤ s.size := by omega
    have H13 := Lib.hid (fun w => place_c s n w (by omega) hn)
    have H14 := Lib.hid (fun w => rPlace_c s n w (by omega) hn)
    unfold PosE at H13
    unfold posV at H14
    have f5 : decide ((n : Int) < 0) = false := decide_eq_false (by omega)
    have f6 : decide ((s.size : Int) < (n : Int)) = false := decide_eq_false (by omega)
    generalize posF (s.data.toList.take n) = P at *
    obtain ⟨p, q⟩ := P
    dsimp only at H13 H14
    clear h1 h2 h3 h4
    go_enter Tryd.func4, Tryd.ntmps4
    go_wp2_with fail
    refine (HA.out _ (Ex.refl _)).mono ?_
    rintro e w' ⟨rfl, z, rfl⟩
    go_wp2_with fail
    refine (H13.out _).mono ?_
    rintro e w' ⟨rfl, z2, rfl⟩
    go_wp2_with fail
    have HN : Hid (Blk ((ext (ext w z) z2).alloc (.cells #[.int .i64 p, .int .i64 q] 25)) (ext (ext w z) z2).heap.size 25 [.int .i64 p, .int .i64 q]) := Blk.new _ 25 _
    go_region_with (go_at_call 14; refine (H14.out _).mono ?_; rintro e w' ⟨rfl, z3, rfl⟩; have hb9 : Blk (ext _ z3) (ext (ext w z) z2).heap.size 25 [.int .i64 p, .int .i64 q] := (by first | exact (HN.out.drew).ex ⟨z3, rfl⟩ | exact HN.out.ex ⟨z3, rfl⟩); have k0 : (ext _ z3).cell? ⟨(ext (ext w z) z2).heap.size, 0, none⟩ = some (.int .i64 p) := hb9.cell 0; have k1 : (ext _ z3).cell? ⟨(ext (ext w z) z2).heap.size, 1, none⟩ = some (.int .i64 q) := hb9.cell 1; clear hb9)
    all_goals
      go_wp2_with fail
      go_ret
      exact Ret.mk (by first | rfl | (simp; done) | (simp [Array.getD]; done) | (simp; decide)) (by repeat (first | exact Ex.refl _ | apply Ex.ext | apply Ex.alloc | apply Ex.drew))
end Go.Proofs.YtlkebnobcfffeaaDoor
