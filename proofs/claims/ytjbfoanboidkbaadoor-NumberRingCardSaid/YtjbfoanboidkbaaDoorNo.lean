/-
  The walk of the law Ring.
  Conditions: the world's tables are as laid (Env).
-/
import Derived.Test.YtjbfoanboidkbaaDoorNj
namespace Go.Proofs.YtjbfoanboidkbaaDoor
open Go.RowKit Nu Bn
/-- a closure's answer, and the flag that it keeps -/
def Flag (w : World) (g : Nat) (v : Int) (b : Bool) (e : Ending) (w' : World) : Prop := e = .returned (.int .i64 v) ∧ Blk w' g 4 [.bool b] ∧ ∀ W0, Ex W0 w → W0.heap.size ≤ g → Ex W0 w'
theorem addf_c (x y : Int) (g : Nat) (b : Bool) (w : World) (hB : Blk w g 4 [.bool b]) : Calls Tryd.prog 28 #[.int .i64 x, .int .i64 y, .pointer (some ⟨g, 0, none⟩)] w (Flag w g (addV x y) (b && addE x y == 0)) := by
  have H1 := Lib.hid (add_c x y w)
  have HB := Lib.hid (fun w' (hx : Ex w w') => hB.ex hx)
  have lg := hB.lt
  unfold Two at *
  clear hB
  generalize addV x y = V at *
  cases b <;> cases hE : (addE x y == 0)
  all_goals
    generalize addE x y = E at *
    go_enter Tryd.func28, Tryd.ntmps28
    go_wp2_with fail
    refine H1.out.mono ?_
    rintro e w' ⟨rfl, hx⟩
    have hB := HB.out _ hx
    have c0 := hB.cell 0
    have c1 : w'.frozen? ⟨g, 0, none⟩ = false := hB.frozen 0
    have lg' := hB.lt
    have HX := Lib.hid hx
    have HB2 := Lib.hid hB
    simp only [List.getElem?_cons_zero] at c0
    clear hx hB
    go_wp2_with fail
    go_ret
    refine ⟨rfl, ?_, fun W0 h0 hg => ?_⟩
    · simpa using HB2.out.set_ 0 _
    · exact (h0.trans HX.out).setCell hg _
theorem mulf_c (x y : Int) (g : Nat) (b : Bool) (w : World) (hB : Blk w g 4 [.bool b]) : Calls Tryd.prog 29 #[.int .i64 x, .int .i64 y, .pointer (some ⟨g, 0, none⟩)] w (Flag w g (mulV x y) (b && mulE x y == 0)) := by
  have H1 := Lib.hid (mul_c x y w)
  have HB := Lib.hid (fun w' (hx : Ex w w') => hB.ex hx)
  have lg := hB.lt
  unfold Two at *
  clear hB
  generalize mulV x y = V at *
  cases b <;> cases hE : (mulE x y == 0)
  all_goals
    generalize mulE x y = E at *
    go_enter Tryd.func29, Tryd.ntmps29
    go_wp2_with fail
    refine H1.out.mono ?_
    rintro e w' ⟨rfl, hx⟩
    have hB := HB.out _ hx
    have c0 := hB.cell 0
    have c1 : w'.frozen? ⟨g, 0, none⟩ = false := hB.frozen 0
    have lg' := hB.lt
    have HX := Lib.hid hx
    have HB2 := Lib.hid hB
    simp only [List.getElem?_cons_zero] at c0
    clear hx hB
    go_wp2_with fail
    go_ret
    refine ⟨rfl, ?_, fun W0 h0 hg => ?_⟩
    · simpa using HB2.out.set_ 0 _
    · exact (h0.trans HX.out).setCell hg _
theorem add_zero {x y : Int} (h : addE x y = 0) : isB x = true ∧ isB y = true ∧ isB (x + y) = true ∧ addV x y = x + y := by
  unfold addE at h
  unfold addV
  cases h1 : isB x <;> cases h2 : isB y <;> simp [h1, h2] at h ⊢
  unfold limE at h
  unfold limV
  cases h3 : isB (x + y) <;> simp [h3] at h ⊢
theorem mul_zero {x y : Int} (h : mulE x y = 0) : isB x = true ∧ isB y = true ∧ isB (x * y) = true ∧ mulV x y = x * y := by
  unfold mulE at h
  unfold mulV
  cases h1 : isB x <;> cases h2 : isB y <;> simp [h1, h2] at h ⊢
  unfold limE at h
  unfold limV
  cases h3 : isB (x * y) <;> simp [h3] at h ⊢
theorem sum_three {a b c : Int} (h1 : isB a = true) (h2 : isB b = true) (h3 : isB c = true) (h4 : isB (a + b + c) = true) : sumV [a, b, c] = a + b + c ∧ sumE [a, b, c] = 0 := by
  have e : ([a, b, c].any fun x => !isB x) = false := by simp [h1, h2, h3]
  have e2 : [a, b, c].sum = a + b + c := by simp [Int.add_assoc]
  have e3 : ¬ 1000 < [a, b, c].length := by simp
  unfold sumV sumE limV limE
  rw [if_neg e3, if_neg e3, e, e2, h4]
  exact ⟨rfl, rfl⟩
set_option maxRecDepth 100000 in
set_option maxHeartbeats 8000000 in
theorem ring_c (a b c : Int) (w : World) (hE : Env w) : Calls Tryd.prog 9 #[.int .i64 a, .int .i64 b, .int .i64 c] w (Ret w (.bool true)) := by
  have HA := Lib.hid (fun w' (hx : Ex w w') => awake_c w' (hE.ex hx))
  have HS := Lib.hid (fun A d w' hC => sum_c [a, b, c] A d w' hC)
  clear hE
  have C0 := Lib.hid (fun g t w' hB => addf_c (a) (b) g t w' hB)
  have C1 := Lib.hid (fun g t w' hB => addf_c (b) (a) g t w' hB)
  have C2 := Lib.hid (fun g t w' hB => addf_c (addV (a) (b)) (c) g t w' hB)
  have C3 := Lib.hid (fun g t w' hB => addf_c (b) (c) g t w' hB)
  have C4 := Lib.hid (fun g t w' hB => addf_c (a) (addV (b) (c)) g t w' hB)
  have C5 := Lib.hid (fun g t w' hB => mulf_c (a) (b) g t w' hB)
  have C6 := Lib.hid (fun g t w' hB => mulf_c (b) (a) g t w' hB)
  have C7 := Lib.hid (fun g t w' hB => mulf_c (mulV (a) (b)) (c) g t w' hB)
  have C8 := Lib.hid (fun g t w' hB => mulf_c (b) (c) g t w' hB)
  have C9 := Lib.hid (fun g t w' hB => mulf_c (a) (mulV (b) (c)) g t w' hB)
  have C10 := Lib.hid (fun g t w' hB => mulf_c (a) (addV (b) (c)) g t w' hB)
  have C11 := Lib.hid (fun g t w' hB => mulf_c (a) (c) g t w' hB)
  have C12 := Lib.hid (fun g t w' hB => addf_c (mulV (a) (b)) (mulV (a) (c)) g t w' hB)
  have HM : Hid ((((((((((((((((((true && (addE (a) (b) == 0)) && (addE (b) (a) == 0)) && (addE (a) (b) == 0)) && (addE (addV (a) (b)) (c) == 0)) && (addE (b) (c) == 0)) && (addE (a) (addV (b) (c)) == 0)) && (mulE (a) (b) == 0)) && (mulE (b) (a) == 0)) && (mulE (a) (b) == 0)) && (mulE (mulV (a) (b)) (c) == 0)) && (mulE (b) (c) == 0)) && (mulE (a) (mulV (b) (c)) == 0)) && (addE (b) (c) == 0)) && (mulE (a) (addV (b) (c)) == 0)) && (mulE (a) (b) == 0)) && (mulE (a) (c) == 0)) && (addE (mulV (a) (b)) (mulV (a) (c)) == 0)) = true → addV (b) (a) = addV (a) (b) ∧ addV (a) (addV (b) (c)) = addV (addV (a) (b)) (c) ∧ mulV (b) (a) = mulV (a) (b) ∧ mulV (a) (mulV (b) (c)) = mulV (mulV (a) (b)) (c) ∧ addV (mulV (a) (b)) (mulV (a) (c)) = mulV (a) (addV (b) (c)) ∧ sumV [a, b, c] = addV (addV (a) (b)) (c) ∧ sumE [a, b, c] = 0) := fun h => by
    simp only [Bool.and_eq_true, beq_iff_eq, Bool.true_and] at h
    obtain ⟨⟨⟨⟨⟨⟨⟨⟨⟨⟨⟨⟨⟨⟨⟨⟨h0, h1⟩, h2⟩, h3⟩, h4⟩, h5⟩, h6⟩, h7⟩, h8⟩, h9⟩, h10⟩, h11⟩, h12⟩, h13⟩, h14⟩, h15⟩, h16⟩ := h
    obtain ⟨xe1, ye1, ze1, re1⟩ := add_zero h0
    obtain ⟨xe2, ye2, ze2, re2⟩ := add_zero h1
    obtain ⟨xe3, ye3, ze3, re3⟩ := add_zero h3
    obtain ⟨xe4, ye4, ze4, re4⟩ := add_zero h4
    obtain ⟨xe5, ye5, ze5, re5⟩ := add_zero h5
    obtain ⟨xe6, ye6, ze6, re6⟩ := mul_zero h6
    obtain ⟨xe7, ye7, ze7, re7⟩ := mul_zero h7
    obtain ⟨xe8, ye8, ze8, re8⟩ := mul_zero h9
    obtain ⟨xe9, ye9, ze9, re9⟩ := mul_zero h10
    obtain ⟨xe10, ye10, ze10, re10⟩ := mul_zero h11
    obtain ⟨xe11, ye11, ze11, re11⟩ := mul_zero h13
    obtain ⟨xe12, ye12, ze12, re12⟩ := mul_zero h15
    obtain ⟨xe13, ye13, ze13, re13⟩ := add_zero h16
    have q1 : isB (a + b + c) = true := by
      rw [re1] at ze3
      exact ze3
    obtain ⟨s1, s2⟩ := sum_three xe1 ye1 ye3 q1
    refine ⟨?_, ?_, ?_, ?_, ?_, ?_, s2⟩
    · rw [re2, re1, Int.add_comm]
    · rw [re5, re4, re3, re1, Int.add_assoc]
    · rw [re7, re6, Int.mul_comm]
    · rw [re10, re9, re8, re6, Int.mul_assoc]
    · rw [re13, re12, re6, re11, re4, Int.mul_add]
    · rw [s1, re3, re1]
  generalize sumV [a, b, c] = T at *
  generalize sumE [a, b, c] = G at *
  generalize addV (a) (b) = v1 at *
  generalize addV (b) (a) = v2 at *
  generalize addV (v1) (c) = v3 at *
  generalize addV (b) (c) = u at *
  generalize addV (a) (u) = v4 at *
  generalize mulV (a) (b) = v5 at *
  generalize mulV (b) (a) = v6 at *
  generalize mulV (v5) (c) = v7 at *
  generalize mulV (b) (c) = u2 at *
  generalize mulV (a) (u2) = v8 at *
  generalize mulV (a) (u) = v9 at *
  generalize mulV (a) (c) = u3 at *
  generalize addV (v5) (u3) = v10 at *
  generalize (addE (a) (b) == 0) = e1 at *
  generalize (addE (b) (a) == 0) = e2 at *
  generalize (addE (v1) (c) == 0) = e3 at *
  generalize (addE (b) (c) == 0) = e4 at *
  generalize (addE (a) (u) == 0) = e5 at *
  generalize (mulE (a) (b) == 0) = e6 at *
  generalize (mulE (b) (a) == 0) = e7 at *
  generalize (mulE (v5) (c) == 0) = e8 at *
  generalize (mulE (b) (c) == 0) = e9 at *
  generalize (mulE (a) (u2) == 0) = e10 at *
  generalize (mulE (a) (u) == 0) = e11 at *
  generalize (mulE (a) (c) == 0) = e12 at *
  generalize (addE (v5) (u3) == 0) = e13 at *
  unfold Two at *
  go_enter Tryd.func9, Tryd.ntmps9
  go_wp2_with fail
  refine (HA.out _ (Ex.refl _)).mono ?_
  rintro e w' ⟨rfl, z0, rfl⟩
  have hX : Ex w (ext w z0) := ⟨z0, rfl⟩
  have gX := hX.below.size
  generalize ext w z0 = X at *
  have HX := Lib.hid (hX.alloc (.cells #[.bool true] 4))
  have HB := Lib.hid (Blk.new X 4 [.bool true])
  clear hX
  go_wp2_with fail
  refine (C0.out X.heap.size true _ HB.out).mono ?_
  clear HB
  rintro e w0 ⟨rfl, hB, hf⟩
  have HB := Lib.hid hB
  have HX0 := Lib.hid (hf w HX.out gX)
  clear hB hf HX
  go_wp2_with fail
  refine (C1.out X.heap.size (true && e1) _ HB.out).mono ?_
  clear HB
  rintro e w1 ⟨rfl, hB, hf⟩
  have HB := Lib.hid hB
  have HX1 := Lib.hid (hf w HX0.out gX)
  clear hB hf HX0
  go_wp2_with fail
  refine (C0.out X.heap.size ((true && e1) && e2) _ HB.out).mono ?_
  clear HB
  rintro e w2 ⟨rfl, hB, hf⟩
  have HB := Lib.hid hB
  have HX2 := Lib.hid (hf w HX1.out gX)
  clear hB hf HX1
  go_wp2_with fail
  refine (C2.out X.heap.size (((true && e1) && e2) && e1) _ HB.out).mono ?_
  clear HB
  rintro e w3 ⟨rfl, hB, hf⟩
  have HB := Lib.hid hB
  have HX3 := Lib.hid (hf w HX2.out gX)
  clear hB hf HX2
  go_wp2_with fail
  refine (C3.out X.heap.size ((((true && e1) && e2) && e1) && e3) _ HB.out).mono ?_
  clear HB
  rintro e w4 ⟨rfl, hB, hf⟩
  have HB := Lib.hid hB
  have HX4 := Lib.hid (hf w HX3.out gX)
  clear hB hf HX3
  go_wp2_with fail
  refine (C4.out X.heap.size (((((true && e1) && e2) && e1) && e3) && e4) _ HB.out).mono ?_
  clear HB
  rintro e w5 ⟨rfl, hB, hf⟩
  have HB := Lib.hid hB
  have HX5 := Lib.hid (hf w HX4.out gX)
  clear hB hf HX4
  go_wp2_with fail
  refine (C5.out X.heap.size ((((((true && e1) && e2) && e1) && e3) && e4) && e5) _ HB.out).mono ?_
  clear HB
  rintro e w6 ⟨rfl, hB, hf⟩
  have HB := Lib.hid hB
  have HX6 := Lib.hid (hf w HX5.out gX)
  clear hB hf HX5
  go_wp2_with fail
  refine (C6.out X.heap.size (((((((true && e1) && e2) && e1) && e3) && e4) && e5) && e6) _ HB.out).mono ?_
  clear HB
  rintro e w7 ⟨rfl, hB, hf⟩
  have HB := Lib.hid hB
  have HX7 := Lib.hid (hf w HX6.out gX)
  clear hB hf HX6
  go_wp2_with fail
  refine (C5.out X.heap.size ((((((((true && e1) && e2) && e1) && e3) && e4) && e5) && e6) && e7) _ HB.out).mono ?_
  clear HB
  rintro e w8 ⟨rfl, hB, hf⟩
  have HB := Lib.hid hB
  have HX8 := Lib.hid (hf w HX7.out gX)
  clear hB hf HX7
  go_wp2_with fail
  refine (C7.out X.heap.size (((((((((true && e1) && e2) && e1) && e3) && e4) && e5) && e6) && e7) && e6) _ HB.out).mono ?_
  clear HB
  rintro e w9 ⟨rfl, hB, hf⟩
  have HB := Lib.hid hB
  have HX9 := Lib.hid (hf w HX8.out gX)
  clear hB hf HX8
  go_wp2_with fail
  refine (C8.out X.heap.size ((((((((((true && e1) && e2) && e1) && e3) && e4) && e5) && e6) && e7) && e6) && e8) _ HB.out).mono ?_
  clear HB
  rintro e w10 ⟨rfl, hB, hf⟩
  have HB := Lib.hid hB
  have HX10 := Lib.hid (hf w HX9.out gX)
  clear hB hf HX9
  go_wp2_with fail
  refine (C9.out X.heap.size (((((((((((true && e1) && e2) && e1) && e3) && e4) && e5) && e6) && e7) && e6) && e8) && e9) _ HB.out).mono ?_
  clear HB
  rintro e w11 ⟨rfl, hB, hf⟩
  have HB := Lib.hid hB
  have HX11 := Lib.hid (hf w HX10.out gX)
  clear hB hf HX10
  go_wp2_with fail
  refine (C3.out X.heap.size ((((((((((((true && e1) && e2) && e1) && e3) && e4) && e5) && e6) && e7) && e6) && e8) && e9) && e10) _ HB.out).mono ?_
  clear HB
  rintro e w12 ⟨rfl, hB, hf⟩
  have HB := Lib.hid hB
  have HX12 := Lib.hid (hf w HX11.out gX)
  clear hB hf HX11
  go_wp2_with fail
  refine (C10.out X.heap.size (((((((((((((true && e1) && e2) && e1) && e3) && e4) && e5) && e6) && e7) && e6) && e8) && e9) && e10) && e4) _ HB.out).mono ?_
  clear HB
  rintro e w13 ⟨rfl, hB, hf⟩
  have HB := Lib.hid hB
  have HX13 := Lib.hid (hf w HX12.out gX)
  clear hB hf HX12
  go_wp2_with fail
  refine (C5.out X.heap.size ((((((((((((((true && e1) && e2) && e1) && e3) && e4) && e5) && e6) && e7) && e6) && e8) && e9) && e10) && e4) && e11) _ HB.out).mono ?_
  clear HB
  rintro e w14 ⟨rfl, hB, hf⟩
  have HB := Lib.hid hB
  have HX14 := Lib.hid (hf w HX13.out gX)
  clear hB hf HX13
  go_wp2_with fail
  refine (C11.out X.heap.size (((((((((((((((true && e1) && e2) && e1) && e3) && e4) && e5) && e6) && e7) && e6) && e8) && e9) && e10) && e4) && e11) && e6) _ HB.out).mono ?_
  clear HB
  rintro e w15 ⟨rfl, hB, hf⟩
  have HB := Lib.hid hB
  have HX15 := Lib.hid (hf w HX14.out gX)
  clear hB hf HX14
  go_wp2_with fail
  refine (C12.out X.heap.size ((((((((((((((((true && e1) && e2) && e1) && e3) && e4) && e5) && e6) && e7) && e6) && e8) && e9) && e10) && e4) && e11) && e6) && e12) _ HB.out).mono ?_
  clear HB
  rintro e w16 ⟨rfl, hB, hf⟩
  have HB := Lib.hid hB
  have HX16 := Lib.hid (hf w HX15.out gX)
  clear hB hf HX15
  have hB := HB.out.alloc (.cells #[.int .i64 v1, .int .i64 v2, .int .i64 v3, .int .i64 v4, .int .i64 v5, .int .i64 v6, .int .i64 v7, .int .i64 v8, .int .i64 v9, .int .i64 v10] 3)
  have hb0 := hB.cell 0
  have hl0 := HB.out.lt
  simp only [List.getElem?_cons_zero] at hb0
  have HX2 := Lib.hid (HX16.out.alloc (.cells #[.int .i64 v1, .int .i64 v2, .int .i64 v3, .int .i64 v4, .int .i64 v5, .int .i64 v6, .int .i64 v7, .int .i64 v8, .int .i64 v9, .int .i64 v10] 3))
  have HL := Lib.hid (Blk.new w16 3 [.int .i64 v1, .int .i64 v2, .int .i64 v3, .int .i64 v4, .int .i64 v5, .int .i64 v6, .int .i64 v7, .int .i64 v8, .int .i64 v9, .int .i64 v10])
  clear HX16 HB hB
  cases hF : (((((((((((((((((true && e1) && e2) && e1) && e3) && e4) && e5) && e6) && e7) && e6) && e8) && e9) && e10) && e4) && e11) && e6) && e12) && e13)
  · rw [hF] at hb0
    clear hF HM
    go_wp2_with fail
    go_ret
    exact Ret.mk rfl HX2.out
  · obtain ⟨rfl, rfl, rfl, rfl, rfl, rfl, rfl⟩ := HM.out hF
    rw [hF] at hb0
    clear hF HM
    go_wp2_with fail
    refine (HS.out (some ⟨w16.heap.size + 1, 0, none⟩) 3 _ (Blk.new' _ (by simp) 3 [.int .i64 a, .int .i64 b, .int .i64 c]).cells).mono ?_
    rintro e W1 ⟨rfl, hx⟩
    have hL := (HL.out.alloc (.cells #[.int .i64 a, .int .i64 b, .int .i64 c] 3)).ex hx
    have HX3 := Lib.hid ((HX2.out.alloc (.cells #[.int .i64 a, .int .i64 b, .int .i64 c] 3)).trans hx)
    have lL := hL.lt
    have l0 := hL.cell 0
    have l1 := hL.cell 1
    have l2 := hL.cell 2
    have l3 := hL.cell 3
    have l4 := hL.cell 4
    have l5 := hL.cell 5
    have l6 := hL.cell 6
    have l7 := hL.cell 7
    have l8 := hL.cell 8
    have l9 := hL.cell 9
    simp only [List.getElem?_cons_zero, List.getElem?_cons_succ] at l0 l1 l2 l3 l4 l5 l6 l7 l8 l9
    clear hx hL HX2 HL HS hb0
    generalize w16.heap.size = g at *
    go_wp2_with fail
    refine wp_region_ext (by kernel_rfl) (by kernel_rfl) ?_
    repeat (go_big_quiet_step (fail))
    refine wpQuiet_end (fun z => ?_)
    go_wp2
    go_ret
    exact Ret.mk (by simp) (HX3.out.ext _)
end Go.Proofs.YtjbfoanboidkbaaDoor
