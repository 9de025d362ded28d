/-
  Numbers: divisors, sums and products of two numbers.
  Conditions: as each theorem says.
-/
import Derived.Test.YtjbfoanboidkbaaDoorNa
namespace Go.Proofs.YtjbfoanboidkbaaDoor
open Go.RowKit
theorem gcd_step (x y : Int) : Int.gcd y (x.tmod y) = Int.gcd x y := by
  show Nat.gcd y.natAbs (x.tmod y).natAbs = Nat.gcd x.natAbs y.natAbs
  rw [Int.natAbs_tmod, Nat.gcd_comm x.natAbs, Nat.gcd_rec y.natAbs x.natAbs, Nat.gcd_comm]
theorem tmod_bd (x y : Int) (hy : y ≠ 0) : (x.tmod y).natAbs < y.natAbs := by
  rw [Int.natAbs_tmod]
  exact Nat.mod_lt _ (by omega)
theorem gcd_bad (a b : Int) (w : World) (h : (isB a && isB b) = false) : Calls Tryd.prog 12 #[.int .i64 a, .int .i64 b] w (Ret w (Two 0 2)) := by
  have H1 := Lib.hid (is_c a)
  have H2 := Lib.hid (is_c b)
  unfold Two
  cases ha : isB a
  · rw [ha] at H1
    clear ha h
    go_enter Tryd.func12, Tryd.ntmps12
    go_wp2_with (refine (H1.out _).mono ?_; rintro e w' ⟨rfl, z, rfl⟩)
    go_ret2
    exact Ret.mk rfl ((Ex.refl _).ext _)
  · have hb : isB b = false := by rw [ha] at h; simpa using h
    rw [ha] at H1
    rw [hb] at H2
    clear ha hb h
    go_enter Tryd.func12, Tryd.ntmps12
    go_wp2_with fail
    refine (H1.out _).mono ?_; rintro e w' ⟨rfl, z, rfl⟩
    go_wp2_with fail
    refine (H2.out _).mono ?_; rintro e w' ⟨rfl, z2, rfl⟩
    go_wp2_with fail
    go_ret2
    exact Ret.mk rfl (((Ex.refl _).ext _).ext _)
theorem gcd_ok (a b : Int) (w : World) (h1 : isB a = true) (h2 : isB b = true) : Calls Tryd.prog 12 #[.int .i64 a, .int .i64 b] w (Ret w (Two (Int.gcd a b : Nat) 0)) := by
  have H1 := Lib.hid (is_c a)
  have H2 := Lib.hid (is_c b)
  have H3 := Lib.hid abs_c
  rw [h1] at H1
  rw [h2] at H2
  unfold Two
  have b1 := (isB_iff a).1 h1
  have b2 := (isB_iff b).1 h2
  clear h1 h2
  obtain ⟨G, hG⟩ : ∃ G, G = Int.gcd a b := ⟨_, rfl⟩
  have HG := Lib.hid hG
  rw [← hG]
  clear hG
  go_enter Tryd.func12, Tryd.ntmps12
  go_wp2_with fail
  refine (H1.out _).mono ?_; rintro e w' ⟨rfl, z, rfl⟩
  go_wp2_with fail
  refine (H2.out _).mono ?_; rintro e w' ⟨rfl, z2, rfl⟩
  go_wp2_with fail
  go_loopw [0, 1] (fun p q wr => ∃ x y : Int, p = .int .i64 x ∧ q = .int .i64 y ∧ (-1125899906842624 ≤ x ∧ x ≤ 1125899906842624) ∧ (-1125899906842624 ≤ y ∧ y ≤ 1125899906842624) ∧ G = Int.gcd x y ∧ Ex w wr) (fun _ q _ => (intOf q).natAbs)
  case atStart => exact ⟨a, b, rfl, rfl, b1, b2, HG.out, ((Ex.refl _).ext _).ext _⟩
  case round =>
    obtain ⟨x, y, rfl, rfl, bx, b_y, hg, hx⟩ := hrel
    have HG' := Lib.hid hg
    clear hg HG
    by_cases hy : y = 0
    · subst hy
      go_wp2_with fail
      refine (H3.out x _ ((isB_iff x).2 bx)).mono ?_
      rintro e w' ⟨rfl, z, rfl⟩
      go_wp2_with fail
      go_ret2
      exact Ret.mk (by rw [HG'.out]; simp) (hx.ext _)
    · have hz : (y == 0) = false := by simpa using hy
      have hz2 : (y != 0) = true := by simpa using hy
      have hm := tmod_bd x y hy
      have HG2 : Hid (G = Int.gcd y (x.tmod y)) := HG'.out.trans (gcd_step x y).symm
      go_wp2_with fail
      go_region
      all_goals
        go_wp2_with fail
        go_roundw
        case rel => exact ⟨y, x.tmod y, rfl, rfl, b_y, by omega, HG2.out, hx.drew⟩
        case measure => exact hm
theorem rGcd_ok (a b : Int) (w : World) (h1 : isB a = true) (h2 : isB b = true) : Calls Tryd.prog 16 #[.int .i64 a, .int .i64 b] w (Ret w (.int .i64 (Int.gcd a b : Nat))) := by
  have H1 := Lib.hid (fun w => rAbs_c a w h1)
  have H2 := Lib.hid (fun w => rAbs_c b w h2)
  have b1 := (isB_iff a).1 h1
  have b2 := (isB_iff b).1 h2
  clear h1 h2
  have HG : Hid (Int.gcd a b = Nat.gcd a.natAbs b.natAbs) := rfl
  have a1 : a.natAbs ≤ 1125899906842624 := by omega
  have a2 : b.natAbs ≤ 1125899906842624 := by omega
  generalize Int.gcd a b = G at *
  clear b1 b2
  generalize a.natAbs = A at *
  generalize b.natAbs = B at *
  go_enter Tryd.func16, Tryd.ntmps16
  go_wp2_with fail
  refine (H1.out _).mono ?_; rintro e w' ⟨rfl, z, rfl⟩
  go_wp2_with fail
  refine (H2.out _).mono ?_; rintro e w' ⟨rfl, z2, rfl⟩
  go_wp2_with fail
  go_loopw [5, 6, 7] (fun p q _ wr => ∃ x y : Nat, p = .int .i64 x ∧ q = .int .i64 y ∧ x ≤ 1125899906842624 ∧ y ≤ 1125899906842624 ∧ G = Nat.gcd x y ∧ Ex w wr) (fun _ q _ _ => (intOf q).natAbs)
  case atStart => exact ⟨A, B, rfl, rfl, a1, a2, HG.out, ((Ex.refl _).ext _).ext _⟩
  case round =>
    obtain ⟨x, y, rfl, rfl, bx, b_y, hg, hx⟩ := hrel
    have HG' := Lib.hid hg
    clear hg HG
    by_cases hy : y = 0
    · subst hy
      go_wp2_with fail
      go_ret
      exact Ret.mk (by rw [HG'.out]; simp) hx
    · have hz : (((y : Nat) : Int) == 0) = false := by simpa using hy
      have hz2 : (((y : Nat) : Int) != 0) = true := by simpa using hy
      have hm : x % y < y := Nat.mod_lt _ (by omega)
      have HG2 : Hid (G = Nat.gcd y (x % y)) := by
        show G = _
        rw [HG'.out, Nat.gcd_comm x y, Nat.gcd_rec y x, Nat.gcd_comm]
      go_wp2_with fail
      go_roundw
      case rel => exact ⟨y, x % y, rfl, by go_num, b_y, by omega, HG2.out, hx⟩
      case measure => simp [intOf]; omega
/-- the sum, and its code -/
def addV (a b : Int) : Int := if isB a && isB b then limV (a + b) else 0
def addE (a b : Int) : Int := if isB a && isB b then limE (a + b) else 2
theorem add_c (a b : Int) (w : World) : Calls Tryd.prog 23 #[.int .i64 a, .int .i64 b] w (Ret w (Two (addV a b) (addE a b))) := by
  have H1 := Lib.hid (is_c a)
  have H2 := Lib.hid (is_c b)
  have H3 := Lib.hid (limited_c (a + b))
  unfold addV addE
  unfold Two at *
  cases h1 : isB a <;> cases h2 : isB b
  all_goals
    rw [h1] at H1
    rw [h2] at H2
    try (have b1 := (isB_iff a).1 h1)
    try (have b2 := (isB_iff b).1 h2)
    clear h1 h2
    go_enter Tryd.func23, Tryd.ntmps23
    go_wp2_with fail
    refine (H1.out _).mono ?_; rintro e w' ⟨rfl, z, rfl⟩
    go_wp2_with fail
    try (refine (H2.out _).mono ?_; rintro e w' ⟨rfl, z2, rfl⟩; go_wp2_with fail)
    try (refine (H3.out _).mono ?_; rintro e w' ⟨rfl, z3, rfl⟩; go_wp2_with fail)
    go_ret2
    exact Ret.mk (by simp) (by repeat (first | exact Ex.refl _ | apply Ex.ext))
def Twb (a : Int) (b : Bool) : Value := .tuple #[.int .i64 a, .bool b]
theorem rAdd_c (a b : Int) (w : World) (h1 : isB a = true) (h2 : isB b = true) : Calls Tryd.prog 25 #[.int .i64 a, .int .i64 b] w (Ret w (Twb (limV (a + b)) (isB (a + b)))) := by
  have H3 := Lib.hid (rIs_c (a + b))
  unfold limV Twb
  rw [isB_iff] at h1 h2
  cases h3 : isB (a + b)
  all_goals
    rw [h3] at H3
    clear h3
    go_enter Tryd.func25, Tryd.ntmps25
    go_wp2_with fail
    refine (H3.out _).mono ?_; rintro e w' ⟨rfl, z, rfl⟩
    go_wp2_with fail
    go_ret2
    exact Ret.mk (by simp) ((Ex.refl _).ext _)
/-- the product, and its code -/
def mulV (a b : Int) : Int := if isB a && isB b then limV (a * b) else 0
def mulE (a b : Int) : Int := if isB a && isB b then limE (a * b) else 2
theorem mul_big (x y : Nat) (hy : y ≠ 0) : 1125899906842624 / y < x ↔ 1125899906842624 < x * y := by
  rw [Nat.div_lt_iff_lt_mul (by omega)]
theorem isB_abs (n : Int) : isB n = decide (n.natAbs ≤ 1125899906842624) := by
  rw [Bool.eq_iff_iff, isB_iff, decide_eq_true_eq]; omega
theorem mul_c (a b : Int) (w : World) : Calls Tryd.prog 24 #[.int .i64 a, .int .i64 b] w (Ret w (Two (mulV a b) (mulE a b))) := by
  have H1 := Lib.hid (is_c a)
  have H2 := Lib.hid (is_c b)
  unfold mulV mulE Two
  by_cases hh : isB a = true ∧ isB b = true
  · obtain ⟨h1, h2⟩ := hh
    rw [h1] at H1
    rw [h2] at H2
    have H3 := Lib.hid (fun w => abs_c a w h1)
    have H4 := Lib.hid (fun w => abs_c b w h2)
    rw [h1, h2]
    by_cases ha : a = 0
    · subst ha
      clear h1 h2
      go_enter Tryd.func24, Tryd.ntmps24
      go_wp2_with fail
      refine (H1.out _).mono ?_; rintro e w' ⟨rfl, z, rfl⟩
      go_wp2_with fail
      refine (H2.out _).mono ?_; rintro e w' ⟨rfl, z2, rfl⟩
      go_wp2_with fail
      go_ret2
      exact Ret.mk (by simp [limV, limE]; decide) (((Ex.refl _).ext _).ext _)
    · by_cases hb : b = 0
      · subst hb
        have ha0 : (a == 0) = false := by simpa using ha
        clear h1 h2 ha
        go_enter Tryd.func24, Tryd.ntmps24
        go_wp2_with fail
        refine (H1.out _).mono ?_; rintro e w' ⟨rfl, z, rfl⟩
        go_wp2_with fail
        refine (H2.out _).mono ?_; rintro e w' ⟨rfl, z2, rfl⟩
        go_wp2_with fail
        go_ret2
        exact Ret.mk (by simp [limV, limE]; decide) (((Ex.refl _).ext _).ext _)
      · have ha0 : (a == 0) = false := by simpa using ha
        have hb0 : (b == 0) = false := by simpa using hb
        have hm := mul_big a.natAbs b.natAbs (by omega)
        have e := isB_abs (a * b)
        rw [Int.natAbs_mul] at e
        have hP : (a * b).natAbs = a.natAbs * b.natAbs := Int.natAbs_mul a b
        have b1 := (isB_iff a).1 h1
        have b2 := (isB_iff b).1 h2
        have hab : a.natAbs ≤ 1125899906842624 := by omega
        have hbb : b.natAbs ≤ 1125899906842624 := by omega
        have hB : ((b.natAbs : Int) == 0) = false := by simpa using hb
        have hB1 : 1 ≤ b.natAbs := by omega
        have hcast : (1125899906842624 : Int) / (b.natAbs : Int) = ((1125899906842624 / b.natAbs : Nat) : Int) := by simp
        by_cases hc : 1125899906842624 < a.natAbs * b.natAbs
        · have ev : limV (a * b) = 0 := by unfold limV; rw [e, decide_eq_false (by omega)]; rfl
          have ee : limE (a * b) = 9 := by unfold limE; rw [e, decide_eq_false (by omega)]; rfl
          have hlt := hm.2 hc
          have HV := Lib.hid ev
          have HE := Lib.hid ee
          have ht : decide ((1125899906842624 : Int) / (b.natAbs : Int) < (a.natAbs : Int)) = true := by rw [hcast, decide_eq_true_eq]; omega
          generalize a.natAbs = x at *
          generalize b.natAbs = y at *
          clear ev ee hm e hP hc hlt hcast h1 h2 ha hb
          go_enter Tryd.func24, Tryd.ntmps24
          go_wp2_with fail
          refine (H1.out _).mono ?_; rintro e w' ⟨rfl, z, rfl⟩
          go_wp2_with fail
          refine (H2.out _).mono ?_; rintro e w' ⟨rfl, z2, rfl⟩
          go_wp2_with fail
          refine (H3.out _).mono ?_; rintro e w' ⟨rfl, z3, rfl⟩
          go_wp2_with fail
          refine (H4.out _).mono ?_; rintro e w' ⟨rfl, z4, rfl⟩
          go_wp2_with fail
          go_ret2
          exact Ret.mk (by rw [HV.out, HE.out]; rfl) (by repeat (first | exact Ex.refl _ | apply Ex.ext))
        · have ev : limV (a * b) = a * b := by unfold limV; rw [e, decide_eq_true (by omega)]; rfl
          have ee : limE (a * b) = 0 := by unfold limE; rw [e, decide_eq_true (by omega)]; rfl
          have hlt : ¬ 1125899906842624 / b.natAbs < a.natAbs := fun h => hc (hm.1 h)
          have HV := Lib.hid ev
          have HE := Lib.hid ee
          have q1 : -1125899906842624 ≤ a * b := by omega
          have q2 : a * b ≤ 1125899906842624 := by omega
          have ht : decide ((1125899906842624 : Int) / (b.natAbs : Int) < (a.natAbs : Int)) = false := by rw [hcast, decide_eq_false_iff_not]; omega
          generalize a.natAbs = x at *
          generalize b.natAbs = y at *
          clear ev ee hm e hP hc hlt hcast h1 h2 ha hb
          go_enter Tryd.func24, Tryd.ntmps24
          go_wp2_with fail
          refine (H1.out _).mono ?_; rintro e w' ⟨rfl, z, rfl⟩
          go_wp2_with fail
          refine (H2.out _).mono ?_; rintro e w' ⟨rfl, z2, rfl⟩
          go_wp2_with fail
          refine (H3.out _).mono ?_; rintro e w' ⟨rfl, z3, rfl⟩
          go_wp2_with fail
          refine (H4.out _).mono ?_; rintro e w' ⟨rfl, z4, rfl⟩
          go_wp2_with fail
          go_ret2
          exact Ret.mk (by rw [HV.out, HE.out]; rfl) (by repeat (first | exact Ex.refl _ | apply Ex.ext))
  · cases h1 : isB a
    · rw [h1] at H1
      clear h1 hh
      go_enter Tryd.func24, Tryd.ntmps24
      go_wp2_with fail
      refine (H1.out _).mono ?_; rintro e w' ⟨rfl, z, rfl⟩
      go_wp2_with fail
      go_ret2
      exact Ret.mk (by simp) ((Ex.refl _).ext _)
    · have h2 : isB b = false := by
        cases h2 : isB b
        · rfl
        · exact absurd ⟨h1, h2⟩ hh
      rw [h1] at H1
      rw [h2] at H2
      rw [h2]
      clear h1 h2 hh
      go_enter Tryd.func24, Tryd.ntmps24
      go_wp2_with fail
      refine (H1.out _).mono ?_; rintro e w' ⟨rfl, z, rfl⟩
      go_wp2_with fail
      refine (H2.out _).mono ?_; rintro e w' ⟨rfl, z2, rfl⟩
      go_wp2_with fail
      go_ret2
      exact Ret.mk (by simp) (((Ex.refl _).ext _).ext _)
/-- the reference's product, of numbers -/
theorem rMul_c (a b : Int) (w : World) (h1 : isB a = true) (h2 : isB b = true) : Calls Tryd.prog 26 #[.int .i64 a, .int .i64 b] w (Ret w (Twb (limV (a * b)) (isB (a * b)))) := by
  unfold Twb
  have H3 := Lib.hid (fun w => rAbs_c a w h1)
  have H4 := Lib.hid (fun w => rAbs_c b w h2)
  by_cases ha : a = 0
  · subst ha
    clear h1 h2
    go_enter Tryd.func26, Tryd.ntmps26
    go_wp2_with fail
    go_ret2
    exact Ret.mk (by simp [limV]; decide) (Ex.refl _)
  · have ha0 : (a == 0) = false := by simpa using ha
    have ha1 : (a != 0) = true := by simpa using ha
    have hm := mul_big b.natAbs a.natAbs (by omega)
    rw [Nat.mul_comm] at hm
    have e := isB_abs (a * b)
    rw [Int.natAbs_mul] at e
    have hP : (a * b).natAbs = a.natAbs * b.natAbs := Int.natAbs_mul a b
    have b1 := (isB_iff a).1 h1
    have b2 := (isB_iff b).1 h2
    have hab : a.natAbs ≤ 1125899906842624 := by omega
    have hbb : b.natAbs ≤ 1125899906842624 := by omega
    have hA : ((a.natAbs : Int) == 0) = false := by simpa using ha
    have hA1 : 1 ≤ a.natAbs := by omega
    have hcast : (1125899906842624 : Int) / (a.natAbs : Int) = ((1125899906842624 / a.natAbs : Nat) : Int) := by simp
    by_cases hc : 1125899906842624 < a.natAbs * b.natAbs
    · have eb : isB (a * b) = false := by rw [e, decide_eq_false (by omega)]
      have ev : limV (a * b) = 0 := by unfold limV; rw [eb]; rfl
      have hlt := hm.2 hc
      have HV := Lib.hid ev
      have HE := Lib.hid eb
      have ht : decide ((1125899906842624 : Int) / (a.natAbs : Int) < (b.natAbs : Int)) = true := by rw [hcast, decide_eq_true_eq]; omega
      generalize a.natAbs = x at *
      generalize b.natAbs = y at *
      clear ev eb hm e hP hc hlt hcast h1 h2 ha
      go_enter Tryd.func26, Tryd.ntmps26
      go_wp2_with fail
      refine (H4.out _).mono ?_; rintro e w' ⟨rfl, z3, rfl⟩
      go_wp2_with fail
      refine (H3.out _).mono ?_; rintro e w' ⟨rfl, z4, rfl⟩
      go_wp2_with fail
      go_ret2
      exact Ret.mk (by rw [HV.out, HE.out]; rfl) (by repeat (first | exact Ex.refl _ | apply Ex.ext))
    · have eb : isB (a * b) = true := by rw [e, decide_eq_true (by omega)]
      have ev : limV (a * b) = a * b := by unfold limV; rw [eb]; rfl
      have hlt : ¬ 1125899906842624 / a.natAbs < b.natAbs := fun h => hc (hm.1 h)
      have HV := Lib.hid ev
      have HE := Lib.hid eb
      have q1 : -1125899906842624 ≤ a * b := by omega
      have q2 : a * b ≤ 1125899906842624 := by omega
      have ht : decide ((1125899906842624 : Int) / (a.natAbs : Int) < (b.natAbs : Int)) = false := by rw [hcast, decide_eq_false_iff_not]; omega
      generalize a.natAbs = x at *
      generalize b.natAbs = y at *
      clear ev eb hm e hP hc hlt hcast h1 h2 ha
      go_enter Tryd.func26, Tryd.ntmps26
      go_wp2_with fail
      refine (H4.out _).mono ?_; rintro e w' ⟨rfl, z3, rfl⟩
      go_wp2_with fail
      refine (H3.out _).mono ?_; rintro e w' ⟨rfl, z4, rfl⟩
      go_wp2_with fail
      go_ret2
      exact Ret.mk (by rw [HV.out, HE.out]; rfl) (by repeat (first | exact Ex.refl _ | apply Ex.ext))
end Go.Proofs.YtjbfoanboidkbaaDoor
