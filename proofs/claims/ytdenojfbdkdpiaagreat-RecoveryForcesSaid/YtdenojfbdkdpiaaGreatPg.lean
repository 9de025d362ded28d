/-
  The reference's SameInts and SameLists, walked.
  Conditions: as each theorem says.
-/
import Derived.Test.YtdenojfbdkdpiaaGreatPd
namespace Go.Proofs.YtdenojfbdkdpiaaGreat
open Go.RowKit Go.Shelf
theorem list_ne {α : Type} {xs ys : List α} {i : Nat} {a b : α} (ha : xs[i]? = some a) (hb : ys[i]? = some b) (hne : a ≠ b) : xs ≠ ys := fun h => by
  rw [h, hb] at ha
  cases ha
  exact hne rfl
theorem list_all {α : Type} {xs ys : List α} (hl : xs.length = ys.length) (h : ∀ (i : Nat) (a b : α), xs[i]? = some a → ys[i]? = some b → a = b) : xs = ys := by
  apply List.ext_getElem?
  intro i
  by_cases hi : i < xs.length
  · obtain ⟨a, ha⟩ := get_at hi
    obtain ⟨b, hb⟩ := get_at (show i < ys.length by omega)
    rw [ha, hb, h i a b ha hb]
  · rw [List.getElem?_eq_none (by omega), List.getElem?_eq_none (by omega)]
set_option maxRecDepth 20000 in
set_option maxHeartbeats 1600000 in
theorem sameInts_c (xs ys : List Int) (A B : Option Addr) (c d : Nat) (w : World) (hx : Row w A (intsV xs)) (hy : Row w B (intsV ys)) (_lx : xs.length ≤ 100000000) (_ly : ys.length ≤ 100000000) :
    Calls Tryz.prog 35 #[.slice A xs.length c, .slice B ys.length d] w (Ret w (.bool (decide (xs = ys)))) := by
  by_cases hl : xs.length = ys.length
  · have s1 : ((xs.length : Int) == (ys.length : Int)) = true := by simp [hl]
    have HX := Lib.hid (fun w' (h : Ex w w') => hx.ex h)
    have HY := Lib.hid (fun w' (h : Ex w w') => hy.ex h)
    have HNo : Hid (∀ (i : Nat) (a b : Int), xs[i]? = some a → ys[i]? = some b → a ≠ b → decide (xs = ys) = false) := fun i a b ha hb hne => decide_eq_false (list_ne ha hb hne)
    have HYes : Hid ((∀ (i : Nat) (a b : Int), xs[i]? = some a → ys[i]? = some b → a = b) → decide (xs = ys) = true) := fun h => decide_eq_true (list_all hl h)
    generalize decide (xs = ys) = R at *
    rw [← hl]
    have hl1 : xs.length ≤ ys.length := Nat.le_of_eq hl
    have HLq := Lib.hid hl
    clear hx hy s1 hl
    go_enter Tryz.func35, Tryz.ntmps35
    go_wp2_with fail
    go_loopw [5] (fun q wr => ∃ i : Nat, q = .int .i64 i ∧ i ≤ xs.length ∧ Hid ((∀ (j : Nat) (a b : Int), j < i → xs[j]? = some a → ys[j]? = some b → a = b) ∧ Ex w wr)) (fun q _ => xs.length - (intOf q).toNat)
    case atStart => exact ⟨0, rfl, Nat.zero_le _, Lib.hid ⟨fun j a b h => absurd h (Nat.not_lt_zero _), Ex.refl _⟩⟩
    case round =>
      obtain ⟨i, rfl, hi, HH⟩ := hrel
      by_cases hil : i < xs.length
      · have m0 : (0 : Int) ≤ (i : Int) := by omega
        have m1 : (i : Int) < (xs.length : Int) := by omega
        obtain ⟨a, ha⟩ := get_at hil
        obtain ⟨b, hb⟩ := get_at (show i < ys.length by omega)
        obtain ⟨b1, o1, hA, hb1, hc1⟩ := row_at (HX.out _ HH.out.2) (fun h => by rw [h] at hil; exact absurd hil (Nat.not_lt_zero _))
        obtain ⟨b2, o2, hB, hb2, hc2⟩ := row_at (HY.out _ HH.out.2) (fun h => by have := HLq.out; rw [h] at this; rw [this] at hil; exact absurd hil (Nat.not_lt_zero _))
        subst hA hB
        have k1 := hc1 i a ha
        have k2 := hc2 i b hb
        have HAB := Lib.hid (And.intro ha hb)
        clear hc1 hc2 ha hb
        by_cases h1 : a = b
        · have s1 : (a == b) = true := by simp [h1]
          have HN : Hid (∀ (j : Nat) (a b : Int), j < i + 1 → xs[j]? = some a → ys[j]? = some b → a = b) := fun j a' b' hj ha' hb' => by
            by_cases he : j = i
            · subst he
              rw [HAB.out.1] at ha'; rw [HAB.out.2] at hb'
              cases ha'; cases hb'; exact h1
            · exact HH.out.1 j a' b' (by omega) ha' hb'
          subst h1
          go_wp2_with fail
          go_quiet (fail)
          go_wp2_with fail
          refine ⟨⟨i + 1, by go_num, by omega, Lib.hid ⟨HN.out, HH.out.2.drewN _⟩⟩, by simp [intOf]; omega⟩
        · have s1 : (a == b) = false := beq_eq_false_iff_ne.2 h1
          have s2 : (a != b) = true := by simp [h1]
          have HR := Lib.hid (HNo.out i a b HAB.out.1 HAB.out.2 h1)
          clear h1
          go_wp2_with fail
          go_quiet (fail)
          go_wp2_with fail
          go_ret
          exact Ret.mk (by rw [HR.out]; rfl) (HH.out.2.drewN _)
      · obtain rfl : i = xs.length := by omega
        have s1 : decide ((xs.length : Int) < (xs.length : Int)) = false := decide_eq_false (by omega)
        have HR := Lib.hid (HYes.out fun i a b ha hb => HH.out.1 i a b (List.getElem?_eq_some_iff.1 ha).1 ha hb)
        go_wp2_with fail
        go_ret
        exact Ret.mk (by rw [HR.out]; rfl) HH.out.2
  · have s1 : ((xs.length : Int) == (ys.length : Int)) = false := beq_eq_false_iff_ne.2 (by omega)
    have s2 : ((xs.length : Int) != (ys.length : Int)) = true := by simp; omega
    rw [decide_eq_false fun h => hl (by rw [h])]
    go_enter Tryz.func35, Tryz.ntmps35
    go_wp2_with fail
    go_ret
    exact Ret.mk rfl (Ex.refl _)
set_option maxRecDepth 20000 in
set_option maxHeartbeats 1600000 in
theorem sameLists_c (xs ys : List (List Int)) (A B : Option Addr) (c d : Nat) (w : World) (hx : LlC w A xs) (hy : LlC w B ys) (lx : LSm xs) (ly : LSm ys) :
    Calls Tryz.prog 12 #[.slice A xs.length c, .slice B ys.length d] w (Ret w (.bool (decide (xs = ys)))) := by
  have lxr := lx.rows
  have lyr := ly.rows
  by_cases hl : xs.length = ys.length
  · have HX := Lib.hid (fun w' (h : Ex w w') => hx.ex h)
    have HY := Lib.hid (fun w' (h : Ex w w') => hy.ex h)
    have HS := Lib.hid (fun (a b : List Int) A1 B1 c1 d1 w' (h1 : Row w' A1 (intsV a)) (h2 : Row w' B1 (intsV b)) (l1 : a.length ≤ 100000) (l2 : b.length ≤ 100000) => sameInts_c a b A1 B1 c1 d1 w' h1 h2 (by omega) (by omega))
    have HNo : Hid (∀ (i : Nat) (a b : List Int), xs[i]? = some a → ys[i]? = some b → a ≠ b → decide (xs = ys) = false) := fun i a b ha hb hne => decide_eq_false (list_ne ha hb hne)
    have HYes : Hid ((∀ (i : Nat) (a b : List Int), xs[i]? = some a → ys[i]? = some b → a = b) → decide (xs = ys) = true) := fun h => decide_eq_true (list_all hl h)
    have HLx : Hid (∀ (i : Nat) (a : List Int), xs[i]? = some a → a.length ≤ 100000) := fun i a h => lx.each a (List.mem_of_getElem? h)
    have HLy : Hid (∀ (i : Nat) (a : List Int), ys[i]? = some a → a.length ≤ 100000) := fun i a h => ly.each a (List.mem_of_getElem? h)
    generalize decide (xs = ys) = R at *
    rw [← hl]
    have hl1 : xs.length ≤ ys.length := Nat.le_of_eq hl
    clear hx hy lx ly hl
    go_enter Tryz.func12, Tryz.ntmps12
    go_wp2_with fail
    go_loopw [5] (fun q wr => ∃ i : Nat, q = .int .i64 i ∧ i ≤ xs.length ∧ Hid ((∀ (j : Nat) (a b : List Int), j < i → xs[j]? = some a → ys[j]? = some b → a = b) ∧ Ex w wr)) (fun q _ => xs.length - (intOf q).toNat)
    case atStart => exact ⟨0, rfl, Nat.zero_le _, Lib.hid ⟨fun j a b h => absurd h (Nat.not_lt_zero _), Ex.refl _⟩⟩
    case round =>
      obtain ⟨i, rfl, hi, HH⟩ := hrel
      by_cases hil : i < xs.length
      · have m0 : (0 : Int) ≤ (i : Int) := by omega
        have m1 : (i : Int) < (xs.length : Int) := by omega
        obtain ⟨a, ha⟩ := get_at hil
        obtain ⟨b, hb⟩ := get_at (show i < ys.length by omega)
        obtain ⟨b1, o1, hA, hb1, A1, c1, k1, -, r1⟩ := HX.out _ HH.out.2 i a ha
        obtain ⟨b2, o2, hB, hb2, B1, d1, k2, -, r2⟩ := HY.out _ HH.out.2 i b hb
        subst hA hB
        have HS1 := Lib.hid (fun w' (h : Ex _ w') => HS.out a b A1 B1 c1 d1 w' (r1.ex h) (r2.ex h) (HLx.out i a ha) (HLy.out i b hb))
        have HAB := Lib.hid (And.intro ha hb)
        clear ha hb r1 r2
        by_cases h1 : a = b
        · have HN : Hid (∀ (j : Nat) (a b : List Int), j < i + 1 → xs[j]? = some a → ys[j]? = some b → a = b) := fun j a' b' hj ha' hb' => by
            by_cases he : j = i
            · subst he
              rw [HAB.out.1] at ha'; rw [HAB.out.2] at hb'
              cases ha'; cases hb'; exact h1
            · exact HH.out.1 j a' b' (by omega) ha' hb'
          rw [decide_eq_true h1] at HS1
          clear h1
          go_wp2_with fail
          refine wp_region_ext (by kernel_rfl) (by kernel_rfl) ?_
          repeat (go_big_quiet_step ((go_at_call 35; exact quiet_ext (HS1.out _ ((Ex.refl _).ext _)))))
          refine wpQuiet_end (fun z2 => ?_)
          go_wp2_with fail
          refine ⟨⟨i + 1, by go_num, by omega, Lib.hid ⟨HN.out, HH.out.2.ext _⟩⟩, by simp [intOf]; omega⟩
        · have HR := Lib.hid (HNo.out i a b HAB.out.1 HAB.out.2 h1)
          rw [decide_eq_false h1] at HS1
          clear h1
          go_wp2_with fail
          refine wp_region_ext (by kernel_rfl) (by kernel_rfl) ?_
          repeat (go_big_quiet_step ((go_at_call 35; exact quiet_ext (HS1.out _ ((Ex.refl _).ext _)))))
          refine wpQuiet_end (fun z2 => ?_)
          go_wp2_with fail
          go_ret
          exact Ret.mk (by rw [HR.out]; rfl) (HH.out.2.ext _)
      · obtain rfl : i = xs.length := by omega
        have s1 : decide ((xs.length : Int) < (xs.length : Int)) = false := decide_eq_false (by omega)
        have HR := Lib.hid (HYes.out fun i a b ha hb => HH.out.1 i a b (List.getElem?_eq_some_iff.1 ha).1 ha hb)
        go_wp2_with fail
        go_ret
        exact Ret.mk (by rw [HR.out]; rfl) HH.out.2
  · rw [decide_eq_false fun h => hl (by rw [h])]
    have s1 : ((xs.length : Int) == (ys.length : Int)) = false := beq_eq_false_iff_ne.2 (by omega)
    have s2 : ((xs.length : Int) != (ys.length : Int)) = true := by simp; omega
    go_enter Tryz.func12, Tryz.ntmps12
    go_wp2_with fail
    go_ret
    exact Ret.mk rfl (Ex.refl _)
end Go.Proofs.YtdenojfbdkdpiaaGreat
