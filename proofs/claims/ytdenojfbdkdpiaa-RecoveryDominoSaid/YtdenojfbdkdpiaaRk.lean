/-
  Comparing counts, and the lengths of the processes.
  Conditions: as each theorem says.
-/
import Derived.Test.YtdenojfbdkdpiaaRj
namespace Go.Proofs.Ytdenojfbdkdpiaa
open Go.RowKit Go.Shelf
set_option maxRecDepth 20000 in
set_option maxHeartbeats 1600000 in
theorem leq_c (xs ys : List Int) (A B : Option Addr) (c d n : Nat) (w : World) (lx : xs.length = n) (ly : ys.length = n) (hx : Row w A (intsV xs)) (hy : Row w B (intsV ys)) (hg : Geq ys xs) (hn : n ≤ 1000000000) :
    Calls Try.prog 37 #[.slice A n c, .slice B n d] w (Ret w (.bool true)) := by
  have HXr := Lib.hid (fun w' (h : Ex w w') => hx.ex h)
  have HYr := Lib.hid (fun w' (h : Ex w w') => hy.ex h)
  have HG : Hid (∀ j, j < n → ∃ a b, xs[j]? = some a ∧ ys[j]? = some b ∧ a ≤ b) := fun j hj => by
    obtain ⟨a, ha⟩ := get_at (show j < xs.length by omega)
    obtain ⟨b, hb⟩ := get_at (show j < ys.length by omega)
    exact ⟨a, b, ha, hb, hg j a b ha hb⟩
  clear hx hy lx ly hg
  go_enter Try.func37, Try.ntmps37
  go_wp2_with fail
  go_loopw [13] (fun q wr => ∃ j : Nat, q = .int .i64 j ∧ j ≤ n ∧ Hid (Ex w wr)) (fun q _ => n - (intOf q).toNat)
  case atStart => exact ⟨0, rfl, Nat.zero_le _, Lib.hid (Ex.refl _)⟩
  case round =>
    obtain ⟨j, rfl, hj, HX⟩ := hrel
    by_cases hjl : j < n
    · have m0 : (0 : Int) ≤ (j : Int) := by omega
      have m1 : (j : Int) < (n : Int) := by omega
      obtain ⟨a, b, ha, hb, hab⟩ := HG.out j hjl
      obtain ⟨g, o, rfl, hgl, hc⟩ := row_at (HXr.out _ HX.out) (fun h => by rw [h] at ha; simp at ha)
      obtain ⟨g', o', rfl, hgl', hc'⟩ := row_at (HYr.out _ HX.out) (fun h => by rw [h] at hb; simp at hb)
      have k0 := hc j a ha
      have k1 := hc' j b hb
      have s1 : decide (b < a) = false := decide_eq_false (by omega)
      clear ha hb hc hc' hab
      go_wp2_with fail
      go_quiet (fail)
      go_wp2_with fail
      exact ⟨⟨j + 1, by go_num, by omega, Lib.hid (HX.out.drewN _)⟩, by simp [intOf]; omega⟩
    · obtain rfl : j = n := by omega
      have s1 : decide ((j : Int) < (j : Int)) = false := decide_eq_false (by omega)
      go_wp2_with fail
      go_ret
      exact Ret.mk rfl HX.out
set_option maxRecDepth 20000 in
set_option maxHeartbeats 1600000 in
theorem lens_c (t : List Pr) (A : Option Addr) (c : Nat) (w : World) (hT : TcC w A t) (hs : TSm t) :
    Calls Try.prog 38 #[.agg #[.slice A t.length c]] w (fun e w' => ∃ B k, e = .returned (.slice B t.length k) ∧ OwnO w' w.heap.size 3 1 (.slice B t.length k) t.length (intsV (lensL t)) ∧ Ex w w') := by
  have htl := hs.procs
  have HT : Hid (∀ w', Ex w w' → TcC w' A t) := fun w' h => hT.ex h
  have HTk : Hid (∀ p x, t[p]? = some x → (lensL t).take (p + 1) = (lensL t).take p ++ [(x.evs.length : Int)]) := fun p x hx => by
    rw [List.take_add_one, lensL_get hx]
    rfl
  have HTa : Hid ((lensL t).take t.length = lensL t) := List.take_of_length_le (by simp [lensL])
  obtain ⟨i0, hi0, hz0, hz1, hz2⟩ := info_parts infoInt
  obtain ⟨W0, hW0⟩ : ∃ W0, W0 = w.alloc (.cells #[.slice A t.length c] 24) := ⟨_, rfl⟩
  have HX0 : Hid (Ex w W0) := by rw [hW0]; exact (Ex.refl w).alloc _
  have HB0 : Hid (∀ w', Ex W0 w' → Blk w' w.heap.size 24 [.slice A t.length c]) := fun w' hx => by
    have : Blk W0 w.heap.size 24 [.slice A t.length c] := by rw [hW0]; exact Blk.new w _ _
    exact this.ex hx
  have HW0 := Lib.hid hW0
  clear hW0 hT hs
  go_enter Try.func38, Try.ntmps38
  go_wp2_with fail
  rw [← HW0.out]
  go_loopw [3, 4] (fun v k wr => ∃ (p : Nat) (A2 : Option Addr) (c2 : Nat), v = .slice A2 p c2 ∧ k = .int .i64 p ∧ p ≤ t.length ∧ Hid (OwnO wr W0.heap.size 3 1 (.slice A2 p c2) p (intsV ((lensL t).take p)) ∧ Ex W0 wr)) (fun _ k _ => t.length - (intOf k).toNat)
  case atStart => exact ⟨0, none, 0, rfl, rfl, Nat.zero_le _, Lib.hid ⟨OwnO.nil _ _ _ _, Ex.refl _⟩⟩
  case round =>
    obtain ⟨p, A2, c2, rfl, rfl, hp, HH⟩ := hrel
    have x0 := (HB0.out _ HH.out.2).cell 0
    have l0 := (HB0.out _ HH.out.2).lt
    by_cases hpl : p < t.length
    · have m0 : (0 : Int) ≤ (p : Int) := by omega
      have m1 : (p : Int) < (t.length : Int) := by omega
      obtain ⟨x, hx⟩ := get_at hpl
      obtain ⟨b, o, hA, hbl, V, vc, E, ec, k0, k1, k2, -, kE⟩ := HT.out _ (HX0.out.trans HH.out.2) p x hx
      subst hA
      have HN := Lib.hid (HTk.out p x hx)
      have HO := Lib.hid (HH.out.1.ex ((Ex.refl _).alloc (.cells #[.int .i64 (x.evs.length : Nat)] 3)))
      have hbase : W0.heap.size ≤ wr.heap.size := HH.out.2.below.size
      clear hx kE k0 k1
      go_wp2_with (at_builtin; refine wpList_append_one _ rfl _ _ 39 rfl W0.heap.size 3 i0 _ 1 8 Try.underlying39 hi0 hz0 hz1 hz2 rfl (.slice A2 p c2) p (intsV ((lensL t).take p)) rfl HO.out wr.heap.size [.int .i64 (x.evs.length : Nat)] rfl rfl ?c1 ?c2 ?c3 ?c4 ?c5 ?_)
      case c1 => exact news_new rfl (by simp)
      case c2 => exact one_ints (by simp)
      case c3 => omega
      case c4 => omega
      case c5 => simp; omega
      intro A4 c4 w4 ho hg hat hEx
      have HX4 := Lib.hid (hEx W0 (HH.out.2.alloc _) (Nat.le_refl _))
      have HO4 : Hid (OwnO w4 W0.heap.size 3 1 (.slice A4 (p + 1) c4) (p + 1) (intsV ((lensL t).take (p + 1)))) := by
        rw [HN.out, intsV_snoc]; exact ho
      clear hg hat hEx ho x0 l0 hbl k2
      go_wp2_with fail
      refine ⟨⟨p + 1, A4, c4, rfl, by go_num, by omega, Lib.hid ⟨HO4.out, HX4.out⟩⟩, by simp [intOf]; omega⟩
    · obtain rfl : p = t.length := by omega
      have s1 : decide ((t.length : Int) < (t.length : Int)) = false := decide_eq_false (by omega)
      go_wp2_with fail
      go_ret
      refine ⟨A2, c2, rfl, ?_, HX0.out.trans HH.out.2⟩
      rw [← HTa.out]
      exact HH.out.1.mono HX0.out.below.size
end Go.Proofs.Ytdenojfbdkdpiaa
