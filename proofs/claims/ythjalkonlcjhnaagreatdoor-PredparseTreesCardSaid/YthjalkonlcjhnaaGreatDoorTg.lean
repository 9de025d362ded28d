/-
  The reference's Formed, walked.
  Conditions: the tree has no more than a million nodes.
-/
import Derived.Test.YthjalkonlcjhnaaGreatDoorTf
import Derived.Test.YthjalkonlcjhnaaGreatDoorQp
namespace Go.Proofs.YthjalkonlcjhnaaGreatDoor
open Go.RowKit
set_option maxHeartbeats 1600000 in
theorem rFormed_c (t : Tr) (Q : Nat → Prop) (w : World) (k n p q : Int) (s : ByteArray) (A : Option Addr) (m c : Nat) (hs : t.size ≤ 1000000) (ht : TrC Q w t (c6 k n p q s A m c)) :
    Calls Tryz.prog 36 #[.agg #[.int .i64 k, .int .i64 n, .int .i64 p, .int .i64 q, .string s, .slice A m c]] w (Ret w (.bool (smallB t && formedB plainB t))) := by
  have H1 := Lib.hid (fun w' (hx : Ex w w') => rCount_c t.size 200 t Q w' k n p q s A m c (Nat.le_refl _) hs (by omega) (ht.ex hx))
  unfold CountR at H1
  have H2 := Lib.hid (fun w' (hx : Ex w w') => rDepth_c t.size t Q w' k n p q s A m c (Nat.le_refl _) hs (ht.ex hx))
  have H3 := Lib.hid (fun w' (hx : Ex w w') => rformed_c t.size t Q w' k n p q s A m c (Nat.le_refl _) hs (ht.ex hx))
  have hd := t.depth_le
  unfold smallB
  generalize formedB plainB t = b at *
  generalize t.size = N at *
  generalize t.depth = D at *
  clear ht
  by_cases h1 : N ≤ 200
  · rw [decide_eq_true h1]
    by_cases h2 : D ≤ 20
    · rw [decide_eq_true h2]
      have z2 : (D : Int) ≤ 20 := by omega
      go_enter Tryz.func36, Tryz.ntmps36
      go_wp2_with fail
      refine (H1.out _ ((Ex.refl _).alloc _)).mono ?_
      rintro e w' ⟨v, rfl, hv1, hv2, hv3, z, rfl⟩
      have z1 : (v : Int) ≤ 200 := by omega
      clear hv1 hv2 hv3
      go_wp2_with fail
      refine (H2.out _ (((Ex.refl _).alloc _).ext _)).mono ?_
      rintro e w' ⟨rfl, z3, rfl⟩
      go_wp2_with fail
      refine (H3.out _ ((((Ex.refl _).alloc _).ext _).ext _)).mono ?_
      rintro e w' ⟨rfl, z4, rfl⟩
      go_wp2_with fail
      go_ret
      exact Ret.mk (by simp) (((((Ex.refl _).alloc _).ext _).ext _).ext _)
    · rw [decide_eq_false h2]
      have z2 : decide ((D : Int) ≤ 20) = false := decide_eq_false (by omega)
      go_enter Tryz.func36, Tryz.ntmps36
      go_wp2_with fail
      refine (H1.out _ ((Ex.refl _).alloc _)).mono ?_
      rintro e w' ⟨v, rfl, hv1, hv2, hv3, z, rfl⟩
      have z1 : (v : Int) ≤ 200 := by omega
      clear hv1 hv2 hv3
      go_wp2_with fail
      refine (H2.out _ (((Ex.refl _).alloc _).ext _)).mono ?_
      rintro e w' ⟨rfl, z3, rfl⟩
      go_wp2_with fail
      go_ret
      exact Ret.mk (by simp) ((((Ex.refl _).alloc _).ext _).ext _)
  · rw [decide_eq_false h1]
    go_enter Tryz.func36, Tryz.ntmps36
    go_wp2_with fail
    refine (H1.out _ ((Ex.refl _).alloc _)).mono ?_
    rintro e w' ⟨v, rfl, hv1, hv2, hv3, z, rfl⟩
    have z1 : decide ((v : Int) ≤ 200) = false := decide_eq_false (by omega)
    clear hv1 hv2 hv3
    go_wp2_with fail
    go_ret
    exact Ret.mk (by simp) (((Ex.refl _).alloc _).ext _)
end Go.Proofs.YthjalkonlcjhnaaGreatDoor
