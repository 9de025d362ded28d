/-
  The program's sends, walked.
  Conditions: as each theorem says.
-/
import Derived.Test.YtpmponafjhnegaaGreatDoorHk
import Derived.Test.YtpmponafjhnegaaGreatDoorYc
namespace Go.Proofs.YtpmponafjhnegaaGreatDoor
open Go.RowKit
theorem enters_sn1 : ∀ args w, (callFunc 141 args).run Tryz.prog w = .ok (.enter 141 args) w := enters_of Tryz.func141 (by kernel_rfl) rfl
set_option maxHeartbeats 800000 in
theorem sn1_c (e : Ev) (v : Value) (hv : ∃ A n c, v = .slice A n c) (m q : Int) (n1 n2 : Nat) (w : World) (h1 : n1 < w.heap.size) (h2 : n2 < w.heap.size) (c1 : w.cell? ⟨n1, 0, none⟩ = some (.int .i64 m)) (c2 : w.cell? ⟨n2, 0, none⟩ = some (.int .i64 q)) :
    Calls Tryz.prog 141 #[.agg #[.int .i64 e.kind, .int .i64 e.peer, .int .i64 e.msg, .int .i64 e.time, v], .pointer (some ⟨n1, 0, none⟩), .pointer (some ⟨n2, 0, none⟩)] w (Ret w (.bool (sndB m q e))) := by
  obtain ⟨A1, k1, c3, rfl⟩ := hv
  unfold sndB
  by_cases d1 : e.kind = 2
  · have s1 : (e.kind == 2) = true := by simp [d1]
    rw [decide_eq_true d1]
    by_cases d2 : e.msg = m
    · have s2 : (e.msg == m) = true := by simp [d2]
      rw [decide_eq_true d2]
      by_cases d3 : e.peer = q
      · have s3 : (e.peer == q) = true := by simp [d3]
        rw [decide_eq_true d3]
        clear d1 d2 d3
        go_enter Tryz.func141, Tryz.ntmps141
        go_wp2_with fail
        go_ret
        exact Ret.mk (by first | rfl | simp [*]) ((Ex.refl w).alloc _)
      · have s3 : (e.peer == q) = false := by simp [d3]
        rw [decide_eq_false d3]
        clear d1 d2 d3
        go_enter Tryz.func141, Tryz.ntmps141
        go_wp2_with fail
        go_ret
        exact Ret.mk (by first | rfl | simp [*]) ((Ex.refl w).alloc _)
    · have s2 : (e.msg == m) = false := by simp [d2]
      rw [decide_eq_false d2]
      clear d1 d2
      go_enter Tryz.func141, Tryz.ntmps141
      go_wp2_with fail
      go_ret
      exact Ret.mk (by first | rfl | simp [*]) ((Ex.refl w).alloc _)
  · have s1 : (e.kind == 2) = false := by simp [d1]
    rw [decide_eq_false d1]
    clear d1
    go_enter Tryz.func141, Tryz.ntmps141
    go_wp2_with fail
    go_ret
    exact Ret.mk (by first | rfl | simp [*]) ((Ex.refl w).alloc _)
set_option maxRecDepth 20000 in
set_option maxHeartbeats 1600000 in
theorem sends_c (t : List Pr) (A : Option Addr) (c p : Nat) (m q : Int) (y : Pr) (w : World) (hT : TcC w A t) (hs : TSm t) (hy : t[p]? = some y) :
    Calls Tryz.prog 121 #[.agg #[.slice A t.length c], .int .i64 p, .int .i64 m, .int .i64 q] w (Ret w (.bool (y.evs.any (sndB m q)))) := by
  have hp := (List.getElem?_eq_some_iff.1 hy).1
  have hl := hs.procs
  have hel := (hs.each y (List.mem_of_getElem? hy)).2.2.1
  obtain ⟨b, o, hA, hbl, V, vc, E, ec, g0, g1, g2, -, hE⟩ := hT p y hy
  have m0 : (0 : Int) ≤ (p : Int) := by omega
  have m1 : (p : Int) < (t.length : Int) := by omega
  have u1 : b < w.heap.size + 1 := by omega
  have u2 : b < w.heap.size + 1 + 1 := by omega
  subst hA
  obtain ⟨W0, hW0⟩ : ∃ W0, W0 = ((w.alloc (.cells #[.slice (some ⟨b, o, none⟩) t.length c] 24)).alloc (.cells #[.int .i64 m] 3)).alloc (.cells #[.int .i64 q] 3) := ⟨_, rfl⟩
  have HX0 : Hid (Ex w W0) := by rw [hW0]; exact (((Ex.refl w).alloc _).alloc _).alloc _
  have hb1 : Blk W0 (w.heap.size + 1) 3 [.int .i64 m] := by
    rw [hW0, show w.heap.size + 1 = (w.alloc (.cells #[.slice (some ⟨b, o, none⟩) t.length c] 24)).heap.size by simp]
    exact (Blk.new _ _ _).alloc _
  have hb2 : Blk W0 (w.heap.size + 1 + 1) 3 [.int .i64 q] := by
    rw [hW0, show w.heap.size + 1 + 1 = ((w.alloc (.cells #[.slice (some ⟨b, o, none⟩) t.length c] 24)).alloc (.cells #[.int .i64 m] 3)).heap.size by simp]
    exact Blk.new _ _ _
  have HAny : Hid (Calls Tryz.prog 33 #[.slice E y.evs.length ec, .func (.func 141) #[] #[.pointer (some ⟨w.heap.size + 1, 0, none⟩), .pointer (some ⟨w.heap.size + 1 + 1, 0, none⟩)]] W0 (Ret W0 (.bool (y.evs.any (sndB m q))))) := by
    by_cases h0 : y.evs.length = 0
    · have hn : y.evs = [] := List.length_eq_zero_iff.1 h0
      have hany := anyEvent_c 141 #[.pointer (some ⟨w.heap.size + 1, 0, none⟩), .pointer (some ⟨w.heap.size + 1 + 1, 0, none⟩)] enters_sn1 E y.evs.length ec (fun _ => .int .i64 0) (fun _ => .int .i64 0) (fun _ => .int .i64 0) (fun _ => .int .i64 0) (fun _ => .int .i64 0) (fun _ => false) W0 (by omega) (fun w2 _ j hj => by omega) (fun w2 _ j hj => by omega)
      rw [hn] at hany ⊢
      exact hany
    · obtain ⟨d, hd⟩ : ∃ d, y.evs[0]? = some d := ⟨_, List.getElem?_eq_getElem (by omega)⟩
      have hch : ∀ j : Nat, ∃ r : Option Addr × Nat, j < y.evs.length → ∃ b o, E = some ⟨b, o, none⟩ ∧ b < w.heap.size ∧ w.cell? ⟨b, o + j * 5, none⟩ = some (.int .i64 ((y.evs[j]?).getD d).kind) ∧ w.cell? ⟨b, o + j * 5 + 1, none⟩ = some (.int .i64 ((y.evs[j]?).getD d).peer) ∧ w.cell? ⟨b, o + j * 5 + 2, none⟩ = some (.int .i64 ((y.evs[j]?).getD d).msg) ∧ w.cell? ⟨b, o + j * 5 + 3, none⟩ = some (.int .i64 ((y.evs[j]?).getD d).time) ∧ w.cell? ⟨b, o + j * 5 + 4, none⟩ = some (.slice r.1 ((y.evs[j]?).getD d).asg.length r.2) := fun j => by
        by_cases hj : j < y.evs.length
        · have hje : y.evs[j]? = some y.evs[j] := List.getElem?_eq_getElem hj
          obtain ⟨b, o, h1, h2, B, bc, k0, k1, k2, k3, k4, -⟩ := hE j _ hje
          rw [hje]
          exact ⟨(B, bc), fun _ => ⟨b, o, h1, h2, k0, k1, k2, k3, k4⟩⟩
        · exact ⟨(none, 0), fun h => absurd h hj⟩
      obtain ⟨Q, hQ⟩ := Classical.axiomOfChoice hch
      have hany := anyEvent_c 141 #[.pointer (some ⟨w.heap.size + 1, 0, none⟩), .pointer (some ⟨w.heap.size + 1 + 1, 0, none⟩)] enters_sn1 E y.evs.length ec (fun j => .int .i64 ((y.evs[j]?).getD d).kind) (fun j => .int .i64 ((y.evs[j]?).getD d).peer) (fun j => .int .i64 ((y.evs[j]?).getD d).msg) (fun j => .int .i64 ((y.evs[j]?).getD d).time) (fun j => .slice (Q j).1 ((y.evs[j]?).getD d).asg.length (Q j).2) (fun j => sndB m q ((y.evs[j]?).getD d)) W0 (by omega)
        (fun w2 hx2 j hj => by
          obtain ⟨b, o, h1, h2, k0, k1, k2, k3, k4⟩ := hQ j hj
          have hxx := HX0.out.trans hx2
          exact ⟨b, o, h1, Nat.lt_of_lt_of_le h2 hxx.below.size, (hxx.below.cell h2).trans k0, (hxx.below.cell h2).trans k1, (hxx.below.cell h2).trans k2, (hxx.below.cell h2).trans k3, (hxx.below.cell h2).trans k4⟩)
        (fun w2 hx2 j hj => sn1_c _ _ ⟨_, _, _, rfl⟩ m q _ _ w2 (hb1.ex hx2).lt (hb2.ex hx2).lt ((hb1.ex hx2).cell 0) ((hb2.ex hx2).cell 0))
      rw [any_range (sndB m q) y.evs y.evs.length (Nat.le_refl _) d, List.take_length] at hany
      exact hany
  have HW0 := Lib.hid hW0
  clear hT hs hE hy hW0 hb1 hb2
  generalize y.evs.any (sndB m q) = R at *
  go_enter Tryz.func121, Tryz.ntmps121
  go_wp2_with fail
  rw [← HW0.out]
  refine (HAny.out).mono ?_
  rintro e9 w' ⟨rfl, z, rfl⟩
  go_wp2_with fail
  go_ret
  exact Ret.mk rfl (HX0.out.ext z)
end Go.Proofs.YtpmponafjhnegaaGreatDoor
