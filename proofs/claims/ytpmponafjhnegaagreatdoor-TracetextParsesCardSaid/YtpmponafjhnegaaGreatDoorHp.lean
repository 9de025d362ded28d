/-
  The program's messageFault, walked.
  Conditions: as each theorem says.
-/
import Derived.Test.YtpmponafjhnegaaGreatDoorHo
namespace Go.Proofs.YtpmponafjhnegaaGreatDoor
open Go.RowKit Go.Shelf
attribute [local go_sem] Oper.semAt_some alloc_drewN alloc_drew setCell_drewN setCell_drew
set_option maxRecDepth 100000 in
set_option maxHeartbeats 6400000 in
theorem msgFault_c (t : List Pr) (A : Option Addr) (c : Nat) (w : World) (hT : TcC w A t) (hs : TSm t) (hf : ∀ x, InT t x → formE t x = 0) :
    Calls Tryz.prog 91 #[.agg #[.slice A t.length c]] w (MsgR t w) := by
  have HSn : Hid (∀ (p : Nat) (m q : Int) (y : Pr) w', Ex w w' → t[p]? = some y → Calls Tryz.prog 121 #[.agg #[.slice A t.length c], .int .i64 p, .int .i64 m, .int .i64 q] w' (Ret w' (.bool (y.evs.any (sndB m q))))) := fun p m q y w' h hy => sends_c t A c p m q y w' (hT.ex h) hs hy
  have HFr : Hid (∀ x : GItem t w, frmB t.length x.1.p x.1.e = true) := fun x => by
    have h1 := hf _ (item_in x)
    have h2 := item_at x
    obtain ⟨y, hy⟩ : ∃ y, t[x.1.p]? = some y := by
      cases h : t[x.1.p]? with
      | none => have := x.2.at_; unfold evAt at this; rw [h] at this; simp at this
      | some y => exact ⟨y, rfl⟩
    have hye : y.evs[x.1.i]? = some x.1.e := by have := x.2.at_; unfold evAt at this; rw [hy] at this; exact this
    rw [formE_at hy hye] at h1
    cases hb : frmB t.length x.1.p x.1.e with
    | true => rfl
    | false => rw [evE_frm hb] at h1; cases h1
  obtain ⟨W0, hW0⟩ : ∃ W0, W0 = ((((((w.alloc (.cells #[.slice A t.length c] 24)).alloc (.cells #[.pointer none] 148)).alloc (.cells #[.int .i64 0, .int .i64 0] 40)).alloc (.cells #[.int .i64 0] 27)).alloc (.cells Tryz.zeroCells177 177)).alloc (.cells #[.pointer (some ⟨w.heap.size + 1 + 1 + 1 + 1, 0, none⟩)] 148)).alloc (.cells #[.slice A t.length c] 24) := ⟨_, rfl⟩
  have HX0 : Hid (Ex w W0) := by rw [hW0]; exact (((((((Ex.refl w).alloc _).alloc _).alloc _).alloc _).alloc _).alloc _).alloc _
  have HS0 : Hid (W0.heap.size = w.heap.size + 7) := Lib.hid (by rw [hW0]; simp)
  have h0 : Blk W0 w.heap.size 24 [.slice A t.length c] := by rw [hW0]; exact ((((((Blk.new w _ _).alloc _).alloc _).alloc _).alloc _).alloc _).alloc _
  have h1 : Blk W0 (w.heap.size + 1) 148 [.pointer none] := by
    rw [hW0, show w.heap.size + 1 = (w.alloc (.cells #[.slice A t.length c] 24)).heap.size by simp]; exact (((((Blk.new _ _ _).alloc _).alloc _).alloc _).alloc _).alloc _
  have h2 : Blk W0 (w.heap.size + 1 + 1) 40 [.int .i64 0, .int .i64 0] := by
    rw [hW0, show w.heap.size + 1 + 1 = ((w.alloc (.cells #[.slice A t.length c] 24)).alloc (.cells #[.pointer none] 148)).heap.size by simp]; exact ((((Blk.new _ _ _).alloc _).alloc _).alloc _).alloc _
  have h3 : Blk W0 (w.heap.size + 1 + 1 + 1) 27 [.int .i64 0] := by
    rw [hW0, show w.heap.size + 1 + 1 + 1 = (((w.alloc (.cells #[.slice A t.length c] 24)).alloc (.cells #[.pointer none] 148)).alloc (.cells #[.int .i64 0, .int .i64 0] 40)).heap.size by simp]; exact (((Blk.new _ _ _).alloc _).alloc _).alloc _
  have h4 : Blk W0 (w.heap.size + 1 + 1 + 1 + 1) 177 (ltC (frmF ([] : List (GItem t w)))) := by
    rw [hW0, show w.heap.size + 1 + 1 + 1 + 1 = ((((w.alloc (.cells #[.slice A t.length c] 24)).alloc (.cells #[.pointer none] 148)).alloc (.cells #[.int .i64 0, .int .i64 0] 40)).alloc (.cells #[.int .i64 0] 27)).heap.size by simp, ltC_zero]
    exact ((Blk.new _ _ _).alloc _).alloc _
  have h5 : Blk W0 (w.heap.size + 1 + 1 + 1 + 1 + 1) 148 [.pointer (some ⟨w.heap.size + 1 + 1 + 1 + 1, 0, none⟩)] := by
    rw [hW0, show w.heap.size + 1 + 1 + 1 + 1 + 1 = (((((w.alloc (.cells #[.slice A t.length c] 24)).alloc (.cells #[.pointer none] 148)).alloc (.cells #[.int .i64 0, .int .i64 0] 40)).alloc (.cells #[.int .i64 0] 27)).alloc (.cells Tryz.zeroCells177 177)).heap.size by simp]; exact (Blk.new _ _ _).alloc _
  have h6 : Blk W0 (w.heap.size + 1 + 1 + 1 + 1 + 1 + 1) 24 [.slice A t.length c] := by
    rw [hW0, show w.heap.size + 1 + 1 + 1 + 1 + 1 + 1 = ((((((w.alloc (.cells #[.slice A t.length c] 24)).alloc (.cells #[.pointer none] 148)).alloc (.cells #[.int .i64 0, .int .i64 0] 40)).alloc (.cells #[.int .i64 0] 27)).alloc (.cells Tryz.zeroCells177 177)).alloc (.cells #[.pointer (some ⟨w.heap.size + 1 + 1 + 1 + 1, 0, none⟩)] 148)).heap.size by simp]; exact Blk.new _ _ _
  have hw0 : w.heap.size + 7 = W0.heap.size := HS0.out.symm
  have HW0 := Lib.hid hW0
  refine (callsIn_wide (n := 9)).1 ?_
  refine callsIn_of_wp_marks Tryz.func91 rfl trivial ?_ rfl
  simp only [Tryz.ntmps91, List.size_toArray, List.length_cons, List.length_nil, Nat.reduceAdd, Nat.reduceSub, Array.replicate_succ, Array.replicate_zero, List.push_toArray, List.append_toArray, List.nil_append, List.cons_append]
  clear hW0
  gi_wp2_with (refine ⟨trivial, ?_⟩; gi_at_call 89; refine (events_in _ _ trivial rfl _ _ _ _).mono ?_; rintro e w' ⟨rfl, rfl⟩)
  rw [← HW0.out]
  refine wpIn_rangeFunc_ownH rfl (by decide) (gf := 117) (lb := #[.pointer (some ⟨w.heap.size + 1 + 1 + 1 + 1 + 1 + 1, 0, none⟩)]) rfl trivial (enters_of Tryz.func117 (by kernel_rfl) rfl)
    (events_stops Fence.wide 8 trivial rfl (by decide) t A c (w.heap.size + 1 + 1 + 1 + 1 + 1 + 1) w hT hs W0 HX0.out (by omega) (h6.cell 0)) belowK_t (belowK_b (by omega)) (Below.refl _ _) (fun _ => rfl)
    (fun pre W => (Blk W w.heap.size 24 [.slice A t.length c] ∧ Blk W (w.heap.size + 1) 148 [.pointer none] ∧ Blk W (w.heap.size + 1 + 1) 40 [.int .i64 0, .int .i64 0] ∧ Blk W (w.heap.size + 1 + 1 + 1) 27 [.int .i64 0] ∧ Blk W (w.heap.size + 1 + 1 + 1 + 1) 177 (ltC (frmF pre)) ∧ Blk W (w.heap.size + 1 + 1 + 1 + 1 + 1) 148 [.pointer (some ⟨w.heap.size + 1 + 1 + 1 + 1, 0, none⟩)]) ∧ Ex w W ∧ Cl pre)
    (fun cd pre W => cd = .ret ∧ ∃ a x er, pre = a ++ [x] ∧ Cl a ∧ Blk W (w.heap.size + 1) 148 [.pointer none] ∧ Blk W (w.heap.size + 1 + 1) 40 [.int .i64 x.1.p, .int .i64 ((x.1.i : Int) + 1)] ∧ Blk W (w.heap.size + 1 + 1 + 1) 27 [.int .i64 (er : Nat)] ∧ ((er = 8 ∧ x.1.e.kind ≠ 1 ∧ ∃ z ∈ a, z.1.e.kind = x.1.e.kind ∧ z.1.e.msg = x.1.e.msg) ∨ (er = 7 ∧ x.1.e.kind = 3 ∧ (∀ z ∈ a, ¬ (z.1.e.kind = x.1.e.kind ∧ z.1.e.msg = x.1.e.msg)) ∧ ¬ Snds t x.1.e.peer x.1.e.msg (x.1.p : Int))) ∧ Ex w W)
    (fun s X Y row hs hg hr => ⟨⟨hs.1.1.own hg hr, hs.1.2.1.own hg hr, hs.1.2.2.1.own hg hr, hs.1.2.2.2.1.own hg hr, hs.1.2.2.2.2.1.own hg hr, hs.1.2.2.2.2.2.own hg hr⟩, hs.2.1.own (by omega) hg hr, hs.2.2⟩)
    (fun cd s X Y row hs hg hr => by
      obtain ⟨h1, a, x, er, h2, h3, h4, h5, h6, h7, h8⟩ := hs
      exact ⟨h1, a, x, er, h2, h3, h4.own hg hr, h5.own hg hr, h6.own hg hr, h7, h8.own (by omega) hg hr⟩)
    ⟨⟨h0, h1, h2, h3, h4, h5⟩, HX0.out, Cl.nil⟩
    (fun x a' W => ∃ b1 b2, w.heap.size + 6 ≤ b1 ∧ w.heap.size + 6 ≤ b2 ∧ Blk W b1 40 [.int .i64 x.1.p, .int .i64 ((x.1.i : Int) + 1)] ∧ Blk W b2 38 [.int .i64 x.1.e.kind, .int .i64 x.1.e.peer, .int .i64 x.1.e.msg, .int .i64 x.1.e.time, .slice x.1.B x.1.e.asg.length x.1.bc] ∧ a' = { tmps := #[.agg #[.slice A t.length c], .pointer (some ⟨w.heap.size, 0, none⟩), .pointer (some ⟨w.heap.size + 1, 0, none⟩), .pointer (some ⟨w.heap.size + 1 + 1, 0, none⟩), .pointer (some ⟨w.heap.size + 1 + 1 + 1, 0, none⟩), .pointer (some ⟨w.heap.size + 1 + 1 + 1 + 1 + 1, 0, none⟩), .pointer (some ⟨b1, 0, none⟩), .pointer (some ⟨b2, 0, none⟩), undef, .agg Tryz.zeroCells177, .pointer (some ⟨w.heap.size + 1 + 1 + 1 + 1, 0, none⟩), .agg #[.slice A t.length c], .func (.func 117) #[] #[.pointer (some ⟨w.heap.size + 1 + 1 + 1 + 1 + 1 + 1, 0, none⟩)], .agg #[.int .i64 x.1.p, .int .i64 ((x.1.i : Int) + 1)], .agg #[.int .i64 x.1.e.kind, .int .i64 x.1.e.peer, .int .i64 x.1.e.msg, .int .i64 x.1.e.time, .slice x.1.B x.1.e.asg.length x.1.bc], undef, undef, undef, undef, undef, undef, undef, undef, undef, undef, undef, undef, undef, undef, undef, undef, undef, undef, undef, undef, undef, undef, undef, undef, undef, undef, undef, undef, undef, undef, undef, undef, undef, undef, undef, undef, undef, undef, undef, undef, undef, undef, undef, undef, undef, undef, undef, undef, undef], defers := [] })
    (fun x a' u X Y row hs hg hr => by
      obtain ⟨b1, b2, q1, q2, q3, q4, q5⟩ := hs
      exact ⟨b1, b2, q1, q2, q3.own hg hr, q4.own hg hr, q5⟩)
    ?assign ?body ?done ?stop
  case assign =>
    rintro l pre x W K ⟨⟨g0, g1, g2, g3, g4, g5⟩, gX, gC⟩ hK
    have hsz := g5.lt
    unfold encI
    gi_wp2
    exact hK _ _ (((KeepsOthers.alloc _ _).trans (KeepsOthers.alloc _ _)).from _) (((Below.refl _ W).alloc (by omega) _).alloc (by simp; omega) _)
      ⟨⟨(g0.alloc _).alloc _, (g1.alloc _).alloc _, (g2.alloc _).alloc _, (g3.alloc _).alloc _, (g4.alloc _).alloc _, (g5.alloc _).alloc _⟩, (gX.alloc _).alloc _, gC⟩
      ⟨W.heap.size, W.heap.size + 1, by omega, by omega, (Blk.new W _ _).alloc _, by simpa using Blk.new (W.alloc (.cells #[.int .i64 x.1.p, .int .i64 ((x.1.i : Int) + 1)] 40)) 38 [.int .i64 x.1.e.kind, .int .i64 x.1.e.peer, .int .i64 x.1.e.msg, .int .i64 x.1.e.time, .slice x.1.B x.1.e.asg.length x.1.bc], rfl⟩
  case body =>
    rintro l pre x a' W hl - ⟨⟨g0, g1, g2, g3, g4, g5⟩, gX, gC⟩ ⟨b1, b2, hb1, hb2, qI, qE, rfl⟩ -
    have e0 := qE.cell 0
    have e1 := qE.cell 1
    have e2 := qE.cell 2
    have el := qE.lt
    have hfr := HFr.out x
    have hmx : Tryz.prog.follows .mixedOrders = true := by kernel_rfl
    by_cases k1 : x.1.e.kind = 1
    · have s2 : (x.1.e.kind == 2) = false := by simp [k1]
      have s3 : (x.1.e.kind == 3) = false := by simp [k1]
      have hF : frmF (pre ++ [x]) = frmF pre := by
        funext m
        unfold frmF
        rw [frm_snoc, frm_snoc, k1]
        have q2 : ∀ k, (if 0 < (frm pre k (m : Int)).2 then frm pre k (m : Int) else (0, 0)) = frm pre k (m : Int) := fun k => by
          split
          · rfl
          · rename_i h
            exact (frm_none (fun z hz hh => h (frm_pos ⟨z, hz, hh⟩))).symm
        simp [q2]
      have HI : Hid ((Blk W w.heap.size 24 [.slice A t.length c] ∧ Blk W (w.heap.size + 1) 148 [.pointer none] ∧ Blk W (w.heap.size + 1 + 1) 40 [.int .i64 0, .int .i64 0] ∧ Blk W (w.heap.size + 1 + 1 + 1) 27 [.int .i64 0] ∧ Blk W (w.heap.size + 1 + 1 + 1 + 1) 177 (ltC (frmF (pre ++ [x]))) ∧ Blk W (w.heap.size + 1 + 1 + 1 + 1 + 1) 148 [.pointer (some ⟨w.heap.size + 1 + 1 + 1 + 1, 0, none⟩)]) ∧ Ex w W ∧ Cl (pre ++ [x])) :=
        ⟨⟨g0, g1, g2, g3, by rw [hF]; exact g4, g5⟩, gX, gC.snoc (.inl k1)⟩
      clear k1 hF hfr g0 g1 g2 g3 g4 g5
      gi_wp2
      exact ⟨KeepsFrom.refl _ _, Below.refl _ _, HI.out⟩
    · unfold frmB at hfr
      rw [if_neg k1] at hfr
      simp only [Bool.and_eq_true, decide_eq_true_eq, Bool.not_eq_true', decide_eq_false_iff_not] at hfr
      obtain ⟨⟨⟨h23, hp0, hp1⟩, hp2⟩, hm0, hm1⟩ := hfr
      obtain ⟨m, hm⟩ := Int.eq_ofNat_of_zero_le hm0
      have hm2 : m < 200 := by omega
      have n0 : (0 : Int) ≤ (m : Int) := by omega
      have n1 : (m : Int) < 200 := by omega
      obtain ⟨r1, r2, r3, r4⟩ := ltC_get (frmF pre) hm2
      have v2 : W.cell? ⟨w.heap.size + 1 + 1 + 1 + 1, m * 4 + 1, none⟩ = some (.int .i64 ((frm pre 2 (m : Int)).2 : Nat)) := (g4.cell _).trans r2
      have v4 : W.cell? ⟨w.heap.size + 1 + 1 + 1 + 1, m * 4 + 3, none⟩ = some (.int .i64 ((frm pre 3 (m : Int)).2 : Nat)) := (g4.cell _).trans r4
      have v1 : W.cell? ⟨w.heap.size + 1 + 1 + 1 + 1, m * 4, none⟩ = some (.int .i64 ((frm pre 2 (m : Int)).1 : Nat)) := (g4.cell _).trans r1
      have v3 : W.cell? ⟨w.heap.size + 1 + 1 + 1 + 1, m * 4 + 2, none⟩ = some (.int .i64 ((frm pre 3 (m : Int)).1 : Nat)) := (g4.cell _).trans r3
      have p5 := g5.cell 0
      have l4 := g4.lt
      have l5 := g5.lt
      have i0 := qI.cell 0
      have i1 := qI.cell 1
      have il := qI.lt
      have x0 := g0.cell 0
      have xl := g0.lt
      rw [hm] at e2
      rcases h23 with k2 | k3
      · have s2 : (x.1.e.kind == 2) = true := by simp [k2]
        by_cases hd : 0 < (frm pre 2 (m : Int)).2
        · have t1 : decide (0 < ((frm pre 2 (m : Int)).2 : Int)) = true := decide_eq_true (by omega)
          have hdup := (frm_iff pre 2 (m : Int)).1 hd
          have c1 := g1.cell 0
          have c2 := g2.cell 0
          have c3 := g2.cell 1
          have c4 := g3.cell 0
          have f1 := g1.frozen 0
          have f2 := g2.frozen 0
          have f3 := g2.frozen 1
          have f4 := g3.frozen 0
          have ll1 := g1.lt
          have ll2 := g2.lt
          have ll3 := g3.lt
          have d1 : b1 ≠ w.heap.size + 1 := by omega
          have d2 : b1 ≠ w.heap.size + 1 + 1 := by omega
          have d3 : b1 ≠ w.heap.size + 1 + 1 + 1 := by omega
          have d4 : w.heap.size + 1 ≠ b1 := by omega
          have d5 : w.heap.size + 1 + 1 ≠ b1 := by omega
          have d6 : w.heap.size + 1 + 1 + 1 ≠ b1 := by omega
          have HM := Lib.hid (msg_ret (v1 := .pointer none) (p := .int .i64 (x.1.p : Nat)) (i := .int .i64 ((x.1.i : Int) + 1)) (er := .int .i64 ((8 : Nat) : Int)) g1 g2 g3 gX)
          clear g0 g1 g2 g3 g4 g5 gX r1 r2 r3 r4
          gi_wp2
          gi_region
          all_goals
            gi_wp2
            first
            | exact ⟨HM.out.2.2.2.2.from _, rfl, pre, x, 8, rfl, gC, HM.out.1, HM.out.2.1, HM.out.2.2.1, .inl ⟨rfl, k1, by rw [k2, hm]; exact hdup⟩, HM.out.2.2.2.1⟩
            | exact ⟨(HM.out.2.2.2.2.trans (KeepsOthers.drew _)).from _, rfl, pre, x, 8, rfl, gC, HM.out.1, HM.out.2.1, HM.out.2.2.1, .inl ⟨rfl, k1, by rw [k2, hm]; exact hdup⟩, HM.out.2.2.2.1.drew⟩
        · have t1 : decide (0 < ((frm pre 2 (m : Int)).2 : Int)) = false := decide_eq_false (by omega)
          have HOk : Hid (okAt pre x) := .inr ⟨fun z hz hh => hd ((frm_iff pre 2 (m : Int)).2 ⟨z, hz, by rw [hh.1, k2], by rw [hh.2, hm]⟩), fun h => absurd h (by rw [k2]; decide)⟩
          have f1 := g4.frozen (m * 4)
          have f2 := g4.frozen (m * 4 + 1)
          have d1 : b1 ≠ w.heap.size + 1 + 1 + 1 + 1 := by omega
          have d4 : w.heap.size + 1 + 1 + 1 + 1 ≠ b1 := by omega
          have hN : ltC (frmF (pre ++ [x])) = ((ltC (frmF pre)).set (m * 4) (.int .i64 (x.1.p : Nat))).set (m * 4 + 1) (.int .i64 ((x.1.i : Int) + 1)) := by
            have hg : (frmF (pre ++ [x]) m).1 = (x.1.p, x.1.i + 1) := frm_new hd ⟨k2, hm⟩
            have hj : ∀ j, j ≠ m → frmF pre j = frmF (pre ++ [x]) j := fun j hj => by
              unfold frmF
              rw [frm_other (fun h => hj (by have := h.2; omega)), frm_other (fun h => hj (by have := h.2; omega))]
            have ho : (frmF pre m).2 = (frmF (pre ++ [x]) m).2 := (frm_other (fun h => by have := h.1; rw [k2] at this; cases this)).symm
            rw [← ltC_set1 hm2 hj ho, hg]
            simp
          have HI : Hid (∀ W', (W' = (W.setCell ⟨w.heap.size + 1 + 1 + 1 + 1, m * 4, none⟩ (.int .i64 (x.1.p : Nat))).setCell ⟨w.heap.size + 1 + 1 + 1 + 1, m * 4 + 1, none⟩ (.int .i64 ((x.1.i : Int) + 1))) → (Blk W' w.heap.size 24 [.slice A t.length c] ∧ Blk W' (w.heap.size + 1) 148 [.pointer none] ∧ Blk W' (w.heap.size + 1 + 1) 40 [.int .i64 0, .int .i64 0] ∧ Blk W' (w.heap.size + 1 + 1 + 1) 27 [.int .i64 0] ∧ Blk W' (w.heap.size + 1 + 1 + 1 + 1) 177 (ltC (frmF (pre ++ [x]))) ∧ Blk W' (w.heap.size + 1 + 1 + 1 + 1 + 1) 148 [.pointer (some ⟨w.heap.size + 1 + 1 + 1 + 1, 0, none⟩)]) ∧ Ex w W' ∧ Cl (pre ++ [x])) := fun W' hW' => by
            subst hW'
            have hf : ∀ (g ty : Nat) (cs : List Value), Blk W g ty cs → g ≠ w.heap.size + 1 + 1 + 1 + 1 → Blk ((W.setCell ⟨w.heap.size + 1 + 1 + 1 + 1, m * 4, none⟩ (.int .i64 (x.1.p : Nat))).setCell ⟨w.heap.size + 1 + 1 + 1 + 1, m * 4 + 1, none⟩ (.int .i64 ((x.1.i : Int) + 1))) g ty cs := fun g ty cs h hne => (h.far (p := ⟨w.heap.size + 1 + 1 + 1 + 1, m * 4, none⟩) hne _).far (p := ⟨w.heap.size + 1 + 1 + 1 + 1, m * 4 + 1, none⟩) hne _
            refine ⟨⟨hf _ _ _ g0 (by omega), hf _ _ _ g1 (by omega), hf _ _ _ g2 (by omega), hf _ _ _ g3 (by omega), by rw [hN]; exact (g4.set_ _ _).set_ _ _, hf _ _ _ g5 (by omega)⟩, (gX.setCell (p := ⟨w.heap.size + 1 + 1 + 1 + 1, m * 4, none⟩) (by show _ ≤ w.heap.size + 1 + 1 + 1 + 1; omega) _).setCell (p := ⟨w.heap.size + 1 + 1 + 1 + 1, m * 4 + 1, none⟩) (by show _ ≤ w.heap.size + 1 + 1 + 1 + 1; omega) _, gC.snoc HOk.out⟩
          clear g0 g1 g2 g3 g4 g5 gX r1 r2 r3 r4 hN
          gi_wp2
          gi_region
          all_goals
            gi_wp2
            have hI := HI.out _ rfl
            first
            | exact ⟨((KeepsOthers.setCell W _ _).trans (KeepsOthers.setCell _ _ _)).from _, ((Below.refl _ W).setCell (p := ⟨w.heap.size + 1 + 1 + 1 + 1, m * 4, none⟩) (by show _ ≤ w.heap.size + 1 + 1 + 1 + 1; omega) _).setCell (p := ⟨w.heap.size + 1 + 1 + 1 + 1, m * 4 + 1, none⟩) (by show _ ≤ w.heap.size + 1 + 1 + 1 + 1; omega) _, hI⟩
            | exact ⟨(((KeepsOthers.setCell W _ _).trans (KeepsOthers.setCell _ _ _)).trans (KeepsOthers.drew _)).from _, (((Below.refl _ W).setCell (p := ⟨w.heap.size + 1 + 1 + 1 + 1, m * 4, none⟩) (by show _ ≤ w.heap.size + 1 + 1 + 1 + 1; omega) _).setCell (p := ⟨w.heap.size + 1 + 1 + 1 + 1, m * 4 + 1, none⟩) (by show _ ≤ w.heap.size + 1 + 1 + 1 + 1; omega) _).drew, hI.1, hI.2.1.drew, hI.2.2⟩
      · have s2 : (x.1.e.kind == 2) = false := by simp [k3]
        have s3 : (x.1.e.kind == 3) = true := by simp [k3]
        by_cases hd : 0 < (frm pre 3 (m : Int)).2
        · have t1 : decide (0 < ((frm pre 3 (m : Int)).2 : Int)) = true := decide_eq_true (by omega)
          have hdup := (frm_iff pre 3 (m : Int)).1 hd
          have c1 := g1.cell 0
          have c2 := g2.cell 0
          have c3 := g2.cell 1
          have c4 := g3.cell 0
          have f1 := g1.frozen 0
          have f2 := g2.frozen 0
          have f3 := g2.frozen 1
          have f4 := g3.frozen 0
          have ll1 := g1.lt
          have ll2 := g2.lt
          have ll3 := g3.lt
          have d1 : b1 ≠ w.heap.size + 1 := by omega
          have d2 : b1 ≠ w.heap.size + 1 + 1 := by omega
          have d3 : b1 ≠ w.heap.size + 1 + 1 + 1 := by omega
          have d4 : w.heap.size + 1 ≠ b1 := by omega
          have d5 : w.heap.size + 1 + 1 ≠ b1 := by omega
          have d6 : w.heap.size + 1 + 1 + 1 ≠ b1 := by omega
          have HM := Lib.hid (msg_ret (v1 := .pointer none) (p := .int .i64 (x.1.p : Nat)) (i := .int .i64 ((x.1.i : Int) + 1)) (er := .int .i64 ((8 : Nat) : Int)) g1 g2 g3 gX)
          clear g0 g1 g2 g3 g4 g5 gX r1 r2 r3 r4
          gi_wp2
          gi_region
          all_goals
            gi_wp2
            first
            | exact ⟨HM.out.2.2.2.2.from _, rfl, pre, x, 8, rfl, gC, HM.out.1, HM.out.2.1, HM.out.2.2.1, .inl ⟨rfl, k1, by rw [k3, hm]; exact hdup⟩, HM.out.2.2.2.1⟩
            | exact ⟨(HM.out.2.2.2.2.trans (KeepsOthers.drew _)).from _, rfl, pre, x, 8, rfl, gC, HM.out.1, HM.out.2.1, HM.out.2.2.1, .inl ⟨rfl, k1, by rw [k3, hm]; exact hdup⟩, HM.out.2.2.2.1.drew⟩
        · have t1 : decide (0 < ((frm pre 3 (m : Int)).2 : Int)) = false := decide_eq_false (by omega)
          obtain ⟨q, hq⟩ := Int.eq_ofNat_of_zero_le hp0
          have hql : q < t.length := by omega
          obtain ⟨y, hy⟩ : ∃ y, t[q]? = some y := ⟨_, List.getElem?_eq_getElem hql⟩
          have HS1 := Lib.hid (HSn.out q (m : Int) (x.1.p : Int) y W gX hy)
          have hnd : ∀ z ∈ pre, ¬ (z.1.e.kind = x.1.e.kind ∧ z.1.e.msg = x.1.e.msg) := fun z hz hh => hd ((frm_iff pre 3 (m : Int)).2 ⟨z, hz, by rw [hh.1, k3], by rw [hh.2, hm]⟩)
          have hsn : Snds t x.1.e.peer x.1.e.msg (x.1.p : Int) ↔ y.evs.any (sndB (m : Int) (x.1.p : Int)) = true := by rw [hq, hm]; exact snds_any hy _ _
          rw [hq] at e1
          generalize hsb : y.evs.any (sndB (m : Int) (x.1.p : Int)) = sb at *
          cases sb with
          | false =>
            have hns : ¬ Snds t x.1.e.peer x.1.e.msg (x.1.p : Int) := fun h => by have := hsn.1 h; cases this
            clear hsn hsb hy
            have hwW : w.heap.size ≤ W.heap.size := gX.below.size
            gi_wp2_with (refine ⟨trivial, ?_⟩; gi_at_call 121; refine (CallsIn.inRound l (callsIn_wide.2 HS1.out)).mono ?_; rintro e w' ⟨rfl, z, rfl⟩)
            generalize hW4 : ext W z = W4
            have hxz : Ex W W4 := by rw [← hW4]; exact ⟨z, rfl⟩
            have hbz : Below w.heap.size W W4 := hxz.below.mono hwW
            replace g0 := g0.ex hxz
            replace g1 := g1.ex hxz
            replace g2 := g2.ex hxz
            replace g3 := g3.ex hxz
            replace g4 := g4.ex hxz
            replace g5 := g5.ex hxz
            replace qI := qI.ex hxz
            replace gX := gX.trans hxz
            clear hW4 z v1 v2 v3 v4 p5 l4 l5 i0 i1 il x0 xl e0 e1 e2 el
            have p5 := g5.cell 0
            have l4 := g4.lt
            have l5 := g5.lt
            have i0 := qI.cell 0
            have i1 := qI.cell 1
            have il := qI.lt
            have v3 : W4.cell? ⟨w.heap.size + 1 + 1 + 1 + 1, m * 4 + 2, none⟩ = some (.int .i64 ((frm pre 3 (m : Int)).1 : Nat)) := (g4.cell _).trans r3
            have v4 : W4.cell? ⟨w.heap.size + 1 + 1 + 1 + 1, m * 4 + 3, none⟩ = some (.int .i64 ((frm pre 3 (m : Int)).2 : Nat)) := (g4.cell _).trans r4
            have c1 := g1.cell 0
            have c2 := g2.cell 0
            have c3 := g2.cell 1
            have c4 := g3.cell 0
            have f1 := g1.frozen 0
            have f2 := g2.frozen 0
            have f3 := g2.frozen 1
            have f4 := g3.frozen 0
            have ll1 := g1.lt
            have ll2 := g2.lt
            have ll3 := g3.lt
            have d1 : b1 ≠ w.heap.size + 1 := by omega
            have d2 : b1 ≠ w.heap.size + 1 + 1 := by omega
            have d3 : b1 ≠ w.heap.size + 1 + 1 + 1 := by omega
            have d4 : w.heap.size + 1 ≠ b1 := by omega
            have d5 : w.heap.size + 1 + 1 ≠ b1 := by omega
            have d6 : w.heap.size + 1 + 1 + 1 ≠ b1 := by omega
            have HM := Lib.hid (msg_ret (v1 := .pointer none) (p := .int .i64 (x.1.p : Nat)) (i := .int .i64 ((x.1.i : Int) + 1)) (er := .int .i64 ((7 : Nat) : Int)) g1 g2 g3 gX)
            clear g0 g1 g2 g3 g4 g5 gX r1 r2 r3 r4
            gi_region
            all_goals
              gi_wp2
              first
              | exact ⟨(hxz.keeps.trans HM.out.2.2.2.2).from _, rfl, pre, x, 7, rfl, gC, HM.out.1, HM.out.2.1, HM.out.2.2.1, .inr ⟨rfl, k3, hnd, hns⟩, HM.out.2.2.2.1⟩
              | exact ⟨((hxz.keeps.trans HM.out.2.2.2.2).trans (KeepsOthers.drew _)).from _, rfl, pre, x, 7, rfl, gC, HM.out.1, HM.out.2.1, HM.out.2.2.1, .inr ⟨rfl, k3, hnd, hns⟩, HM.out.2.2.2.1.drew⟩
          | true =>
            have HOk : Hid (okAt pre x) := .inr ⟨hnd, fun _ => hsn.2 rfl⟩
            clear hsn hsb hy
            have hwW : w.heap.size ≤ W.heap.size := gX.below.size
            gi_wp2_with (refine ⟨trivial, ?_⟩; gi_at_call 121; refine (CallsIn.inRound l (callsIn_wide.2 HS1.out)).mono ?_; rintro e w' ⟨rfl, z, rfl⟩)
            generalize hW4 : ext W z = W4
            have hxz : Ex W W4 := by rw [← hW4]; exact ⟨z, rfl⟩
            have hbz : Below w.heap.size W W4 := hxz.below.mono hwW
            replace g0 := g0.ex hxz
            replace g1 := g1.ex hxz
            replace g2 := g2.ex hxz
            replace g3 := g3.ex hxz
            replace g4 := g4.ex hxz
            replace g5 := g5.ex hxz
            replace qI := qI.ex hxz
            replace gX := gX.trans hxz
            clear hW4 z v1 v2 v3 v4 p5 l4 l5 i0 i1 il x0 xl e0 e1 e2 el
            have p5 := g5.cell 0
            have l4 := g4.lt
            have l5 := g5.lt
            have i0 := qI.cell 0
            have i1 := qI.cell 1
            have il := qI.lt
            have v3 : W4.cell? ⟨w.heap.size + 1 + 1 + 1 + 1, m * 4 + 2, none⟩ = some (.int .i64 ((frm pre 3 (m : Int)).1 : Nat)) := (g4.cell _).trans r3
            have v4 : W4.cell? ⟨w.heap.size + 1 + 1 + 1 + 1, m * 4 + 3, none⟩ = some (.int .i64 ((frm pre 3 (m : Int)).2 : Nat)) := (g4.cell _).trans r4
            have f1 := g4.frozen (m * 4 + 2)
            have f2 := g4.frozen (m * 4 + 3)
            have d1 : b1 ≠ w.heap.size + 1 + 1 + 1 + 1 := by omega
            have d4 : w.heap.size + 1 + 1 + 1 + 1 ≠ b1 := by omega
            have hN : ltC (frmF (pre ++ [x])) = ((ltC (frmF pre)).set (m * 4 + 2) (.int .i64 (x.1.p : Nat))).set (m * 4 + 3) (.int .i64 ((x.1.i : Int) + 1)) := by
              have hg : (frmF (pre ++ [x]) m).2 = (x.1.p, x.1.i + 1) := frm_new hd ⟨k3, hm⟩
              have hj : ∀ j, j ≠ m → frmF pre j = frmF (pre ++ [x]) j := fun j hj => by
                unfold frmF
                rw [frm_other (fun h => hj (by have := h.2; omega)), frm_other (fun h => hj (by have := h.2; omega))]
              have ho : (frmF pre m).1 = (frmF (pre ++ [x]) m).1 := (frm_other (fun h => by have := h.1; rw [k3] at this; cases this)).symm
              rw [← ltC_set2 hm2 hj ho, hg]
              simp
            have HI : Hid (∀ W', (W' = (W4.setCell ⟨w.heap.size + 1 + 1 + 1 + 1, m * 4 + 2, none⟩ (.int .i64 (x.1.p : Nat))).setCell ⟨w.heap.size + 1 + 1 + 1 + 1, m * 4 + 3, none⟩ (.int .i64 ((x.1.i : Int) + 1))) → (Blk W' w.heap.size 24 [.slice A t.length c] ∧ Blk W' (w.heap.size + 1) 148 [.pointer none] ∧ Blk W' (w.heap.size + 1 + 1) 40 [.int .i64 0, .int .i64 0] ∧ Blk W' (w.heap.size + 1 + 1 + 1) 27 [.int .i64 0] ∧ Blk W' (w.heap.size + 1 + 1 + 1 + 1) 177 (ltC (frmF (pre ++ [x]))) ∧ Blk W' (w.heap.size + 1 + 1 + 1 + 1 + 1) 148 [.pointer (some ⟨w.heap.size + 1 + 1 + 1 + 1, 0, none⟩)]) ∧ Ex w W' ∧ Cl (pre ++ [x])) := fun W' hW' => by
              subst hW'
              have hf : ∀ (g ty : Nat) (cs : List Value), Blk W4 g ty cs → g ≠ w.heap.size + 1 + 1 + 1 + 1 → Blk ((W4.setCell ⟨w.heap.size + 1 + 1 + 1 + 1, m * 4 + 2, none⟩ (.int .i64 (x.1.p : Nat))).setCell ⟨w.heap.size + 1 + 1 + 1 + 1, m * 4 + 3, none⟩ (.int .i64 ((x.1.i : Int) + 1))) g ty cs := fun g ty cs h hne => (h.far (p := ⟨w.heap.size + 1 + 1 + 1 + 1, m * 4 + 2, none⟩) hne _).far (p := ⟨w.heap.size + 1 + 1 + 1 + 1, m * 4 + 3, none⟩) hne _
              refine ⟨⟨hf _ _ _ g0 (by omega), hf _ _ _ g1 (by omega), hf _ _ _ g2 (by omega), hf _ _ _ g3 (by omega), by rw [hN]; exact (g4.set_ _ _).set_ _ _, hf _ _ _ g5 (by omega)⟩, (gX.setCell (p := ⟨w.heap.size + 1 + 1 + 1 + 1, m * 4 + 2, none⟩) (by show _ ≤ w.heap.size + 1 + 1 + 1 + 1; omega) _).setCell (p := ⟨w.heap.size + 1 + 1 + 1 + 1, m * 4 + 3, none⟩) (by show _ ≤ w.heap.size + 1 + 1 + 1 + 1; omega) _, gC.snoc HOk.out⟩
            clear g0 g1 g2 g3 g4 g5 gX r1 r2 r3 r4 hN
            gi_region
            all_goals
              gi_wp2
              have hI := HI.out _ rfl
              first
              | exact ⟨(hxz.keeps.trans ((KeepsOthers.setCell W4 _ _).trans (KeepsOthers.setCell _ _ _))).from _, (hbz.setCell (p := ⟨w.heap.size + 1 + 1 + 1 + 1, m * 4 + 2, none⟩) (by show _ ≤ w.heap.size + 1 + 1 + 1 + 1; omega) _).setCell (p := ⟨w.heap.size + 1 + 1 + 1 + 1, m * 4 + 3, none⟩) (by show _ ≤ w.heap.size + 1 + 1 + 1 + 1; omega) _, hI⟩
              | exact ⟨(hxz.keeps.trans (((KeepsOthers.setCell W4 _ _).trans (KeepsOthers.setCell _ _ _)).trans (KeepsOthers.drew _))).from _, ((hbz.setCell (p := ⟨w.heap.size + 1 + 1 + 1 + 1, m * 4 + 2, none⟩) (by show _ ≤ w.heap.size + 1 + 1 + 1 + 1; omega) _).setCell (p := ⟨w.heap.size + 1 + 1 + 1 + 1, m * 4 + 3, none⟩) (by show _ ≤ w.heap.size + 1 + 1 + 1 + 1; omega) _).drew, hI.1, hI.2.1.drew, hI.2.2⟩
  case done =>
    rintro D xs W hD hA ⟨⟨g0, g1, g2, g3, g4, g5⟩, gX, gC⟩ hK
    have p5 := g5.cell 0
    have l5 := g5.lt
    have c1 := g1.cell 0
    have c2 := g2.cell 0
    have c3 := g2.cell 1
    have c4 := g3.cell 0
    have f1 := g1.frozen 0
    have f2 := g2.frozen 0
    have f3 := g2.frozen 1
    have f4 := g3.frozen 0
    have ll1 := g1.lt
    have ll2 := g2.lt
    have ll3 := g3.lt
    have HM := Lib.hid (msg_ret (v1 := .pointer (some ⟨w.heap.size + 1 + 1 + 1 + 1, 0, none⟩)) (p := .int .i64 0) (i := .int .i64 0) (er := .int .i64 0) g1 g2 g3 gX)
    have HK := Lib.hid (HM.out.2.2.2.2.same D _ hK rfl)
    have HL := Lib.hid ((((g4.far (p := ⟨w.heap.size + 1, 0, none⟩) (by show _ ≠ w.heap.size + 1; omega) (.pointer (some ⟨w.heap.size + 1 + 1 + 1 + 1, 0, none⟩))).far (p := ⟨w.heap.size + 1 + 1, 0, none⟩) (by show _ ≠ w.heap.size + 1 + 1; omega) (.int .i64 0)).far (p := ⟨w.heap.size + 1 + 1, 1, none⟩) (by show _ ≠ w.heap.size + 1 + 1; omega) (.int .i64 0)).far (p := ⟨w.heap.size + 1 + 1 + 1, 0, none⟩) (by show _ ≠ w.heap.size + 1 + 1 + 1; omega) (.int .i64 0))
    have HFm : Hid (frmF xs = fun m : Nat => (findO t 2 (m : Int), findO t 3 (m : Int))) := by
      funext m
      unfold frmF
      rw [frm_all hA, frm_all hA]
    have HPr : Hid (∀ x, InT t x → pairE t x = 0) := fun y hy => by
      obtain ⟨x, hx, he⟩ := all_item hA hy
      rw [← he]
      exact cl_pair (p := t.length) (j := 0) hA gC hx
    rw [HFm.out] at HL
    clear g0 g1 g2 g3 g4 g5 gX gC hA HFr HSn
    gi_wp2
    refine ⟨by simp, .inl ⟨_, _, rfl, run_takeDeferred HK.out, ?_⟩⟩
    exact ⟨_, results_msg rfl rfl rfl rfl (HM.out.1.put HK.out _) (HM.out.2.1.put HK.out _) (HM.out.2.2.1.put HK.out _), .inl ⟨_, rfl, HL.out.put HK.out _, HPr.out, HM.out.2.2.2.1.put (by omega) _⟩⟩
  case stop =>
    rintro D cd pre W hD hS ⟨rfl, a, x, er, rfl, gC, g1, g2, g3, hw, gX⟩ hK
    have HR : Hid (IsF t (fun x => pairE t x ≠ 0) (x.1.p, x.1.i + 1) ∧ pairE t (x.1.p, x.1.i + 1) = er) := by
      have hu := upto_some hS
      have hv : pairE t (x.1.p, x.1.i + 1) = er := by
        rcases hw with ⟨rfl, h1, h2⟩ | ⟨rfl, h1, h2, h3⟩
        · exact pair_dup hu h1 h2
        · exact pair_lost hu h1 h2 h3
      refine ⟨⟨item_in x, ?_, fun y hy hb hn => ?_⟩, hv⟩
      · show pairE t (x.1.p, x.1.i + 1) ≠ 0
        rw [hv]
        rcases hw with ⟨rfl, -⟩ | ⟨rfl, -⟩ <;> decide
      · obtain ⟨z, hz, he⟩ := upto_item hu hy hb
        rw [← he] at hn
        exact hn (cl_pair hu gC hz)
    clear hw hS
    gi_wp2
    refine ⟨by simp, .inl ⟨_, _, rfl, run_takeDeferred hK, ?_⟩⟩
    exact ⟨_, results_msg rfl rfl rfl rfl (g1.put hK _) (g2.put hK _) (g3.put hK _), .inr ⟨(x.1.p, x.1.i + 1), by rw [HR.out.2]; simp [idV], HR.out.1, gX.put (by omega) _⟩⟩
end Go.Proofs.YtpmponafjhnegaaGreatDoor
