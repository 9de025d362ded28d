/-
  Valid of both sides, and the program's find and Sender at valid traces, walked. Lists of numbers in memory, and the program's Valid of checkpoint lists, walked. The reference's Valid of checkpoint lists, walked. The program's messages, walked. Rows of states, the greatest one that is at most a number, and lines: plain lemmas.
  Conditions: as each theorem says.
-/
import Derived.Test.YtdenojfbdkdpiaaHt
import Derived.Test.YtdenojfbdkdpiaaHh
namespace Go.Proofs.Ytdenojfbdkdpiaa
section
open Go.RowKit Go.Shelf
noncomputable def validB (t : List Pr) : Bool := decide ((faultO t).2 = 0)
set_option maxRecDepth 20000 in
set_option maxHeartbeats 1600000 in
theorem rValid_c (t : List Pr) (A : Option Addr) (c : Nat) (w : World) (hT : TcC w A t) (hs : TSm t) :
    Calls Try.prog 34 #[.agg #[.slice A t.length c]] w (Ret w (.bool (validB t))) := by
  have HF := Lib.hid (fun w' (h : Ex w w') => rFault_c t A c w' (hT.ex h) hs)
  have HX : Hid (Ex w (w.alloc (.cells #[.slice A t.length c] 24))) := (Ex.refl w).alloc _
  unfold validB
  generalize faultO t = R at *
  have s0 : Hid (((R.2 : Int) == 0) = decide (R.2 = 0)) := by
    show _ = _
    by_cases h : R.2 = 0 <;> simp [h]
  clear hT hs
  unfold faultV idV at HF
  go_enter Try.func34, Try.ntmps34
  go_wp2_with fail
  refine (HF.out _ HX.out).mono ?_
  rintro e9 w' ⟨rfl, z, rfl⟩
  go_wp2_with fail
  go_ret
  exact Ret.mk (congrArg Value.bool s0.out) ((HX.out.ext z).alloc _)
set_option maxRecDepth 20000 in
set_option maxHeartbeats 1600000 in
theorem pValid_c (t : List Pr) (A : Option Addr) (c : Nat) (w : World) (hT : TcC w A t) (hs : TSm t) (hcap : t.length ≤ c) :
    Calls Try.prog 64 #[.agg #[.slice A t.length c]] w (Ret w (.bool (validB t))) := by
  have HF := Lib.hid (fun w' (h : Ex w w') => pFault_c t A c w' (hT.ex h) hs hcap)
  have HX : Hid (Ex w (w.alloc (.cells #[.slice A t.length c] 24))) := (Ex.refl w).alloc _
  unfold validB
  generalize faultO t = R at *
  have s0 : Hid (((R.2 : Int) == 0) = decide (R.2 = 0)) := by
    show _ = _
    by_cases h : R.2 = 0 <;> simp [h]
  clear hT hs hcap
  unfold pfaultV idV at HF
  go_enter Try.func64, Try.ntmps64
  go_wp2_with fail
  refine (HF.out _ HX.out).mono ?_
  rintro e9 w' ⟨rfl, z, rfl⟩
  go_wp2_with fail
  go_ret
  exact Ret.mk (congrArg Value.bool s0.out) ((HX.out.ext z).alloc _)
theorem results_find {fn : Func} {p q g h : Nat} {a b u : Value} {w : World} {tmps : Array Value} (hr : fn.results = #[.cell p 27, .cell q 4]) (hp : tmps.getD p undef = .pointer (some ⟨g, 0, none⟩)) (hq : tmps.getD q undef = .pointer (some ⟨h, 0, none⟩)) (hB : Blk w g 27 [a, b]) (hC : Blk w h 4 [u]) :
    (results fn tmps).run Try.prog w = .ok (.tuple #[.agg #[a, b], u]) w := by
  have h0 : w.cell? ⟨g, 0, none⟩ = some a := hB.cell 0
  have h1 : w.cell? ⟨g, 1, none⟩ = some b := hB.cell 1
  have h2 : w.cell? ⟨h, 0, none⟩ = some u := hC.cell 0
  rw [Array.getD_eq_getD_getElem?] at hp hq
  simp [results, hr, hp, hq, go_sem, h0, h1, h2]
theorem find_ret {w W : World} {a b u : Value} {p i er : Value} {r s : Nat} (hr : w.heap.size ≤ r) (hs : w.heap.size ≤ s) (hrs : r ≠ s) (g1 : Blk W r 27 [a, b]) (g2 : Blk W s 4 [u]) (gX : Ex w W) :
    Blk (((W.setCell ⟨r, 0, none⟩ p).setCell ⟨r, 1, none⟩ i).setCell ⟨s, 0, none⟩ er) r 27 [p, i] ∧
    Blk (((W.setCell ⟨r, 0, none⟩ p).setCell ⟨r, 1, none⟩ i).setCell ⟨s, 0, none⟩ er) s 4 [er] ∧
    Ex w (((W.setCell ⟨r, 0, none⟩ p).setCell ⟨r, 1, none⟩ i).setCell ⟨s, 0, none⟩ er) ∧
    KeepsOthers W (((W.setCell ⟨r, 0, none⟩ p).setCell ⟨r, 1, none⟩ i).setCell ⟨s, 0, none⟩ er) := by
  refine ⟨?_, ?_, ?_, ?_⟩
  · exact ((g1.set_ 0 p).set_ 1 i).far (p := ⟨s, 0, none⟩) (by show r ≠ s; omega) er
  · exact ((g2.far (p := ⟨r, 0, none⟩) (by show s ≠ r; omega) p).far (p := ⟨r, 1, none⟩) (by show s ≠ r; omega) i).set_ 0 er
  · exact ((gX.setCell (p := ⟨r, 0, none⟩) hr p).setCell (p := ⟨r, 1, none⟩) hr i).setCell (p := ⟨s, 0, none⟩) hs er
  · exact ((KeepsOthers.setCell W _ _).trans (KeepsOthers.setCell _ _ _)).trans (KeepsOthers.setCell _ _ _)

attribute [local go_sem] Oper.semAt_some
set_option maxRecDepth 100000 in
set_option maxHeartbeats 6400000 in
/-- find at a valid trace: the first event of a kind with a number -/
theorem find_c (t : List Pr) (A : Option Addr) (c : Nat) (k m : Int) (w : World) (hT : TcC w A t) (hs : TSm t) (hcap : t.length ≤ c) (hv : validB t = true) :
    Calls Try.prog 101 #[.agg #[.slice A t.length c], .int .i64 k, .int .i64 m] w (Ret w (.tuple #[idV (findO t k m), .bool (decide (0 < (findO t k m).2))])) := by
  have hl := hs.procs
  have HV : Hid (∀ w', Ex w w' → Calls Try.prog 64 #[.agg #[.slice A t.length c]] w' (Ret w' (.bool true))) := fun w' h => by rw [← hv]; exact pValid_c t A c w' (hT.ex h) hs hcap
  obtain ⟨W0, hW0⟩ : ∃ W0, W0 = ((((w.alloc (.cells #[.slice A t.length c] 24)).alloc (.cells #[.int .i64 k] 3)).alloc (.cells #[.int .i64 m] 3)).alloc (.cells #[.int .i64 0, .int .i64 0] 27)).alloc (.cells #[.bool false] 4) := ⟨_, rfl⟩
  have HX0 : Hid (Ex w W0) := by rw [hW0]; exact (((((Ex.refl w).alloc _).alloc _).alloc _).alloc _).alloc _
  have hsz0 : W0.heap.size = w.heap.size + 5 := by rw [hW0]; simp
  have HB0 : Hid (∀ w', Ex W0 w' → Blk w' w.heap.size 24 [.slice A t.length c]) := fun w' hx => by
    have : Blk W0 w.heap.size 24 [.slice A t.length c] := by rw [hW0]; exact ((((Blk.new w _ _).alloc _).alloc _).alloc _).alloc _
    exact this.ex hx
  have HB1 : Hid (∀ w', Ex W0 w' → Blk w' (w.heap.size + 1) 3 [.int .i64 k]) := fun w' hx => by
    have : Blk W0 (w.heap.size + 1) 3 [.int .i64 k] := by
      rw [hW0, show w.heap.size + 1 = (w.alloc (.cells #[.slice A t.length c] 24)).heap.size by simp]
      exact (((Blk.new _ _ _).alloc _).alloc _).alloc _
    exact this.ex hx
  have HB2 : Hid (∀ w', Ex W0 w' → Blk w' (w.heap.size + 1 + 1) 3 [.int .i64 m]) := fun w' hx => by
    have : Blk W0 (w.heap.size + 1 + 1) 3 [.int .i64 m] := by
      rw [hW0, show w.heap.size + 1 + 1 = ((w.alloc (.cells #[.slice A t.length c] 24)).alloc (.cells #[.int .i64 k] 3)).heap.size by simp]
      exact ((Blk.new _ _ _).alloc _).alloc _
    exact this.ex hx
  have HB3 : Hid (∀ w', Ex W0 w' → Blk w' (w.heap.size + 1 + 1 + 1) 27 [.int .i64 0, .int .i64 0]) := fun w' hx => by
    have : Blk W0 (w.heap.size + 1 + 1 + 1) 27 [.int .i64 0, .int .i64 0] := by
      rw [hW0, show w.heap.size + 1 + 1 + 1 = (((w.alloc (.cells #[.slice A t.length c] 24)).alloc (.cells #[.int .i64 k] 3)).alloc (.cells #[.int .i64 m] 3)).heap.size by simp]
      exact (Blk.new _ _ _).alloc _
    exact this.ex hx
  have HB4 : Hid (∀ w', Ex W0 w' → Blk w' (w.heap.size + 1 + 1 + 1 + 1) 4 [.bool false]) := fun w' hx => by
    have : Blk W0 (w.heap.size + 1 + 1 + 1 + 1) 4 [.bool false] := by
      rw [hW0, show w.heap.size + 1 + 1 + 1 + 1 = ((((w.alloc (.cells #[.slice A t.length c] 24)).alloc (.cells #[.int .i64 k] 3)).alloc (.cells #[.int .i64 m] 3)).alloc (.cells #[.int .i64 0, .int .i64 0] 27)).heap.size by simp]
      exact Blk.new _ _ _
    exact this.ex hx
  have HRet : Hid (∀ (W : World) (p i er : Value), Ex W0 W → _) := fun W p i er hx => find_ret (w := w) (p := p) (i := i) (er := er) (r := w.heap.size + 1 + 1 + 1) (s := w.heap.size + 1 + 1 + 1 + 1) (by omega) (by omega) (by omega) (HB3.out W hx) (HB4.out W hx) (HX0.out.trans hx)
  have HW0 := Lib.hid hW0
  have HSz0 := Lib.hid hsz0
  have HTh := Lib.hid hT
  have HN : Hid ((∀ y, InT t y → ¬ Sel t k m y) → findO t k m = (0, 0)) := find_none
  have HS : Hid (∀ x, IsF t (Sel t k m) x → findO t k m = x) := fun x h => find_first h
  generalize findO t k m = R at *
  clear hW0 hsz0 hT hcap hv
  refine (callsIn_wide (n := 9)).1 ?_
  refine callsIn_of_wp_marks Try.func101 rfl trivial ?_ rfl
  simp only [Try.ntmps101, List.size_toArray, List.length_cons, List.length_nil, Nat.reduceAdd, Nat.reduceSub, Array.replicate_succ, Array.replicate_zero, List.push_toArray, List.append_toArray, List.nil_append, List.cons_append]
  gi_wp2_with (first | (refine ⟨trivial, ?_⟩; gi_at_call 64; rw [← HW0.out]; refine (callsIn_wide.2 (HV.out _ HX0.out)).mono ?_; rintro e w' ⟨rfl, z, rfl⟩; have c0 := (HB0.out _ ⟨z, rfl⟩).cell 0; have l1 := (HB0.out _ ⟨z, rfl⟩).lt; have HX1 := Lib.hid (show Ex W0 (ext W0 z) from ⟨z, rfl⟩)) | (refine ⟨trivial, ?_⟩; gi_at_call 104; refine (events_in _ _ trivial rfl _ _ _ _).mono ?_; rintro e w' ⟨rfl, rfl⟩))
  have hb4 : Blk ((ext W0 z).alloc (.cells #[.slice A t.length c] 24)) (ext W0 z).heap.size 24 [.slice A t.length c] := Blk.new _ _ _
  have hx4 : Ex W0 ((ext W0 z).alloc (.cells #[.slice A t.length c] 24)) := HX1.out.alloc _
  have hnE : (ext W0 z).heap.size < ((ext W0 z).alloc (.cells #[.slice A t.length c] 24)).heap.size := by simp
  clear c0 l1 HX1
  generalize (ext W0 z).alloc (.cells #[.slice A t.length c] 24) = W1 at *
  generalize (ext W0 z).heap.size = nE at *
  have hs01 : W0.heap.size ≤ W1.heap.size := hx4.below.size
  have hsw := HSz0.out
  refine wpIn_rangeFunc_ownH rfl (by decide) (gf := 117) (lb := #[.pointer (some ⟨nE, 0, none⟩)]) rfl trivial (enters_of Try.func117 (by kernel_rfl) rfl)
    (events_stops Fence.wide 8 trivial rfl (by decide) t A c nE w HTh.out hs W1 (HX0.out.trans hx4) hnE (hb4.cell 0)) belowK_t (belowK_b (by omega)) (Below.refl _ _) (fun _ => rfl)
    (fun pre W => Ex W0 W ∧ ∀ y ∈ pre, ¬ (y.1.e.kind = k ∧ y.1.e.msg = m))
    (fun cd pre W => cd = .ret ∧ ∃ a x, pre = a ++ [x] ∧ (∀ y ∈ a, ¬ (y.1.e.kind = k ∧ y.1.e.msg = m)) ∧ (x.1.e.kind = k ∧ x.1.e.msg = m) ∧ Blk W (w.heap.size + 1 + 1 + 1) 27 [.int .i64 x.1.p, .int .i64 ((x.1.i : Int) + 1)] ∧ Blk W (w.heap.size + 1 + 1 + 1 + 1) 4 [.bool true] ∧ Ex w W)
    (fun s X Y row hs hg hr => ⟨hs.1.own hs01 hg hr, hs.2⟩)
    (fun cd s X Y row hs hg hr => by
      obtain ⟨h1, a, x, h2, h3, h4, h5, h6, h7⟩ := hs
      exact ⟨h1, a, x, h2, h3, h4, h5.own hg hr, h6.own hg hr, h7.own (by omega) hg hr⟩)
    ⟨hx4, fun y h => absurd h List.not_mem_nil⟩
    (fun x a' W => ∃ b1 b2, Blk W b1 27 [.int .i64 x.1.p, .int .i64 ((x.1.i : Int) + 1)] ∧ Blk W b2 61 [.int .i64 x.1.e.kind, .int .i64 x.1.e.peer, .int .i64 x.1.e.msg, .int .i64 x.1.e.time, .slice x.1.B x.1.e.asg.length x.1.bc] ∧ a' = { tmps := #[.agg #[.slice A t.length c], .int .i64 k, .int .i64 m, .pointer (some ⟨w.heap.size, 0, none⟩), .pointer (some ⟨w.heap.size + 1, 0, none⟩), .pointer (some ⟨w.heap.size + 1 + 1, 0, none⟩), .pointer (some ⟨w.heap.size + 1 + 1 + 1, 0, none⟩), .pointer (some ⟨w.heap.size + 1 + 1 + 1 + 1, 0, none⟩), .pointer (some ⟨b1, 0, none⟩), .pointer (some ⟨b2, 0, none⟩), .agg #[.slice A t.length c], .bool true, .bool false, undef, .agg #[.slice A t.length c], .func (.func 117) #[] #[.pointer (some ⟨nE, 0, none⟩)], .agg #[.int .i64 x.1.p, .int .i64 ((x.1.i : Int) + 1)], .agg #[.int .i64 x.1.e.kind, .int .i64 x.1.e.peer, .int .i64 x.1.e.msg, .int .i64 x.1.e.time, .slice x.1.B x.1.e.asg.length x.1.bc], undef, undef, undef, undef, undef, undef, undef, undef, undef, undef, undef, undef], defers := [] })
    (fun x a' u X Y row hs hg hr => by
      obtain ⟨b1, b2, q1, q2, q3⟩ := hs
      exact ⟨b1, b2, q1.own hg hr, q2.own hg hr, q3⟩)
    ?assign ?body ?done ?stop
  case assign =>
    rintro l pre x W K ⟨gX, gC⟩ hK
    have hWs := gX.below.size
    unfold encI
    gi_wp2
    exact hK _ _ (((KeepsOthers.alloc _ _).trans (KeepsOthers.alloc _ _)).from _) (((Below.refl _ W).alloc (by omega) _).alloc (by simp; omega) _)
      ⟨(gX.alloc _).alloc _, gC⟩
      ⟨W.heap.size, W.heap.size + 1, (Blk.new W _ _).alloc _, by simpa using Blk.new (W.alloc (.cells #[.int .i64 x.1.p, .int .i64 ((x.1.i : Int) + 1)] 27)) 61 [.int .i64 x.1.e.kind, .int .i64 x.1.e.peer, .int .i64 x.1.e.msg, .int .i64 x.1.e.time, .slice x.1.B x.1.e.asg.length x.1.bc], rfl⟩
  case body =>
    rintro l pre x a' W hl - ⟨gX, gC⟩ ⟨b1, b2, qI, qE, rfl⟩ -
    have hWs := gX.below.size
    have x1 := (HB1.out _ gX).cell 0
    have x2 := (HB2.out _ gX).cell 0
    have l1 := (HB1.out _ gX).lt
    have l2 := (HB2.out _ gX).lt
    have i0 := qI.cell 0
    have i1 := qI.cell 1
    have il := qI.lt
    have e0 := qE.cell 0
    have e2 := qE.cell 2
    have el := qE.lt
    have HgX := Lib.hid gX
    have HgC := Lib.hid gC
    have c0 := (HB3.out _ gX).cell 0
    have c1 := (HB3.out _ gX).cell 1
    have c2 := (HB4.out _ gX).cell 0
    have f0 := (HB3.out _ gX).frozen 0
    have f1 := (HB3.out _ gX).frozen 1
    have f2 := (HB4.out _ gX).frozen 0
    have l3 := (HB3.out _ gX).lt
    have l4 := (HB4.out _ gX).lt
    clear gX gC qI qE
    by_cases hD : x.1.e.kind = k ∧ x.1.e.msg = m
    · have HD := Lib.hid hD
      have s1 : (x.1.e.kind == k) = true := by simp [hD.1]
      have s2 : (x.1.e.msg == m) = true := by simp [hD.2]
      have s3 : (x.1.e.kind = k) = True := eq_true hD.1
      have s4 : (x.1.e.msg = m) = True := eq_true hD.2
      clear hD
      gi_wp2
      have HX1 := HRet.out _ (.int .i64 (x.1.p : Nat)) (.int .i64 ((x.1.i : Int) + 1)) (.bool true) HgX.out
      exact ⟨(HX1.2.2.2).from _, rfl, pre, x, rfl, HgC.out, HD.out, HX1.1, HX1.2.1, HX1.2.2.1⟩
    · have HC2 : Hid (∀ y ∈ pre ++ [x], ¬ (y.1.e.kind = k ∧ y.1.e.msg = m)) := fun y hy => by
        rcases List.mem_append.1 hy with hy | hy
        · exact HgC.out y hy
        · rw [List.mem_singleton.1 hy]; exact hD
      by_cases hk : x.1.e.kind = k
      · have s1 : (x.1.e.kind == k) = true := by simp [hk]
        have s2 : (x.1.e.msg == m) = false := by simp; exact fun h => hD ⟨hk, h⟩
        have s3 : (x.1.e.kind = k) = True := eq_true hk
        have s4 : (x.1.e.msg = m) = False := eq_false fun h => hD ⟨hk, h⟩
        clear hD hk
        gi_wp2
        exact ⟨(KeepsOthers.refl _).from _, (Below.refl _ _), HgX.out, HC2.out⟩
      · have s1 : (x.1.e.kind == k) = false := by simp; exact hk
        have s3 : (x.1.e.kind = k) = False := eq_false hk
        clear hD hk
        gi_wp2
        exact ⟨(KeepsOthers.refl _).from _, (Below.refl _ _), HgX.out, HC2.out⟩
  case done =>
    rintro D xs W hD hA ⟨gX, gC⟩ hK
    have hR : R = (0, 0) := HN.out fun y hy hsel => by
      obtain ⟨x, hx, he⟩ := all_item hA hy
      obtain ⟨e, h1, h2⟩ := hsel
      rw [← he] at h1
      rw [item_at x] at h1
      cases h1
      exact gC x hx h2
    subst hR
    have c0 := (HB3.out _ gX).cell 0
    have c1 := (HB3.out _ gX).cell 1
    have c2 := (HB4.out _ gX).cell 0
    have f0 := (HB3.out _ gX).frozen 0
    have f1 := (HB3.out _ gX).frozen 1
    have f2 := (HB4.out _ gX).frozen 0
    have l3 := (HB3.out _ gX).lt
    have l4 := (HB4.out _ gX).lt
    have HgX := Lib.hid gX
    clear gC hA gX
    gi_wp2
    have HX1 := HRet.out _ (.int .i64 0) (.int .i64 0) (.bool false) HgX.out
    have hK1 := HX1.2.2.2.same D _ hK rfl
    refine ⟨by simp, .inl ⟨_, _, rfl, run_takeDeferred hK1, ?_⟩⟩
    exact ⟨_, results_find rfl rfl rfl (HX1.1.put hK1 _) (HX1.2.1.put hK1 _), rfl, HX1.2.2.1.put (by omega) _⟩
  case stop =>
    rintro D cd pre W hD hS ⟨rfl, a, x, rfl, gC, hF, g1, g2, gX⟩ hK
    have hR : R = (x.1.p, x.1.i + 1) := by
      refine HS.out _ ⟨item_in x, ⟨_, item_at x, hF⟩, fun y hy hb hn => ?_⟩
      obtain ⟨z, hz, he⟩ := upto_item (upto_some hS) hy hb
      obtain ⟨e, h1, h2⟩ := hn
      rw [← he, item_at z] at h1
      cases h1
      exact gC z hz h2
    clear hS
    gi_wp2
    refine ⟨by simp, .inl ⟨_, _, rfl, run_takeDeferred hK, ?_⟩⟩
    exact ⟨_, results_find rfl rfl rfl (g1.put hK _) (g2.put hK _), by rw [hR]; simp [idV], gX.put (by omega) _⟩
theorem results_send {fn : Func} {p g u : Nat} {a b v : Value} {w : World} {tmps : Array Value} (h : fn.results = #[.cell p 27, .tmp u]) (hp : tmps.getD p undef = .pointer (some ⟨g, 0, none⟩)) (hu : tmps.getD u undef = v) (hB : Blk w g 27 [a, b]) :
    (results fn tmps).run Try.prog w = .ok (.tuple #[.agg #[a, b], v]) w := by
  have h0 : w.cell? ⟨g, 0, none⟩ = some a := hB.cell 0
  have h1 : w.cell? ⟨g, 1, none⟩ = some b := hB.cell 1
  rw [Array.getD_eq_getD_getElem?] at hp hu
  simp [results, h, hp, hu, go_sem, h0, h1]
set_option maxRecDepth 20000 in
set_option maxHeartbeats 1600000 in
theorem sender_c (t : List Pr) (A : Option Addr) (c : Nat) (m : Int) (w : World) (hT : TcC w A t) (hs : TSm t) (hcap : t.length ≤ c) (hv : validB t = true) :
    Calls Try.prog 87 #[.agg #[.slice A t.length c], .int .i64 m] w (Ret w (.tuple #[idV (findO t 2 m), .bool (decide (0 < (findO t 2 m).2))])) := by
  have HF := Lib.hid (fun w' (h : Ex w w') => find_c t A c 2 m w' (hT.ex h) hs hcap hv)
  obtain ⟨W0, hW0⟩ : ∃ W0, W0 = (w.alloc (.cells #[.slice A t.length c] 24)).alloc (.cells #[.int .i64 0, .int .i64 0] 27) := ⟨_, rfl⟩
  have HX0 : Hid (Ex w W0) := by rw [hW0]; exact ((Ex.refl w).alloc _).alloc _
  have HB1 : Hid (∀ w', Ex W0 w' → Blk w' (w.heap.size + 1) 27 [.int .i64 0, .int .i64 0]) := fun w' hx => by
    have : Blk W0 (w.heap.size + 1) 27 [.int .i64 0, .int .i64 0] := by
      rw [hW0, show w.heap.size + 1 = (w.alloc (.cells #[.slice A t.length c] 24)).heap.size by simp]
      exact Blk.new _ _ _
    exact this.ex hx
  have HW0 := Lib.hid hW0
  generalize findO t 2 m = R at *
  unfold idV at HF
  unfold Ret
  clear hW0 hT hs hcap hv
  go_enter Try.func87, Try.ntmps87
  go_wp2_with fail
  rw [← HW0.out]
  refine (HF.out _ HX0.out).mono ?_
  rintro e9 w' ⟨rfl, z, rfl⟩
  have hx1 : Ex W0 (ext W0 z) := ⟨z, rfl⟩
  have c0 := (HB1.out _ hx1).cell 0
  have c1 := (HB1.out _ hx1).cell 1
  have f0 := (HB1.out _ hx1).frozen 0
  have f1 := (HB1.out _ hx1).frozen 1
  have l1 := (HB1.out _ hx1).lt
  have HX1 := Lib.hid hx1
  clear hx1
  go_wp2_with fail
  have hb := ((HB1.out _ HX1.out).set_ 0 (.int .i64 (R.1 : Nat))).set_ 1 (.int .i64 (R.2 : Nat))
  refine bodyPost_ret (results_send rfl rfl rfl hb) rfl ⟨rfl, ?_⟩
  exact ((HX0.out.trans HX1.out).setCell (p := ⟨w.heap.size + 1, 0, none⟩) (by show _ ≤ w.heap.size + 1; omega) _).setCell (p := ⟨w.heap.size + 1, 1, none⟩) (by show _ ≤ w.heap.size + 1; omega) _
end
section
open Go.RowKit Go.Shelf
def intsV (r : List Int) : List Value := r.map (Value.int .i64)
theorem intsV_get {r : List Int} {i : Nat} {a : Int} (h : r[i]? = some a) : (intsV r)[i]? = some (.int .i64 a) := by
  unfold intsV
  rw [List.getElem?_map, h]
  rfl
/-- a list of numbers whose slice stands at a place -/
def RowC (w : World) (b o : Nat) (r : List Int) : Prop := ∃ A c, w.cell? ⟨b, o, none⟩ = some (.slice A r.length c) ∧ r.length ≤ c ∧ Row w A (intsV r)
/-- lists of numbers at a slice's address -/
def LlC (w : World) (B : Option Addr) (l : List (List Int)) : Prop := ∀ p r, l[p]? = some r → ∃ b o, B = some ⟨b, o, none⟩ ∧ b < w.heap.size ∧ RowC w b (o + p) r
theorem RowC.ex {w w' : World} {b o : Nat} {r : List Int} (hb : b < w.heap.size) (h : RowC w b o r) (hx : Ex w w') : RowC w' b o r := by
  obtain ⟨A, c, h0, h1, h2⟩ := h
  exact ⟨A, c, (hx.below.cell hb).trans h0, h1, h2.ex hx⟩
theorem LlC.ex {w w' : World} {B : Option Addr} {l : List (List Int)} (h : LlC w B l) (hx : Ex w w') : LlC w' B l := fun p r hp => by
  obtain ⟨b, o, e1, hb, h1⟩ := h p r hp
  exact ⟨b, o, e1, Nat.lt_of_lt_of_le hb hx.below.size, h1.ex hb hx⟩
structure LSm (l : List (List Int)) : Prop where
  rows : l.length ≤ 100000
  each : ∀ r, r ∈ l → r.length ≤ 100000
/-- the states of a process are a row of its checkpoints -/
def okRow (n : Nat) (r : List Int) : Prop := r[0]? = some 0 ∧ r[r.length - 1]? = some (n : Int) ∧ ∀ i a b, r[i]? = some a → r[i + 1]? = some b → a < b
def cpP (t : List Pr) (l : List (List Int)) : Prop := l.length = t.length ∧ ∀ p r, l[p]? = some r → okRow (evN t p) r
open Classical in
noncomputable def cpB (t : List Pr) (l : List (List Int)) : Bool := validB t && decide (cpP t l)
theorem cp_invalid {t : List Pr} {l : List (List Int)} (h : validB t = false) : cpB t l = false := by unfold cpB; rw [h]; rfl
open Classical in
theorem cp_false {t : List Pr} {l : List (List Int)} (h : ¬ cpP t l) : cpB t l = false := by unfold cpB; rw [decide_eq_false h]; simp
open Classical in
theorem cp_true {t : List Pr} {l : List (List Int)} (hv : validB t = true) (h : cpP t l) : cpB t l = true := by unfold cpB; rw [hv, decide_eq_true h]; rfl
open Classical in
theorem cp_of {t : List Pr} {l : List (List Int)} (h : cpB t l = true) : validB t = true ∧ cpP t l := by
  unfold cpB at h
  rw [Bool.and_eq_true] at h
  exact ⟨h.1, of_decide_eq_true h.2⟩
theorem get_at {α : Type} {l : List α} {p : Nat} (h : p < l.length) : ∃ x, l[p]? = some x := ⟨_, List.getElem?_eq_getElem h⟩
theorem row_at {w : World} {A : Option Addr} {r : List Int} (h : Row w A (intsV r)) (hn : r ≠ []) : ∃ b o, A = some ⟨b, o, none⟩ ∧ b < w.heap.size ∧ ∀ j a, r[j]? = some a → w.cell? ⟨b, o + j, none⟩ = some (.int .i64 a) := by
  rcases h with h | ⟨b, o, e, hb, h⟩
  · exact absurd (List.map_eq_nil_iff.1 h) hn
  · exact ⟨b, o, e, hb, fun j a hj => h j _ (intsV_get hj)⟩
set_option maxRecDepth 20000 in
set_option maxHeartbeats 3200000 in
theorem pCp_c (t : List Pr) (A : Option Addr) (c : Nat) (l : List (List Int)) (B : Option Addr) (lc : Nat) (w : World) (hT : TcC w A t) (hs : TSm t) (hcap : t.length ≤ c) (hL : LlC w B l) (hls : LSm l) :
    Calls Try.prog 22 #[.agg #[.slice A t.length c], .slice B l.length lc] w (Ret w (.bool (cpB t l))) := by
  have HV := Lib.hid (fun w' (h : Ex w w') => pValid_c t A c w' (hT.ex h) hs hcap)
  have HT : Hid (∀ w', Ex w w' → TcC w' A t) := fun w' hx => hT.ex hx
  have HL : Hid (∀ w', Ex w w' → LlC w' B l) := fun w' hx => hL.ex hx
  have htl := hs.procs
  have hll := hls.rows
  have HE : Hid (∀ (p : Nat) (r : List Int), l[p]? = some r → r.length ≤ 100000) := fun p r hr => hls.each r (List.mem_of_getElem? hr)
  obtain ⟨W0, hW0⟩ : ∃ W0, W0 = w.alloc (.cells #[.slice A t.length c] 24) := ⟨_, rfl⟩
  have HX0 : Hid (Ex w W0) := by rw [hW0]; exact (Ex.refl w).alloc _
  have HB0 : Hid (∀ w', Ex W0 w' → Blk w' w.heap.size 24 [.slice A t.length c]) := fun w' hx => by
    have : Blk W0 w.heap.size 24 [.slice A t.length c] := by rw [hW0]; exact Blk.new w _ _
    exact this.ex hx
  have HW0 := Lib.hid hW0
  have HI : Hid (validB t = false → cpB t l = false) := cp_invalid
  have HF : Hid (¬ cpP t l → cpB t l = false) := cp_false
  have HTr : Hid (validB t = true → cpP t l → cpB t l = true) := cp_true
  generalize cpB t l = R at *
  generalize validB t = V at *
  clear hW0 hT hs hcap hL hls
  cases V
  · have hR := HI.out rfl
    subst hR
    go_enter Try.func22, Try.ntmps22
    go_wp2_with fail
    rw [← HW0.out]
    refine (HV.out _ HX0.out).mono ?_
    rintro e9 w' ⟨rfl, z, rfl⟩
    go_wp2_with fail
    go_ret
    exact Ret.mk rfl (HX0.out.ext z)
  have HTr2 : Hid (cpP t l → R = true) := HTr.out rfl
  clear HI HTr
  by_cases hlen : l.length = t.length
  · have s1 : ((l.length : Int) != (t.length : Int)) = false := by rw [hlen]; simp
    have s2 : (l.length != t.length) = false := by rw [hlen]; simp
    have s3 : (l.length = t.length) = True := eq_true hlen
    have HLen := Lib.hid hlen
    clear hlen
    go_enter Try.func22, Try.ntmps22
    go_wp2_with fail
    rw [← HW0.out]
    refine (HV.out _ HX0.out).mono ?_
    rintro e9 w' ⟨rfl, z, rfl⟩
    have hx1 : Ex W0 (ext W0 z) := ⟨z, rfl⟩
    have c0 := (HB0.out _ hx1).cell 0
    have l0 := (HB0.out _ hx1).lt
    have HX1 := Lib.hid hx1
    clear hx1
    go_wp2_with fail
    clear c0 l0 s1 s2 s3
    go_loopw [22] (fun i wr => ∃ p : Nat, i = .int .i64 p ∧ p ≤ l.length ∧ Hid ((∀ q r, q < p → l[q]? = some r → okRow (evN t q) r) ∧ Ex W0 wr)) (fun i _ => l.length - (intOf i).toNat)
    case atStart => exact ⟨0, rfl, Nat.zero_le _, Lib.hid ⟨fun q r h => absurd h (Nat.not_lt_zero _), HX1.out⟩⟩
    case round =>
      obtain ⟨p, rfl, hp, HH⟩ := hrel
      have c0 := (HB0.out _ HH.out.2).cell 0
      have l0 := (HB0.out _ HH.out.2).lt
      by_cases hlt : p < l.length
      · have m1 : (p : Int) < (l.length : Int) := by omega
        have m2 : (p : Int) < (t.length : Int) := by have := HLen.out; omega
        have m0 : (0 : Int) ≤ (p : Int) := by omega
        obtain ⟨r, hr⟩ := get_at hlt
        obtain ⟨x, hx⟩ := get_at (show p < t.length by have := HLen.out; omega)
        have hrl := HE.out p r hr
        obtain ⟨b, o, hB, hbl, A2, c2, g0, hc2, hrow⟩ := HL.out _ (HX0.out.trans HH.out.2) p r hr
        obtain ⟨b3, o3, hA3, hbl3, V3, vc3, E3, ec3, -, -, g2, -, -⟩ := HT.out _ (HX0.out.trans HH.out.2) p x hx
        subst hB hA3
        have HOk : Hid (okRow x.evs.length r ↔ okRow (evN t p) r) := by rw [evN_at hx]; exact Iff.rfl
        have HBad : Hid (¬ okRow x.evs.length r → R = false) := fun h => HF.out fun hc => h (HOk.out.2 (hc.2 p r hr))
        have HGo : Hid (okRow x.evs.length r → ∀ q r, q < p + 1 → l[q]? = some r → okRow (evN t q) r) := fun h q r' hq hr' => by
          by_cases hqp : q = p
          · subst hqp; rw [hr] at hr'; cases hr'; exact HOk.out.1 h
          · exact HH.out.1 q r' (by omega) hr'
        clear hr hx HOk
        by_cases hn : r.length = 0
        · have t1 : ((r.length : Int) == 0) = true := by simp [hn]
          have t2 : (r.length == 0) = true := by simp [hn]
          have hR := HBad.out fun h => by have := h.1; rw [List.getElem?_eq_none (by omega)] at this; cases this
          subst hR
          clear hn
          go_wp2_with fail
          go_quiet (fail)
          go_wp2_with fail
          go_ret
          exact Ret.mk rfl ((HX0.out.trans HH.out.2).drewN _)
        have t1 : ((r.length : Int) == 0) = false := beq_eq_false_iff_ne.2 (by omega)
        have t2 : (r.length == 0) = false := beq_eq_false_iff_ne.2 (by omega)
        obtain ⟨b2, o2, hA2, hbl2, hcs⟩ := row_at hrow (fun h => hn (by rw [h]; rfl))
        subst hA2
        obtain ⟨a, ha⟩ := get_at (show 0 < r.length by omega)
        obtain ⟨e, he⟩ := get_at (show r.length - 1 < r.length by omega)
        have d0 := hcs 0 a ha
        have d1 := hcs (r.length - 1) e he
        rw [Nat.add_zero] at d0
        have w1 : IntKind.i64.wrap ((r.length : Int) - 1) = ((r.length - 1 : Nat) : Int) := by rw [IntWalk.i64_in _ (by omega)]; omega
        have w2 : (0 : Int) ≤ ((r.length - 1 : Nat) : Int) := by omega
        have w3 : ((r.length - 1 : Nat) : Int) < (r.length : Int) := by omega
        have w4 : (0 : Int) < (r.length : Int) := by omega
        have hn2 : 0 < r.length := by omega
        clear hn
        by_cases hz : a = 0
        · have t3 : (a != 0) = false := by simp [hz]
          by_cases hl : e = (x.evs.length : Int)
          · have t4 : (e != (x.evs.length : Int)) = false := by simp [hl]
            have HOk2 : Hid ((∀ i a b, r[i]? = some a → r[i + 1]? = some b → a < b) ↔ okRow x.evs.length r) := ⟨fun h => ⟨by rw [ha, hz], by rw [he, hl], h⟩, fun h => h.2.2⟩
            have HCs := Lib.hid (fun w' (hx : Ex wr w') j a hj => (hx.below.cell hbl2).trans (hcs j a hj))
            have HbL := Lib.hid hbl2
            clear ha he hcs hz hl hbl2
            go_wp2_with fail
            go_quiet (fail)
            go_wp2_with fail
            generalize hzw : wr.drewN _ = W1
            have HX1 : Hid (Ex wr W1) := by rw [← hzw]; exact (Ex.refl wr).drewN _
            clear hzw c0 l0 d0 d1 g0 g2 hbl hbl3
            go_loopw [8] (fun i w2 => ∃ i' : Nat, i = .int .i64 i' ∧ 1 ≤ i' ∧ i' ≤ r.length ∧ Hid ((∀ j a b, j + 1 < i' → r[j]? = some a → r[j + 1]? = some b → a < b) ∧ Ex wr w2)) (fun i _ => r.length - (intOf i).toNat)
            case atStart => exact ⟨1, rfl, Nat.le_refl _, hn2, Lib.hid ⟨fun j a b h => by omega, HX1.out⟩⟩
            case round =>
              obtain ⟨i, rfl, hi1, hi, HH2⟩ := hrel
              by_cases hil : i < r.length
              · have v1 : (i : Int) < (r.length : Int) := by omega
                have v0 : (0 : Int) ≤ (i : Int) := by omega
                have v2 : IntKind.i64.wrap ((i : Int) - 1) = ((i - 1 : Nat) : Int) := by rw [IntWalk.i64_in _ (by omega)]; omega
                have v3 : (0 : Int) ≤ ((i - 1 : Nat) : Int) := by omega
                have v4 : ((i - 1 : Nat) : Int) < (r.length : Int) := by omega
                obtain ⟨y, hy⟩ := get_at hil
                obtain ⟨z2, hz2⟩ := get_at (show i - 1 < r.length by omega)
                have q0 := HCs.out _ HH2.out.2 i y hy
                have q1 := HCs.out _ HH2.out.2 (i - 1) z2 hz2
                have hbl2 := Nat.lt_of_lt_of_le HbL.out HH2.out.2.below.size
                by_cases hle : y ≤ z2
                · have t5 : decide (y ≤ z2) = true := decide_eq_true hle
                  have hR := HBad.out fun h => by
                    have := h.2.2 (i - 1) z2 y hz2 (by rw [show i - 1 + 1 = i by omega]; exact hy)
                    omega
                  subst hR
                  clear hle hy hz2
                  go_wp2_with fail
                  go_quiet (fail)
                  go_wp2_with fail
                  go_ret
                  exact Ret.mk rfl (((HX0.out.trans HH.out.2).trans HH2.out.2).drewN _)
                · have t5 : decide (y ≤ z2) = false := decide_eq_false hle
                  have HN : Hid (∀ j a b, j + 1 < i + 1 → r[j]? = some a → r[j + 1]? = some b → a < b) := fun j a b hj ha hb => by
                    by_cases hji : j + 1 = i
                    · rw [hji, hy] at hb
                      rw [show j = i - 1 by omega, hz2] at ha
                      cases ha; cases hb
                      omega
                    · exact HH2.out.1 j a b (by omega) ha hb
                  clear hle hy hz2
                  go_wp2_with fail
                  go_quiet (fail)
                  go_wp2_with fail
                  refine ⟨⟨i + 1, by go_num, by omega, by omega, Lib.hid ⟨HN.out, HH2.out.2.drewN _⟩⟩, by simp [intOf]; omega⟩
              · obtain rfl : i = r.length := by omega
                have HAll := Lib.hid (HGo.out (HOk2.out.1 fun j a b ha hb => HH2.out.1 j a b (List.getElem?_eq_some_iff.1 hb).1 ha hb))
                have t6 : decide ((r.length : Int) < (r.length : Int)) = false := decide_eq_false (by omega)
                go_wp2_with fail
                refine ⟨⟨p + 1, by go_num, by omega, Lib.hid ⟨HAll.out, HH.out.2.trans HH2.out.2⟩⟩, by simp [intOf]; omega⟩
          · have t4 : (e != (x.evs.length : Int)) = true := by simp [hl]
            have hR := HBad.out fun h => by have := h.2.1; rw [he] at this; exact hl (Option.some.inj this)
            subst hR
            clear ha he hcs hz hl
            go_wp2_with fail
            go_quiet (fail)
            go_wp2_with fail
            go_ret
            exact Ret.mk rfl ((HX0.out.trans HH.out.2).drewN _)
        · have t3 : (a != 0) = true := by simp [hz]
          have hR := HBad.out fun h => by have := h.1; rw [ha] at this; exact hz (Option.some.inj this)
          subst hR
          clear ha he hcs hz
          go_wp2_with fail
          go_quiet (fail)
          go_wp2_with fail
          go_ret
          exact Ret.mk rfl ((HX0.out.trans HH.out.2).drewN _)
      · obtain rfl : p = l.length := by omega
        have hR := HTr2.out ⟨HLen.out, fun q r hq => HH.out.1 q r (List.getElem?_eq_some_iff.1 hq).1 hq⟩
        subst hR
        have t6 : decide ((l.length : Int) < (l.length : Int)) = false := decide_eq_false (by omega)
        go_wp2_with fail
        go_ret
        exact Ret.mk rfl (HX0.out.trans HH.out.2)
  · have s1 : ((l.length : Int) != (t.length : Int)) = true := by simp; omega
    have s2 : (l.length != t.length) = true := by simp; omega
    have s3 : (l.length = t.length) = False := eq_false hlen
    have hR := HF.out fun h => hlen h.1
    subst hR
    clear hlen
    go_enter Try.func22, Try.ntmps22
    go_wp2_with fail
    rw [← HW0.out]
    refine (HV.out _ HX0.out).mono ?_
    rintro e9 w' ⟨rfl, z, rfl⟩
    have hx1 : Ex W0 (ext W0 z) := ⟨z, rfl⟩
    have c0 := (HB0.out _ hx1).cell 0
    have l0 := (HB0.out _ hx1).lt
    have HX1 := Lib.hid hx1
    clear hx1
    go_wp2_with fail
    go_ret
    exact Ret.mk rfl (HX0.out.trans HX1.out)
end
section
open Go.RowKit Go.Shelf
set_option maxRecDepth 20000 in
set_option maxHeartbeats 3200000 in
theorem rCp_c (t : List Pr) (A : Option Addr) (c : Nat) (l : List (List Int)) (B : Option Addr) (lc : Nat) (w : World) (hT : TcC w A t) (hs : TSm t) (hL : LlC w B l) (hls : LSm l) :
    Calls Try.prog 14 #[.agg #[.slice A t.length c], .slice B l.length lc] w (Ret w (.bool (cpB t l))) := by
  have HV := Lib.hid (fun w' (h : Ex w w') => rValid_c t A c w' (hT.ex h) hs)
  have HT : Hid (∀ w', Ex w w' → TcC w' A t) := fun w' hx => hT.ex hx
  have HL : Hid (∀ w', Ex w w' → LlC w' B l) := fun w' hx => hL.ex hx
  have htl := hs.procs
  have hll := hls.rows
  have HE : Hid (∀ (p : Nat) (r : List Int), l[p]? = some r → r.length ≤ 100000) := fun p r hr => hls.each r (List.mem_of_getElem? hr)
  obtain ⟨W0, hW0⟩ : ∃ W0, W0 = w.alloc (.cells #[.slice A t.length c] 24) := ⟨_, rfl⟩
  have HX0 : Hid (Ex w W0) := by rw [hW0]; exact (Ex.refl w).alloc _
  have HB0 : Hid (∀ w', Ex W0 w' → Blk w' w.heap.size 24 [.slice A t.length c]) := fun w' hx => by
    have : Blk W0 w.heap.size 24 [.slice A t.length c] := by rw [hW0]; exact Blk.new w _ _
    exact this.ex hx
  have HW0 := Lib.hid hW0
  have HI : Hid (validB t = false → cpB t l = false) := cp_invalid
  have HF : Hid (¬ cpP t l → cpB t l = false) := cp_false
  have HTr : Hid (validB t = true → cpP t l → cpB t l = true) := cp_true
  generalize cpB t l = R at *
  generalize validB t = V at *
  clear hW0 hT hs hL hls
  cases V
  · have hR := HI.out rfl
    subst hR
    go_enter Try.func14, Try.ntmps14
    go_wp2_with fail
    rw [← HW0.out]
    refine (HV.out _ HX0.out).mono ?_
    rintro e9 w' ⟨rfl, z, rfl⟩
    go_wp2_with fail
    go_ret
    exact Ret.mk rfl (HX0.out.ext z)
  have HTr2 : Hid (cpP t l → R = true) := HTr.out rfl
  clear HI HTr
  by_cases hlen : l.length = t.length
  · have s1 : ((l.length : Int) != (t.length : Int)) = false := by rw [hlen]; simp
    have s2 : (l.length != t.length) = false := by rw [hlen]; simp
    have s3 : (l.length = t.length) = True := eq_true hlen
    have HLen := Lib.hid hlen
    clear hlen
    go_enter Try.func14, Try.ntmps14
    go_wp2_with fail
    rw [← HW0.out]
    refine (HV.out _ HX0.out).mono ?_
    rintro e9 w' ⟨rfl, z, rfl⟩
    have hx1 : Ex W0 (ext W0 z) := ⟨z, rfl⟩
    have c0 := (HB0.out _ hx1).cell 0
    have l0 := (HB0.out _ hx1).lt
    have HX1 := Lib.hid hx1
    clear hx1
    go_wp2_with fail
    clear c0 l0 s1 s2 s3
    go_loopw [5] (fun i wr => ∃ p : Nat, i = .int .i64 p ∧ p ≤ l.length ∧ Hid ((∀ q r, q < p → l[q]? = some r → okRow (evN t q) r) ∧ Ex W0 wr)) (fun i _ => l.length - (intOf i).toNat)
    case atStart => exact ⟨0, rfl, Nat.zero_le _, Lib.hid ⟨fun q r h => absurd h (Nat.not_lt_zero _), HX1.out⟩⟩
    case round =>
      obtain ⟨p, rfl, hp, HH⟩ := hrel
      have c0 := (HB0.out _ HH.out.2).cell 0
      have l0 := (HB0.out _ HH.out.2).lt
      by_cases hlt : p < l.length
      · have m1 : (p : Int) < (l.length : Int) := by omega
        have m2 : (p : Int) < (t.length : Int) := by have := HLen.out; omega
        have m0 : (0 : Int) ≤ (p : Int) := by omega
        obtain ⟨r, hr⟩ := get_at hlt
        obtain ⟨x, hx⟩ := get_at (show p < t.length by have := HLen.out; omega)
        have hrl := HE.out p r hr
        obtain ⟨b, o, hB, hbl, A2, c2, g0, hc2, hrow⟩ := HL.out _ (HX0.out.trans HH.out.2) p r hr
        obtain ⟨b3, o3, hA3, hbl3, V3, vc3, E3, ec3, -, -, g2, -, -⟩ := HT.out _ (HX0.out.trans HH.out.2) p x hx
        subst hB hA3
        have HOk : Hid (okRow x.evs.length r ↔ okRow (evN t p) r) := by rw [evN_at hx]; exact Iff.rfl
        have HBad : Hid (¬ okRow x.evs.length r → R = false) := fun h => HF.out fun hc => h (HOk.out.2 (hc.2 p r hr))
        have HGo : Hid (okRow x.evs.length r → ∀ q r, q < p + 1 → l[q]? = some r → okRow (evN t q) r) := fun h q r' hq hr' => by
          by_cases hqp : q = p
          · subst hqp; rw [hr] at hr'; cases hr'; exact HOk.out.1 h
          · exact HH.out.1 q r' (by omega) hr'
        clear hr hx HOk
        by_cases hn : r.length = 0
        · have t1 : ((r.length : Int) == 0) = true := by simp [hn]
          have t2 : (r.length == 0) = true := by simp [hn]
          have hR := HBad.out fun h => by have := h.1; rw [List.getElem?_eq_none (by omega)] at this; cases this
          subst hR
          clear hn
          go_wp2_with fail
          go_quiet (fail)
          go_wp2_with fail
          go_ret
          exact Ret.mk rfl ((HX0.out.trans HH.out.2).drewN _)
        have t1 : ((r.length : Int) == 0) = false := beq_eq_false_iff_ne.2 (by omega)
        have t2 : (r.length == 0) = false := beq_eq_false_iff_ne.2 (by omega)
        obtain ⟨b2, o2, hA2, hbl2, hcs⟩ := row_at hrow (fun h => hn (by rw [h]; rfl))
        subst hA2
        obtain ⟨a, ha⟩ := get_at (show 0 < r.length by omega)
        obtain ⟨e, he⟩ := get_at (show r.length - 1 < r.length by omega)
        have d0 := hcs 0 a ha
        have d1 := hcs (r.length - 1) e he
        rw [Nat.add_zero] at d0
        have w1 : IntKind.i64.wrap ((r.length : Int) - 1) = ((r.length - 1 : Nat) : Int) := by rw [IntWalk.i64_in _ (by omega)]; omega
        have w2 : (0 : Int) ≤ ((r.length - 1 : Nat) : Int) := by omega
        have w3 : ((r.length - 1 : Nat) : Int) < (r.length : Int) := by omega
        have w4 : (0 : Int) < (r.length : Int) := by omega
        have hn2 : 0 < r.length := by omega
        clear hn
        by_cases hz : a = 0
        · have t3 : (a != 0) = false := by simp [hz]
          by_cases hl : e = (x.evs.length : Int)
          · have t4 : (e != (x.evs.length : Int)) = false := by simp [hl]
            have HOk2 : Hid ((∀ i a b, r[i]? = some a → r[i + 1]? = some b → a < b) ↔ okRow x.evs.length r) := ⟨fun h => ⟨by rw [ha, hz], by rw [he, hl], h⟩, fun h => h.2.2⟩
            have HCs := Lib.hid (fun w' (hx : Ex wr w') j a hj => (hx.below.cell hbl2).trans (hcs j a hj))
            have HbL := Lib.hid hbl2
            have HG := Lib.hid (fun w' (hx : Ex wr w') => And.intro ((hx.below.cell hbl).trans g0) (Nat.lt_of_lt_of_le hbl hx.below.size))
            clear ha he hcs hz hl hbl2
            go_wp2_with fail
            go_quiet (fail)
            go_wp2_with fail
            generalize hzw : wr.drewN _ = W1
            have HX1 : Hid (Ex wr W1) := by rw [← hzw]; exact (Ex.refl wr).drewN _
            clear hzw c0 l0 d0 d1 g0 g2 hbl hbl3
            go_loopw [7] (fun i w2 => ∃ i' : Nat, i = .int .i64 i' ∧ 1 ≤ i' ∧ i' ≤ r.length ∧ Hid ((∀ j a b, j + 1 < i' → r[j]? = some a → r[j + 1]? = some b → a < b) ∧ Ex wr w2)) (fun i _ => r.length - (intOf i).toNat)
            case atStart => exact ⟨1, rfl, Nat.le_refl _, hn2, Lib.hid ⟨fun j a b h => by omega, HX1.out⟩⟩
            case round =>
              obtain ⟨i, rfl, hi1, hi, HH2⟩ := hrel
              by_cases hil : i < r.length
              · have v1 : (i : Int) < (r.length : Int) := by omega
                have v0 : (0 : Int) ≤ (i : Int) := by omega
                have v2 : IntKind.i64.wrap ((i : Int) - 1) = ((i - 1 : Nat) : Int) := by rw [IntWalk.i64_in _ (by omega)]; omega
                have v3 : (0 : Int) ≤ ((i - 1 : Nat) : Int) := by omega
                have v4 : ((i - 1 : Nat) : Int) < (r.length : Int) := by omega
                obtain ⟨y, hy⟩ := get_at hil
                obtain ⟨z2, hz2⟩ := get_at (show i - 1 < r.length by omega)
                have q0 := HCs.out _ HH2.out.2 i y hy
                have q1 := HCs.out _ HH2.out.2 (i - 1) z2 hz2
                have hbl2 := Nat.lt_of_lt_of_le HbL.out HH2.out.2.below.size
                have g0 := (HG.out _ HH2.out.2).1
                have hbl := (HG.out _ HH2.out.2).2
                by_cases hle : y ≤ z2
                · have t5 : decide (y ≤ z2) = true := decide_eq_true hle
                  have hR := HBad.out fun h => by
                    have := h.2.2 (i - 1) z2 y hz2 (by rw [show i - 1 + 1 = i by omega]; exact hy)
                    omega
                  subst hR
                  clear hle hy hz2
                  go_wp2_with fail
                  go_quiet (fail)
                  go_wp2_with fail
                  go_ret
                  exact Ret.mk rfl (((HX0.out.trans HH.out.2).trans HH2.out.2).drewN _)
                · have t5 : decide (y ≤ z2) = false := decide_eq_false hle
                  have HN : Hid (∀ j a b, j + 1 < i + 1 → r[j]? = some a → r[j + 1]? = some b → a < b) := fun j a b hj ha hb => by
                    by_cases hji : j + 1 = i
                    · rw [hji, hy] at hb
                      rw [show j = i - 1 by omega, hz2] at ha
                      cases ha; cases hb
                      omega
                    · exact HH2.out.1 j a b (by omega) ha hb
                  clear hle hy hz2
                  go_wp2_with fail
                  go_quiet (fail)
                  go_wp2_with fail
                  refine ⟨⟨i + 1, by go_num, by omega, by omega, Lib.hid ⟨HN.out, HH2.out.2.drewN _⟩⟩, by simp [intOf]; omega⟩
              · obtain rfl : i = r.length := by omega
                have HAll := Lib.hid (HGo.out (HOk2.out.1 fun j a b ha hb => HH2.out.1 j a b (List.getElem?_eq_some_iff.1 hb).1 ha hb))
                have t6 : decide ((r.length : Int) < (r.length : Int)) = false := decide_eq_false (by omega)
                go_wp2_with fail
                refine ⟨⟨p + 1, by go_num, by omega, Lib.hid ⟨HAll.out, HH.out.2.trans HH2.out.2⟩⟩, by simp [intOf]; omega⟩
          · have t4 : (e != (x.evs.length : Int)) = true := by simp [hl]
            have hR := HBad.out fun h => by have := h.2.1; rw [he] at this; exact hl (Option.some.inj this)
            subst hR
            clear ha he hcs hz hl
            go_wp2_with fail
            go_quiet (fail)
            go_wp2_with fail
            go_ret
            exact Ret.mk rfl ((HX0.out.trans HH.out.2).drewN _)
        · have t3 : (a != 0) = true := by simp [hz]
          have hR := HBad.out fun h => by have := h.1; rw [ha] at this; exact hz (Option.some.inj this)
          subst hR
          clear ha he hcs hz
          go_wp2_with fail
          go_quiet (fail)
          go_wp2_with fail
          go_ret
          exact Ret.mk rfl ((HX0.out.trans HH.out.2).drewN _)
      · obtain rfl : p = l.length := by omega
        have hR := HTr2.out ⟨HLen.out, fun q r hq => HH.out.1 q r (List.getElem?_eq_some_iff.1 hq).1 hq⟩
        subst hR
        have t6 : decide ((l.length : Int) < (l.length : Int)) = false := decide_eq_false (by omega)
        go_wp2_with fail
        go_ret
        exact Ret.mk rfl (HX0.out.trans HH.out.2)
  · have s1 : ((l.length : Int) != (t.length : Int)) = true := by simp; omega
    have s2 : (l.length != t.length) = true := by simp; omega
    have s3 : (l.length = t.length) = False := eq_false hlen
    have hR := HF.out fun h => hlen h.1
    subst hR
    clear hlen
    go_enter Try.func14, Try.ntmps14
    go_wp2_with fail
    rw [← HW0.out]
    refine (HV.out _ HX0.out).mono ?_
    rintro e9 w' ⟨rfl, z, rfl⟩
    have hx1 : Ex W0 (ext W0 z) := ⟨z, rfl⟩
    have c0 := (HB0.out _ hx1).cell 0
    have l0 := (HB0.out _ hx1).lt
    have HX1 := Lib.hid hx1
    clear hx1
    go_wp2_with fail
    go_ret
    exact Ret.mk rfl (HX0.out.trans HX1.out)
end
section
open Go.RowKit Go.Shelf
/-- a message that is received: where it is sent, where it is received -/
abbrev Msg := (Nat × Nat) × (Nat × Nat)
noncomputable def rcvE (t : List Pr) (x : Nat × Nat) : List Msg := match evAt t x.1 x.2 with | some e => if e.kind = 3 then [(findO t 2 e.msg, (x.1, x.2 + 1))] else [] | none => []
/-- the messages that are received ahead of (p, j) -/
noncomputable def rcvL (t : List Pr) (p j : Nat) : List Msg := (plL t p j).flatMap (rcvE t)
noncomputable def msgs (t : List Pr) : List Msg := rcvL t t.length 0
theorem rcv_zero (t : List Pr) : rcvL t 0 0 = [] := rfl
theorem rcv_got {t : List Pr} {p j : Nat} {e : Ev} (h : evAt t p j = some e) (hk : e.kind = 3) : rcvL t p (j + 1) = rcvL t p j ++ [(findO t 2 e.msg, (p, j + 1))] := by
  unfold rcvL
  rw [plL_step, List.flatMap_append]
  simp [rcvE, h, hk]
theorem rcv_other {t : List Pr} {p j : Nat} {e : Ev} (h : evAt t p j = some e) (hk : e.kind ≠ 3) : rcvL t p (j + 1) = rcvL t p j := by
  unfold rcvL
  rw [plL_step, List.flatMap_append]
  simp [rcvE, h, hk]
theorem rcv_next (t : List Pr) (p : Nat) : rcvL t (p + 1) 0 = rcvL t p (evN t p) := by unfold rcvL; rw [plL_next]
theorem plL_le_sum {t : List Pr} (p j : Nat) (h : (p < t.length ∧ j ≤ evN t p) ∨ (p ≤ t.length ∧ j = 0)) : (plL t p j).length ≤ sumN t := by
  have hn := plL_nodup t p j
  have hm : ∀ y, y ∈ (plL t p j).map (fun x => (x.1, x.2 + 1)) → InT t y := fun y hy => by
    obtain ⟨x, hx, rfl⟩ := List.mem_map.1 hy
    refine ⟨by simp, ?_⟩
    rcases mem_plL.1 hx with ⟨-, h2⟩ | ⟨h1, h2⟩
    · exact h2
    · rcases h with ⟨-, h⟩ | ⟨-, h⟩
      · rw [h1]; omega
      · omega
  have := nodup_le (t := t) (l := (plL t p j).map (fun x => (x.1, x.2 + 1))) (by
    refine List.Pairwise.map _ (fun a b hab he => hab ?_) hn
    obtain ⟨a1, a2⟩ := a
    obtain ⟨b1, b2⟩ := b
    simp only [Prod.mk.injEq] at he ⊢
    omega) hm
  simpa using this
theorem flatMap_le {α β : Type} (f : α → List β) (hf : ∀ x, (f x).length ≤ 1) : ∀ l : List α, (l.flatMap f).length ≤ l.length
  | [] => by simp
  | x :: l => by
    have := flatMap_le f hf l
    have h := hf x
    simp only [List.flatMap_cons, List.length_append, List.length_cons]
    omega
theorem rcv_len {t : List Pr} (p j : Nat) (h : (p < t.length ∧ j ≤ evN t p) ∨ (p ≤ t.length ∧ j = 0)) : (rcvL t p j).length ≤ sumN t := by
  refine Nat.le_trans (flatMap_le (rcvE t) (fun x => ?_) _) (plL_le_sum p j h)
  unfold rcvE
  split
  · split <;> simp
  · simp
def msgCs (l : List Msg) : List Value := l.flatMap fun x => [.int .i64 (x.1.1 : Nat), .int .i64 (x.1.2 : Nat), .int .i64 (x.2.1 : Nat), .int .i64 (x.2.2 : Nat)]
theorem msgCs_snoc (l : List Msg) (x : Msg) : msgCs (l ++ [x]) = msgCs l ++ [.int .i64 (x.1.1 : Nat), .int .i64 (x.1.2 : Nat), .int .i64 (x.2.1 : Nat), .int .i64 (x.2.2 : Nat)] := by simp [msgCs]
theorem infoMsg : (Try.prog.info? 109).map (fun i => (i.zero, i.size, i.bytes)) = some (some (.agg #[.int .i64 0, .int .i64 0, .int .i64 0, .int .i64 0]), 4, 32) := by kernel_rfl
/-- what messages hands back -/
def MsgsR (t : List Pr) (w : World) (e : Ending) (w' : World) : Prop :=
  ∃ A c, e = .returned (.slice A (msgs t).length c) ∧ OwnO w' w.heap.size 109 4 (.slice A (msgs t).length c) (msgs t).length (msgCs (msgs t)) ∧ Ex w w'
set_option maxRecDepth 20000 in
set_option maxHeartbeats 3200000 in
theorem messages_c (t : List Pr) (A : Option Addr) (c : Nat) (w : World) (hT : TcC w A t) (hs : TSm t) (hcap : t.length ≤ c) (hv : validB t = true) :
    Calls Try.prog 56 #[.agg #[.slice A t.length c]] w (MsgsR t w) := by
  have hl := hs.procs
  have hse := hs.events
  have HEl : Hid (∀ (p : Nat) (x : Pr), t[p]? = some x → x.evs.length ≤ 100000) := fun p x hx => (hs.each x (List.mem_of_getElem? hx)).2.2.1
  have HT : Hid (∀ w', Ex w w' → TcC w' A t) := fun w' hx => hT.ex hx
  have HS : Hid (∀ m w', Ex w w' → Calls Try.prog 87 #[.agg #[.slice A t.length c], .int .i64 m] w' (Ret w' (.tuple #[idV (findO t 2 m), .bool (decide (0 < (findO t 2 m).2))]))) := fun m w' h => sender_c t A c m w' (HT.out w' h) hs hcap hv
  have HLn : Hid (∀ p j, (p < t.length ∧ j ≤ evN t p) ∨ (p ≤ t.length ∧ j = 0) → (rcvL t p j).length ≤ sumN t) := fun p j h => rcv_len p j h
  obtain ⟨i0, hi0, hz0, hz1, hz2⟩ := info_parts infoMsg
  obtain ⟨W0, hW0⟩ : ∃ W0, W0 = w.alloc (.cells #[.slice A t.length c] 24) := ⟨_, rfl⟩
  have HX0 : Hid (Ex w W0) := by rw [hW0]; exact (Ex.refl w).alloc _
  have HB0 : Hid (∀ w', Ex W0 w' → Blk w' w.heap.size 24 [.slice A t.length c]) := fun w' hx => by
    have : Blk W0 w.heap.size 24 [.slice A t.length c] := by rw [hW0]; exact Blk.new w _ _
    exact this.ex hx
  have HW0 := Lib.hid hW0
  clear hW0 hT hs hcap hv
  unfold MsgsR
  unfold msgs
  go_enter Try.func56, Try.ntmps56
  go_wp2_with fail
  rw [← HW0.out]
  have x0 := (HB0.out _ (Ex.refl _)).cell 0
  have l0 := (HB0.out _ (Ex.refl _)).lt
  go_wp2_with fail
  clear x0 l0
  go_loopw [3, 13] (fun v k wr => ∃ (p : Nat) (A2 : Option Addr) (c2 : Nat), v = .slice A2 (rcvL t p 0).length c2 ∧ k = .int .i64 p ∧ p ≤ t.length ∧ Hid (OwnO wr W0.heap.size 109 4 (.slice A2 (rcvL t p 0).length c2) (rcvL t p 0).length (msgCs (rcvL t p 0)) ∧ Ex W0 wr)) (fun _ k _ => t.length - (intOf k).toNat)
  case atStart => exact ⟨0, none, 0, rfl, rfl, Nat.zero_le _, Lib.hid ⟨OwnO.nil _ _ _ _, Ex.refl _⟩⟩
  case round =>
    obtain ⟨p, A2, c2, rfl, rfl, hp, HH⟩ := hrel
    by_cases hpl : p < t.length
    · have m0 : (0 : Int) ≤ (p : Int) := by omega
      have m1 : (p : Int) < (t.length : Int) := by omega
      obtain ⟨x, hx⟩ := get_at hpl
      have hel := HEl.out p x hx
      have HEv := Lib.hid (evN_at hx)
      obtain ⟨b, o, hA, hbl0, V, vc, E, ec, k0, k1, k2, -, kE⟩ := HT.out _ HX0.out p x hx
      subst hA
      have HPx : Hid (∀ w', Ex W0 w' → b < w'.heap.size ∧ w'.cell? ⟨b, o + p * 3, none⟩ = some (.string x.name) ∧ w'.cell? ⟨b, o + p * 3 + 1, none⟩ = some (.slice V x.vars.length vc) ∧ w'.cell? ⟨b, o + p * 3 + 2, none⟩ = some (.slice E x.evs.length ec)) := fun w' h => ⟨Nat.lt_of_lt_of_le hbl0 h.below.size, (h.below.cell hbl0).trans k0, (h.below.cell hbl0).trans k1, (h.below.cell hbl0).trans k2⟩
      have HXe : Hid (∀ w', Ex W0 w' → EvsC w' E x.evs) := fun w' h => kE.ex h
      obtain ⟨hbl, g0, g1, g2⟩ := HPx.out _ HH.out.2
      have x0 := (HB0.out _ HH.out.2).cell 0
      have l0 := (HB0.out _ HH.out.2).lt
      have HAt : Hid (∀ j e, x.evs[j]? = some e → evAt t p j = some e) := fun j e he => evAt_at hx he
      clear hx hbl0 k0 k1 k2 kE
      go_wp2_with fail
      clear g0 g1 g2 hbl x0 l0
      go_loopw [3, 21] (fun v k w2 => ∃ (j : Nat) (A3 : Option Addr) (c3 : Nat), v = .slice A3 (rcvL t p j).length c3 ∧ k = .int .i64 j ∧ j ≤ x.evs.length ∧ Hid (OwnO w2 W0.heap.size 109 4 (.slice A3 (rcvL t p j).length c3) (rcvL t p j).length (msgCs (rcvL t p j)) ∧ Ex W0 w2)) (fun _ k _ => x.evs.length - (intOf k).toNat)
      case atStart => exact ⟨0, A2, c2, rfl, rfl, Nat.zero_le _, Lib.hid ⟨HH.out.1.ex ((Ex.refl _).alloc _), HH.out.2.alloc _⟩⟩
      case round =>
        clear HH
        obtain ⟨j, A3, c3, rfl, rfl, hj, HH⟩ := hrel
        by_cases hjl : j < x.evs.length
        · have m2 : (0 : Int) ≤ (j : Int) := by omega
          have m3 : (j : Int) < (x.evs.length : Int) := by omega
          obtain ⟨e, he⟩ := get_at hjl
          obtain ⟨b2, o2, hA2, hbl2, B, bc, e0, e1, e2, e3, e4, -⟩ := HXe.out _ HH.out.2 j e he
          subst hA2
          have hAt := HAt.out j e he
          by_cases hk : e.kind = 3
          · have s1 : (e.kind == 3) = true := by simp [hk]
            have hrl := HLn.out p j (.inl ⟨hpl, by rw [HEv.out]; omega⟩)
            have HG := Lib.hid (rcv_got hAt hk)
            generalize rcvL t p j = L at *
            generalize hL2 : rcvL t p (j + 1) = L2 at *
            have HL2 := Lib.hid hL2
            clear he hk hAt hL2
            have w1 : IntKind.i64.wrap ((j : Int) + 1) = (j : Int) + 1 := IntWalk.i64_in _ (by omega)
            have y0 := (HB0.out _ (HH.out.2.alloc (.cells #[.int .i64 e.kind, .int .i64 e.peer, .int .i64 e.msg, .int .i64 e.time, .slice B e.asg.length bc] 61))).cell 0
            have yl := (HB0.out _ HH.out.2).lt
            have HS1 := Lib.hid (HS.out e.msg _ (HX0.out.trans (HH.out.2.alloc (.cells #[.int .i64 e.kind, .int .i64 e.peer, .int .i64 e.msg, .int .i64 e.time, .slice B e.asg.length bc] 61))))
            generalize findO t 2 e.msg = F at *
            obtain ⟨F1, F2⟩ := F
            unfold idV at HS1
            go_wp2_with fail
            refine (HS1.out).mono ?_
            rintro e9 w' ⟨rfl, z, rfl⟩
            generalize hW1 : ext (wr.alloc (.cells #[.int .i64 e.kind, .int .i64 e.peer, .int .i64 e.msg, .int .i64 e.time, .slice B e.asg.length bc] 61)) z = W1
            have HX1 : Hid (Ex wr W1) := by rw [← hW1]; exact ((Ex.refl _).alloc _).ext z
            clear hW1 z HS1 e0 e1 e2 e3 e4 y0 yl hbl2
            have HO := Lib.hid (((HH.out.1.ex HX1.out).ex ((Ex.refl _).alloc (.cells #[.int .i64 (F1 : Nat), .int .i64 (F2 : Nat)] 27))).ex ((Ex.refl _).alloc (.cells #[.int .i64 (F1 : Nat), .int .i64 (F2 : Nat), .int .i64 (p : Nat), .int .i64 ((j : Int) + 1)] 109)))
            have HXX := Lib.hid (((HH.out.2.trans HX1.out).alloc (.cells #[.int .i64 (F1 : Nat), .int .i64 (F2 : Nat)] 27)).alloc (.cells #[.int .i64 (F1 : Nat), .int .i64 (F2 : Nat), .int .i64 (p : Nat), .int .i64 ((j : Int) + 1)] 109))
            have hbase : W0.heap.size ≤ W1.heap.size := (HH.out.2.trans HX1.out).below.size
            go_wp2_with (at_builtin; refine wpList_append_one _ rfl _ _ 86 rfl W0.heap.size 109 i0 _ 4 32 Try.underlying86 hi0 hz0 hz1 hz2 rfl (.slice A3 L.length c3) L.length (msgCs L) rfl HO.out (W1.heap.size + 1) [.int .i64 (F1 : Nat), .int .i64 (F2 : Nat), .int .i64 (p : Nat), .int .i64 ((j : Int) + 1)] rfl rfl ?c1 ?c2 ?c3 ?c4 ?c5 ?_)
            case c1 => exact news_new rfl (by simp)
            case c2 => exact one_ints (by simp)
            case c3 => omega
            case c4 => omega
            case c5 => simp; omega
            intro A4 c4 w4 ho hg hat hEx
            have HX4 := Lib.hid (hEx W0 HXX.out (Nat.le_refl _))
            have HO4 : Hid (OwnO w4 W0.heap.size 109 4 (.slice A4 L2.length c4) L2.length (msgCs L2)) := by
              rw [HG.out, msgCs_snoc, List.length_append]; exact ho
            have hl2 : L2.length = L.length + 1 := by rw [HG.out]; simp
            clear hg hat hEx ho
            go_wp2_with fail
            refine ⟨⟨j + 1, A4, c4, by rw [HL2.out, hl2], by go_num, by omega, Lib.hid ⟨by rw [HL2.out]; exact HO4.out, HX4.out⟩⟩, by simp [intOf]; omega⟩
          · have s1 : (e.kind == 3) = false := by simp [hk]
            have HG := Lib.hid (rcv_other hAt hk)
            clear he hk hAt
            go_wp2_with fail
            refine ⟨⟨j + 1, A3, c3, by rw [HG.out], by go_num, by omega, Lib.hid ⟨by rw [HG.out]; exact HH.out.1.ex ((Ex.refl _).alloc _), HH.out.2.alloc _⟩⟩, by simp [intOf]; omega⟩
        · obtain rfl : j = x.evs.length := by omega
          have s1 : decide ((x.evs.length : Int) < (x.evs.length : Int)) = false := decide_eq_false (by omega)
          have HG : Hid (rcvL t p x.evs.length = rcvL t (p + 1) 0) := by rw [← HEv.out, rcv_next]; exact rfl
          go_wp2_with fail
          refine ⟨⟨p + 1, A3, c3, by rw [HG.out], by go_num, by omega, Lib.hid ⟨by rw [← HG.out]; exact HH.out.1, HH.out.2⟩⟩, by simp [intOf]; omega⟩
    · obtain rfl : p = t.length := by omega
      have s1 : decide ((t.length : Int) < (t.length : Int)) = false := decide_eq_false (by omega)
      go_wp2_with fail
      go_ret
      exact ⟨A2, c2, rfl, HH.out.1.mono HX0.out.below.size, HX0.out.trans HH.out.2⟩
end
section
/-- ascending, and beginning with 0 -/
def Asc (r : List Int) : Prop := r[0]? = some 0 ∧ ∀ i a b, r[i]? = some a → r[i + 1]? = some b → a < b
theorem okRow.asc {n : Nat} {r : List Int} (h : okRow n r) : Asc r := ⟨h.1, h.2.2⟩
theorem asc_lt {r : List Int} (h : Asc r) {i j : Nat} {a b : Int} (hij : i < j) (ha : r[i]? = some a) (hb : r[j]? = some b) : a < b := by
  induction j generalizing b with
  | zero => omega
  | succ j ih =>
    obtain ⟨c, hc⟩ : ∃ c, r[j]? = some c := get_at (by have := (List.getElem?_eq_some_iff.1 hb).1; omega)
    have h1 := h.2 j c b hc hb
    by_cases hj : i = j
    · subst hj; rw [ha] at hc; cases hc; exact h1
    · have := ih (by omega) hc; omega
theorem asc_pos {r : List Int} (h : Asc r) : 0 < r.length := (List.getElem?_eq_some_iff.1 h.1).1
theorem asc_nonneg {r : List Int} (h : Asc r) {a : Int} (ha : a ∈ r) : 0 ≤ a := by
  obtain ⟨i, hi⟩ := List.mem_iff_getElem?.1 ha
  cases i with
  | zero => rw [h.1] at hi; cases hi; omega
  | succ i => have := asc_lt h (Nat.succ_pos i) h.1 hi; omega
theorem asc_take {r : List Int} (h : Asc r) {k : Nat} (hk : 0 < k) : Asc (r.take k) := by
  have hg : ∀ i a, (r.take k)[i]? = some a → r[i]? = some a := fun i a hi => by
    rw [List.getElem?_take] at hi
    split at hi
    · exact hi
    · cases hi
  exact ⟨by rw [List.getElem?_take, if_pos hk]; exact h.1, fun i a b ha hb => h.2 i a b (hg i a ha) (hg _ b hb)⟩
theorem asc_sorted {r : List Int} (h : Asc r) : r.Pairwise (· ≤ ·) := by
  rw [List.pairwise_iff_getElem]
  intro i j hi hj hij
  have := asc_lt h hij (List.getElem?_eq_getElem hi) (List.getElem?_eq_getElem hj)
  omega
/-- the greatest one that is at most n -/
def IsG (r : List Int) (n a : Int) : Prop := a ∈ r ∧ a ≤ n ∧ ∀ b, b ∈ r → b ≤ n → b ≤ a
theorem isG_eq {r : List Int} {n a b : Int} (h : IsG r n a) (g : IsG r n b) : a = b := by
  have h1 := h.2.2 b g.1 g.2.1
  have h2 := g.2.2 a h.1 h.2.1
  omega
open Classical in
noncomputable def grt (r : List Int) (n : Int) : Int := if h : ∃ a, IsG r n a then Classical.choose h else 0
theorem grt_of {r : List Int} {n a : Int} (h : IsG r n a) : grt r n = a := by
  have he : ∃ a, IsG r n a := ⟨a, h⟩
  unfold grt
  rw [dif_pos he]
  exact isG_eq (Classical.choose_spec he) h
theorem isG_snoc {r : List Int} {n k a : Int} (h : IsG r n k) (ha : ∀ b, b ∈ r → b < a) : IsG (r ++ [a]) n (if a ≤ n then a else k) := by
  by_cases hn : a ≤ n
  · rw [if_pos hn]
    refine ⟨by simp, hn, fun b hb hbn => ?_⟩
    rcases List.mem_append.1 hb with hb | hb
    · have := ha b hb; omega
    · rw [List.mem_singleton.1 hb]; exact Int.le_refl _
  · rw [if_neg hn]
    refine ⟨List.mem_append.2 (.inl h.1), h.2.1, fun b hb hbn => ?_⟩
    rcases List.mem_append.1 hb with hb | hb
    · exact h.2.2 b hb hbn
    · rw [List.mem_singleton.1 hb] at hbn; omega
theorem take_snoc {α : Type} {r : List α} {i : Nat} {a : α} (h : r[i]? = some a) : r.take (i + 1) = r.take i ++ [a] := by
  rw [List.take_add_one, h]
  rfl
theorem asc_before {r : List Int} (h : Asc r) {i : Nat} {a : Int} (ha : r[i]? = some a) : ∀ b, b ∈ r.take i → b < a := fun b hb => by
  obtain ⟨j, hj⟩ := List.mem_iff_getElem?.1 hb
  rw [List.getElem?_take] at hj
  split at hj
  · exact asc_lt h (by assumption) hj ha
  · cases hj
theorem isG_one {r : List Int} {n : Int} (h : Asc r) (hn : 0 ≤ n) : IsG (r.take 1) n 0 := by
  rw [take_snoc (i := 0) h.1]
  refine ⟨by simp, hn, fun b hb _ => ?_⟩
  simp only [List.take_zero, List.nil_append, List.mem_singleton] at hb
  omega
theorem isG_ex {r : List Int} {n : Int} (h : Asc r) (hn : 0 ≤ n) : ∃ a, IsG r n a := by
  have : ∀ i, i < r.length → ∃ a, IsG (r.take (i + 1)) n a := fun i => by
    induction i with
    | zero => exact fun _ => ⟨0, isG_one h hn⟩
    | succ i ih =>
      intro hi
      obtain ⟨k, hk⟩ := ih (by omega)
      obtain ⟨a, ha⟩ := get_at hi
      rw [take_snoc ha]
      exact ⟨_, isG_snoc hk (asc_before h ha)⟩
  have hp := asc_pos h
  obtain ⟨a, ha⟩ := this (r.length - 1) (by omega)
  rw [show r.length - 1 + 1 = r.length by omega, List.take_length] at ha
  exact ⟨a, ha⟩
theorem grt_isG {r : List Int} {n : Int} (h : Asc r) (hn : 0 ≤ n) : IsG r n (grt r n) := by
  obtain ⟨a, ha⟩ := isG_ex h hn
  rw [grt_of ha]
  exact ha
theorem split_at {n : Int} : ∀ {r : List Int}, r.Pairwise (· ≤ ·) → ∃ i, i ≤ r.length ∧ r.countP (· < n) = i ∧ (∀ j a, j < i → r[j]? = some a → a < n) ∧ (∀ j a, i ≤ j → r[j]? = some a → n ≤ a)
  | [], _ => ⟨0, Nat.le_refl _, rfl, fun _ _ h => absurd h (Nat.not_lt_zero _), fun _ _ _ h => by simp at h⟩
  | x :: r, h => by
    obtain ⟨h1, h2⟩ := List.pairwise_cons.1 h
    by_cases hx : x < n
    · obtain ⟨i, g1, g2, g3, g4⟩ := split_at (n := n) h2
      refine ⟨i + 1, by simp; omega, by rw [List.countP_cons, g2]; simp [hx], fun j a hj ha => ?_, fun j a hj ha => ?_⟩
      · cases j with
        | zero => simp at ha; omega
        | succ j => exact g3 j a (by omega) (by simpa using ha)
      · cases j with
        | zero => omega
        | succ j => exact g4 j a (by omega) (by simpa using ha)
    · refine ⟨0, Nat.zero_le _, ?_, fun _ _ h => absurd h (Nat.not_lt_zero _), fun j a _ ha => ?_⟩
      · rw [List.countP_eq_zero]
        intro a ha
        rcases List.mem_cons.1 ha with rfl | ha
        · simpa using hx
        · have := h1 a ha; simp; omega
      · cases j with
        | zero => simp at ha; omega
        | succ j =>
          have := h1 a (List.mem_iff_getElem?.2 ⟨j, by simpa using ha⟩)
          omega
/-- the place at which the search stops -/
theorem search_at {r : List Int} {n : Int} (h : Asc r) (hn : 0 ≤ n) :
    r.countP (· < n) ≤ r.length ∧ ((r.contains n = true ∧ r[r.countP (· < n)]? = some n ∧ IsG r n n) ∨
    (r.contains n = false ∧ 0 < r.countP (· < n) ∧ r[r.countP (· < n) - 1]? = some (grt r n))) := by
  obtain ⟨i, h1, h2, h3, h4⟩ := split_at (n := n) (asc_sorted h)
  rw [h2]
  refine ⟨h1, ?_⟩
  by_cases hc : n ∈ r
  · obtain ⟨j, hj⟩ := List.mem_iff_getElem?.1 hc
    left
    have hij : i ≤ j := Nat.le_of_not_lt fun hlt => by have := h3 j n hlt hj; omega
    have hji : j ≤ i := Nat.le_of_not_lt fun hlt => by
      obtain ⟨b, hb⟩ := get_at (show i < r.length by have := (List.getElem?_eq_some_iff.1 hj).1; omega)
      have g1 := h4 i b (Nat.le_refl _) hb
      have g2 := asc_lt h hlt hb hj
      omega
    obtain rfl : i = j := by omega
    exact ⟨by simpa using hc, hj, hc, Int.le_refl _, fun b _ hb => hb⟩
  · right
    have hpos : 0 < i := Nat.pos_of_ne_zero fun h0 => by
      have := h4 0 0 (by omega) h.1
      have hn0 : n = 0 := by omega
      exact hc (by rw [hn0]; exact List.mem_iff_getElem?.2 ⟨0, h.1⟩)
    obtain ⟨a, ha⟩ := get_at (show i - 1 < r.length by omega)
    have hg : IsG r n a := ⟨List.mem_iff_getElem?.2 ⟨_, ha⟩, by have := h3 (i - 1) a (by omega) ha; omega, fun b hb hbn => by
      obtain ⟨j, hj⟩ := List.mem_iff_getElem?.1 hb
      by_cases hji : j < i
      · by_cases hj1 : j = i - 1
        · subst hj1; rw [ha] at hj; cases hj; exact Int.le_refl _
        · have := asc_lt h (show j < i - 1 by omega) hj ha; omega
      · have := h4 j b (by omega) hj
        have : b = n := by omega
        exact absurd (this ▸ hb) hc⟩
    exact ⟨by simpa using hc, hpos, by rw [grt_of hg]; exact ha⟩
/-- the stored ones -/
def stored (r : List Int) : List Int := r.take (max 1 (r.length - 1))
theorem asc_stored {r : List Int} (h : Asc r) : Asc (stored r) := asc_take h (by omega)
/-- no message is received without being sent -/
def Closed (M : List Msg) (c : List Int) : Prop := ∀ m, m ∈ M → ∀ a b, c[m.2.1]? = some a → c[m.1.1]? = some b → (m.2.2 : Int) ≤ a → (m.1.2 : Int) ≤ b
structure IsLine (M : List Msg) (P : List (List Int)) (c : List Int) : Prop where
  len : c.length = P.length
  mem : ∀ (p : Nat) (r : List Int) (a : Int), P[p]? = some r → c[p]? = some a → a ∈ r
  closed : Closed M c
/-- c is at least d -/
def Geq (c d : List Int) : Prop := ∀ (p : Nat) (a b : Int), d[p]? = some a → c[p]? = some b → a ≤ b
structure IsTop (M : List Msg) (P : List (List Int)) (c : List Int) : Prop where
  line : IsLine M P c
  top : ∀ d, IsLine M P d → Geq c d
theorem top_eq {M : List Msg} {P : List (List Int)} {c d : List Int} (h : IsTop M P c) (g : IsTop M P d) : c = d := by
  apply List.ext_getElem?
  intro p
  by_cases hp : p < P.length
  · obtain ⟨a, ha⟩ := get_at (show p < c.length by rw [h.line.len]; exact hp)
    obtain ⟨b, hb⟩ := get_at (show p < d.length by rw [g.line.len]; exact hp)
    have h1 := h.top d g.line p b a hb ha
    have h2 := g.top c h.line p a b ha hb
    rw [ha, hb, show a = b by omega]
  · rw [List.getElem?_eq_none (by rw [h.line.len]; omega), List.getElem?_eq_none (by rw [g.line.len]; omega)]
/-- on the way down: members, and at least every line -/
structure Down (M : List Msg) (P : List (List Int)) (c : List Int) : Prop where
  len : c.length = P.length
  mem : ∀ (p : Nat) (r : List Int) (a : Int), P[p]? = some r → c[p]? = some a → a ∈ r
  top : ∀ d, IsLine M P d → Geq c d
theorem Down.end_ {M : List Msg} {P : List (List Int)} {c : List Int} (h : Down M P c) (hc : Closed M c) : IsTop M P c := ⟨⟨h.len, h.mem, hc⟩, h.top⟩
/-- one step down -/
theorem Down.step {M : List Msg} {P : List (List Int)} {c : List Int} (h : Down M P c) (hP : ∀ (p : Nat) (r : List Int), P[p]? = some r → Asc r) {m : Msg} (hm : m ∈ M) (h1 : 1 ≤ m.2.2) {b : Int} {r : List Int} (hr : P[m.2.1]? = some r) (hb : c[m.1.1]? = some b) (hlt : b < (m.1.2 : Int)) :
    Down M P (c.set m.2.1 (grt r ((m.2.2 : Int) - 1))) := by
  have hg := grt_isG (hP _ r hr) (show (0 : Int) ≤ (m.2.2 : Int) - 1 by omega)
  refine ⟨by rw [List.length_set]; exact h.len, fun p r' x hp hx => ?_, fun d hd p x y hx hy => ?_⟩
  · rw [List.getElem?_set] at hx
    split at hx
    · rename_i he
      subst he
      rw [hr] at hp; cases hp
      split at hx
      · cases hx; exact hg.1
      · cases hx
    · exact h.mem p r' x hp hx
  · rw [List.getElem?_set] at hy
    split at hy
    · rename_i he
      subst he
      split at hy
      · cases hy
        obtain ⟨s, hs⟩ : ∃ s, d[m.1.1]? = some s := get_at (by have := (List.getElem?_eq_some_iff.1 hb).1; rw [hd.len, ← h.len]; exact this)
        have h2 := h.top d hd _ s b hs hb
        refine hg.2.2 x (hd.mem _ r x hr hx) (Int.not_lt.1 fun hgt => ?_)
        have := hd.closed m hm x s hx hs (by omega)
        omega
      · cases hy
    · exact h.top d hd p x y hx hy
/-- the last states of all rows -/
theorem down_start {M : List Msg} {P : List (List Int)} (hP : ∀ (p : Nat) (r : List Int), P[p]? = some r → Asc r) {c : List Int} (hl : c.length = P.length) (hc : ∀ (p : Nat) (r : List Int) (a : Int), P[p]? = some r → c[p]? = some a → r[r.length - 1]? = some a) : Down M P c := by
  refine ⟨hl, fun p r a hr ha => List.mem_iff_getElem?.2 ⟨_, hc p r a hr ha⟩, fun d hd p x y hx hy => ?_⟩
  obtain ⟨r, hr⟩ := get_at (show p < P.length by rw [← hl]; exact (List.getElem?_eq_some_iff.1 hy).1)
  obtain ⟨j, hj⟩ := List.mem_iff_getElem?.1 (hd.mem p r x hr hx)
  have hl2 := hc p r y hr hy
  have hjl := (List.getElem?_eq_some_iff.1 hj).1
  by_cases he : j = r.length - 1
  · rw [he, hl2] at hj; cases hj; exact Int.le_refl _
  · have := asc_lt (hP p r hr) (show j < r.length - 1 by omega) hj hl2
    omega
/-- the sum of all counts -/
def sumC (c : List Int) : Nat := (c.map Int.toNat).sum
theorem sumC_set {c : List Int} {q : Nat} {a v : Int} (ha : c[q]? = some a) (hv : 0 ≤ v) (hlt : v < a) : sumC (c.set q v) < sumC c := by
  induction c generalizing q with
  | nil => simp at ha
  | cons x c ih =>
    cases q with
    | zero =>
      simp only [List.getElem?_cons_zero, Option.some.injEq] at ha
      subst ha
      simp only [sumC, List.set_cons_zero, List.map_cons, List.sum_cons]
      omega
    | succ q =>
      have := ih (q := q) (by simpa using ha)
      simp only [sumC, List.set_cons_succ, List.map_cons, List.sum_cons] at this ⊢
      omega
open Go.RowKit in
theorem msg_cells {M : List Msg} {i : Nat} {m : Msg} (h : M[i]? = some m) : (msgCs M)[i * 4]? = some (.int .i64 (m.1.1 : Nat)) ∧ (msgCs M)[i * 4 + 1]? = some (.int .i64 (m.1.2 : Nat)) ∧ (msgCs M)[i * 4 + 2]? = some (.int .i64 (m.2.1 : Nat)) ∧ (msgCs M)[i * 4 + 3]? = some (.int .i64 (m.2.2 : Nat)) := by
  induction M generalizing i with
  | nil => simp at h
  | cons x M ih =>
    cases i with
    | zero =>
      simp only [List.getElem?_cons_zero, Option.some.injEq] at h
      subst h
      simp [msgCs]
    | succ i =>
      have := ih (i := i) (by simpa using h)
      rw [show (i + 1) * 4 = i * 4 + 1 + 1 + 1 + 1 by omega]
      simpa [msgCs] using this
end
end Go.Proofs.Ytdenojfbdkdpiaa
