/-
  The program's Fault, walked.
  Conditions: as each theorem says.
-/
import Derived.Test.YtpmponafjhnegaaGreatDoorYf
import Derived.Test.YtpmponafjhnegaaGreatDoorHp
import Derived.Test.YtpmponafjhnegaaGreatDoorHl
namespace Go.Proofs.YtpmponafjhnegaaGreatDoor
open Go.RowKit Go.Shelf
theorem results_pfault {fn : Func} {p q g h : Nat} {a b u : Value} {w : World} {tmps : Array Value} (hr : fn.results = #[.cell p 40, .cell q 27]) (hp : tmps.getD p undef = .pointer (some ⟨g, 0, none⟩)) (hq : tmps.getD q undef = .pointer (some ⟨h, 0, none⟩)) (hB : Blk w g 40 [a, b]) (hC : Blk w h 27 [u]) :
    (results fn tmps).run Tryz.prog w = .ok (.tuple #[.agg #[a, b], u]) w := by
  have h0 : w.cell? ⟨g, 0, none⟩ = some a := hB.cell 0
  have h1 : w.cell? ⟨g, 1, none⟩ = some b := hB.cell 1
  have h2 : w.cell? ⟨h, 0, none⟩ = some u := hC.cell 0
  rw [Array.getD_eq_getD_getElem?] at hp hq
  simp [results, hr, hp, hq, go_sem, h0, h1, h2]
def pfaultV (x : (Nat × Nat) × Nat) : Value := .tuple #[idV x.1, .int .i64 (x.2 : Nat)]
/-- the two results are written -/
theorem flt_ret {w W : World} {a b u : Value} {p i er : Value} (g1 : Blk W (w.heap.size + 1) 40 [a, b]) (g2 : Blk W (w.heap.size + 1 + 1) 27 [u]) (gX : Ex w W) :
    Blk (((W.setCell ⟨w.heap.size + 1, 0, none⟩ p).setCell ⟨w.heap.size + 1, 1, none⟩ i).setCell ⟨w.heap.size + 1 + 1, 0, none⟩ er) (w.heap.size + 1) 40 [p, i] ∧
    Blk (((W.setCell ⟨w.heap.size + 1, 0, none⟩ p).setCell ⟨w.heap.size + 1, 1, none⟩ i).setCell ⟨w.heap.size + 1 + 1, 0, none⟩ er) (w.heap.size + 1 + 1) 27 [er] ∧
    Ex w (((W.setCell ⟨w.heap.size + 1, 0, none⟩ p).setCell ⟨w.heap.size + 1, 1, none⟩ i).setCell ⟨w.heap.size + 1 + 1, 0, none⟩ er) ∧
    KeepsOthers W (((W.setCell ⟨w.heap.size + 1, 0, none⟩ p).setCell ⟨w.heap.size + 1, 1, none⟩ i).setCell ⟨w.heap.size + 1 + 1, 0, none⟩ er) := by
  refine ⟨?_, ?_, ?_, ?_⟩
  · exact ((g1.set_ 0 p).set_ 1 i).far (p := ⟨w.heap.size + 1 + 1, 0, none⟩) (by show _ ≠ w.heap.size + 1 + 1; omega) er
  · exact ((g2.far (p := ⟨w.heap.size + 1, 0, none⟩) (by show _ ≠ w.heap.size + 1; omega) p).far (p := ⟨w.heap.size + 1, 1, none⟩) (by show _ ≠ w.heap.size + 1; omega) i).set_ 0 er
  · exact ((gX.setCell (p := ⟨w.heap.size + 1, 0, none⟩) (by show _ ≤ w.heap.size + 1; omega) p).setCell (p := ⟨w.heap.size + 1, 1, none⟩) (by show _ ≤ w.heap.size + 1; omega) i).setCell (p := ⟨w.heap.size + 1 + 1, 0, none⟩) (by show _ ≤ w.heap.size + 1 + 1; omega) er
  · exact ((KeepsOthers.setCell W _ _).trans (KeepsOthers.setCell _ _ _)).trans (KeepsOthers.setCell _ _ _)
attribute [local go_sem] Oper.semAt_some
set_option maxRecDepth 100000 in
set_option maxHeartbeats 6400000 in
theorem pFault_c (t : List Pr) (A : Option Addr) (c : Nat) (w : World) (hT : TcC w A t) (hs : TSm t) (hcap : t.length ≤ c) :
    Calls Tryz.prog 59 #[.agg #[.slice A t.length c]] w (Ret w (pfaultV (faultO t))) := by
  have hl := hs.procs
  have HIn := Lib.hid (fun w => in_c (t.length : Int) 1 8 w)
  have HPf : Hid (∀ p w', Ex w w' → p < t.length → Calls Tryz.prog 88 #[.agg #[.slice A t.length c], .int .i64 p] w' (Ret w' (.int .i64 (headE t p : Nat)))) := fun p w' h hp => procFault_c t A c p w' (hT.ex h) hs hp hcap
  have HEf : Hid (∀ (x : GItem t w) w', Ex w w' → Calls Tryz.prog 90 #[.agg #[.slice A t.length c], .agg #[.int .i64 x.1.p, .int .i64 ((x.1.i : Int) + 1)], .agg #[.int .i64 x.1.e.kind, .int .i64 x.1.e.peer, .int .i64 x.1.e.msg, .int .i64 x.1.e.time, .slice x.1.B x.1.e.asg.length x.1.bc]] w' (Ret w' (.int .i64 (formE t (x.1.p, x.1.i + 1) : Nat)))) := fun x w' h => evFault_c t A c x.1.p x.1.i x.1.e x.1.B x.1.bc w' (hT.ex h) hs x.2.at_ (x.2.row.ex h) x.2.cap
  have HMf : Hid (∀ w', Ex w w' → (∀ x, InT t x → formE t x = 0) → Calls Tryz.prog 91 #[.agg #[.slice A t.length c]] w' (MsgR t w')) := fun w' h hf => msgFault_c t A c w' (hT.ex h) hs hf
  have HCy : Hid (∀ nl w', Ex w w' → (∀ x, InT t x → formE t x = 0) → (∀ x, InT t x → pairE t x = 0) → Blk w' nl 177 (ltC fun m => (findO t 2 (m : Int), findO t 3 (m : Int))) → Calls Tryz.prog 92 #[.agg #[.slice A t.length c], .pointer (some ⟨nl, 0, none⟩)] w' (CycR t w')) := fun nl w' h hf hp hL => cyclic_c t A c nl w' (hT.ex h) hs hf (paired_of hp) hL
  have HA1 : Hid (t.length < 1 ∨ 8 < t.length → faultO t = ((0, 0), 1)) := fun h => fault_arg h
  have HA2 : Hid (¬ (t.length < 1 ∨ 8 < t.length) → ∀ p, p < t.length → headE t p ≠ 0 → (∀ q, q < p → headE t q = 0) → faultO t = ((p, 0), headE t p)) := fun h p h1 h2 h3 => fault_head h h1 h2 h3
  have HA3 : Hid (¬ (t.length < 1 ∨ 8 < t.length) → (∀ q, q < t.length → headE t q = 0) → ∀ x, IsF t (fun x => formE t x ≠ 0) x → faultO t = (x, formE t x)) := fun h hh x hx => fault_form h hh hx
  have HA4 : Hid (¬ (t.length < 1 ∨ 8 < t.length) → (∀ q, q < t.length → headE t q = 0) → (∀ x, InT t x → formE t x = 0) → ∀ x, IsF t (fun x => pairE t x ≠ 0) x → faultO t = (x, pairE t x)) := fun h hh hf x hx => fault_pair h hh hf hx
  have HA5 : Hid (¬ (t.length < 1 ∨ 8 < t.length) → (∀ q, q < t.length → headE t q = 0) → (∀ x, InT t x → formE t x = 0) → (∀ x, InT t x → pairE t x = 0) → ∀ x, IsF t (OnC t) x → faultO t = (x, 10)) := fun h hh hf hp x hx => fault_cycle h hh hf hp hx
  have HA6 : Hid (¬ (t.length < 1 ∨ 8 < t.length) → (∀ q, q < t.length → headE t q = 0) → (∀ x, InT t x → formE t x = 0) → (∀ x, InT t x → pairE t x = 0) → (∀ x, ¬ OnC t x) → faultO t = ((0, 0), 0)) := fun h hh hf hp hx => fault_none h hh hf hp hx
  generalize faultO t = R at *
  obtain ⟨W0, hW0⟩ : ∃ W0, W0 = ((w.alloc (.cells #[.slice A t.length c] 24)).alloc (.cells #[.int .i64 0, .int .i64 0] 40)).alloc (.cells #[.int .i64 0] 27) := ⟨_, rfl⟩
  have HX0 : Hid (Ex w W0) := by rw [hW0]; exact (((Ex.refl w).alloc _).alloc _).alloc _
  have hsz0 : W0.heap.size = w.heap.size + 3 := by rw [hW0]; simp
  have HB0 : Hid (∀ w', Ex W0 w' → Blk w' w.heap.size 24 [.slice A t.length c]) := fun w' hx => by
    have : Blk W0 w.heap.size 24 [.slice A t.length c] := by rw [hW0]; exact ((Blk.new w _ _).alloc _).alloc _
    exact this.ex hx
  have HB1 : Hid (∀ w', Ex W0 w' → Blk w' (w.heap.size + 1) 40 [.int .i64 0, .int .i64 0]) := fun w' hx => by
    have : Blk W0 (w.heap.size + 1) 40 [.int .i64 0, .int .i64 0] := by
      rw [hW0, show w.heap.size + 1 = (w.alloc (.cells #[.slice A t.length c] 24)).heap.size by simp]
      exact (Blk.new _ _ _).alloc _
    exact this.ex hx
  have HB2 : Hid (∀ w', Ex W0 w' → Blk w' (w.heap.size + 1 + 1) 27 [.int .i64 0]) := fun w' hx => by
    have : Blk W0 (w.heap.size + 1 + 1) 27 [.int .i64 0] := by
      rw [hW0, show w.heap.size + 1 + 1 = ((w.alloc (.cells #[.slice A t.length c] 24)).alloc (.cells #[.int .i64 0, .int .i64 0] 40)).heap.size by simp]
      exact Blk.new _ _ _
    exact this.ex hx
  have HRet : Hid (∀ (W : World) (p i er : Value), Ex W0 W → Blk (((W.setCell ⟨w.heap.size + 1, 0, none⟩ p).setCell ⟨w.heap.size + 1, 1, none⟩ i).setCell ⟨w.heap.size + 1 + 1, 0, none⟩ er) (w.heap.size + 1) 40 [p, i] ∧ Blk (((W.setCell ⟨w.heap.size + 1, 0, none⟩ p).setCell ⟨w.heap.size + 1, 1, none⟩ i).setCell ⟨w.heap.size + 1 + 1, 0, none⟩ er) (w.heap.size + 1 + 1) 27 [er] ∧ Ex w (((W.setCell ⟨w.heap.size + 1, 0, none⟩ p).setCell ⟨w.heap.size + 1, 1, none⟩ i).setCell ⟨w.heap.size + 1 + 1, 0, none⟩ er) ∧ KeepsOthers W (((W.setCell ⟨w.heap.size + 1, 0, none⟩ p).setCell ⟨w.heap.size + 1, 1, none⟩ i).setCell ⟨w.heap.size + 1 + 1, 0, none⟩ er)) :=
    fun W p i er hx => flt_ret (HB1.out W hx) (HB2.out W hx) (HX0.out.trans hx)
  have HW0 := Lib.hid hW0
  have HSz0 := Lib.hid hsz0
  have HTh := Lib.hid hT
  clear hW0 hsz0 hT hcap
  refine (callsIn_wide (n := 9)).1 ?_
  refine callsIn_of_wp_marks Tryz.func59 rfl trivial ?_ rfl
  simp only [Tryz.ntmps59, List.size_toArray, List.length_cons, List.length_nil, Nat.reduceAdd, Nat.reduceSub, Array.replicate_succ, Array.replicate_zero, List.push_toArray, List.append_toArray, List.nil_append, List.cons_append]
  by_cases h18 : t.length < 1 ∨ 8 < t.length
  · have hib : inB (t.length : Int) 1 8 = false := by
      unfold inB
      rcases h18 with h | h
      · rw [decide_eq_false (by omega : ¬ (1 : Int) ≤ (t.length : Int))]; rfl
      · rw [decide_eq_false (by omega : ¬ (t.length : Int) ≤ 8)]; simp
    have hR := HA1.out h18
    subst hR
    rw [hib] at HIn
    clear h18 hib
    gi_wp2_with (refine ⟨trivial, ?_⟩; gi_at_call 87; rw [← HW0.out]; refine (callsIn_wide.2 (HIn.out _)).mono ?_; rintro e w' ⟨rfl, z, rfl⟩; have c0 := (HB1.out _ ⟨z, rfl⟩).cell 0; have c1 := (HB1.out _ ⟨z, rfl⟩).cell 1; have c2 := (HB2.out _ ⟨z, rfl⟩).cell 0; have f0 := (HB1.out _ ⟨z, rfl⟩).frozen 0; have f1 := (HB1.out _ ⟨z, rfl⟩).frozen 1; have f2 := (HB2.out _ ⟨z, rfl⟩).frozen 0; have l1 := (HB1.out _ ⟨z, rfl⟩).lt; have l2 := (HB2.out _ ⟨z, rfl⟩).lt)
    have HX1 := (HRet.out (ext W0 (by assumption)) (.int .i64 0) (.int .i64 0) (.int .i64 1) ⟨_, rfl⟩)
    exact ⟨_, results_pfault rfl rfl rfl HX1.1 HX1.2.1, rfl, HX1.2.2.1⟩
  have H18 := Lib.hid h18
  have hib : inB (t.length : Int) 1 8 = true := by
    unfold inB
    rw [decide_eq_true (by omega : (1 : Int) ≤ (t.length : Int)), decide_eq_true (by omega : (t.length : Int) ≤ 8)]
    rfl
  rw [hib] at HIn
  clear hib
  gi_wp2_with (refine ⟨trivial, ?_⟩; gi_at_call 87; rw [← HW0.out]; refine (callsIn_wide.2 (HIn.out _)).mono ?_; rintro e w' ⟨rfl, z, rfl⟩; have c0 := (HB0.out _ ⟨z, rfl⟩).cell 0; have l1 := (HB0.out _ ⟨z, rfl⟩).lt; have HX1 := Lib.hid (show Ex W0 (ext W0 z) from ⟨z, rfl⟩))
  clear c0 l1
  gi_loopw [23] (fun i wr => ∃ p : Nat, i = .int .i64 p ∧ p ≤ t.length ∧ Hid ((∀ q, q < p → headE t q = 0) ∧ Ex W0 wr)) (fun i _ => t.length - (intOf i).toNat)
  case atStart => exact ⟨0, rfl, Nat.zero_le _, Lib.hid ⟨fun q h => absurd h (Nat.not_lt_zero _), HX1.out⟩⟩
  case round =>
    obtain ⟨p, rfl, hp, HH⟩ := hrel
    have x0 := (HB0.out _ HH.out.2).cell 0
    have l0 := (HB0.out _ HH.out.2).lt
    by_cases hpl : p < t.length
    · have m0 : (0 : Int) ≤ (p : Int) := by omega
      have m1 : (p : Int) < (t.length : Int) := by omega
      have HC := Lib.hid (HPf.out p _ (HX0.out.trans HH.out.2) hpl)
      have HR : Hid (headE t p ≠ 0 → R = ((p, 0), headE t p)) := fun h => HA2.out H18.out p hpl h HH.out.1
      have HN : Hid (headE t p = 0 → ∀ q, q < p + 1 → headE t q = 0) := fun h q hq => by
        by_cases hqp : q = p
        · rw [hqp]; exact h
        · exact HH.out.1 q (by omega)
      generalize headE t p = D at *
      by_cases hD : D = 0
      · have HN2 := Lib.hid (HN.out hD)
        subst hD
        gi_wp2_with (refine ⟨trivial, ?_⟩; gi_at_call 88; refine (callsIn_wide.2 HC.out).mono ?_; rintro e w' ⟨rfl, z, rfl⟩)
        refine ⟨⟨p + 1, by go_num, by omega, Lib.hid ⟨HN2.out, HH.out.2.ext _⟩⟩, by simp [intOf]; omega⟩
      · have hR := HR.out hD
        subst hR
        have s3 : ((D : Int) != 0) = true := by simp; omega
        have s4 : (D != 0) = true := by simp; omega
        have s5 : (D = 0) = False := eq_false hD
        gi_wp2_with (refine ⟨trivial, ?_⟩; gi_at_call 88; refine (callsIn_wide.2 HC.out).mono ?_; rintro e w' ⟨rfl, z, rfl⟩; have hxz : Ex W0 (ext wr z) := HH.out.2.ext z; have c0 := (HB1.out _ hxz).cell 0; have c1 := (HB1.out _ hxz).cell 1; have c2 := (HB2.out _ hxz).cell 0; have f0 := (HB1.out _ hxz).frozen 0; have f1 := (HB1.out _ hxz).frozen 1; have f2 := (HB2.out _ hxz).frozen 0; have l1 := (HB1.out _ hxz).lt; have l2 := (HB2.out _ hxz).lt)
        have HX1 := HRet.out _ (.int .i64 (p : Nat)) (.int .i64 0) (.int .i64 (D : Nat)) hxz
        exact ⟨_, results_pfault rfl rfl rfl HX1.1 HX1.2.1, rfl, HX1.2.2.1⟩
    · obtain rfl : p = t.length := by omega
      have s3 : decide ((t.length : Int) < (t.length : Int)) = false := decide_eq_false (by omega)
      have HHd0 := Lib.hid HH.out.1
      gi_wp2_with (refine ⟨trivial, ?_⟩; gi_at_call 89; refine (events_in _ _ trivial rfl _ _ _ _).mono ?_; rintro e w' ⟨rfl, rfl⟩)
      have hb4 : Blk (wr.alloc (.cells #[.slice A t.length c] 24)) wr.heap.size 24 [.slice A t.length c] := Blk.new _ _ _
      have hx4 : Ex W0 (wr.alloc (.cells #[.slice A t.length c] 24)) := HH.out.2.alloc _
      have hnE : wr.heap.size < (wr.alloc (.cells #[.slice A t.length c] 24)).heap.size := by simp
      clear x0 l0 HH HX1
      generalize wr.alloc (.cells #[.slice A t.length c] 24) = W1 at *
      generalize wr.heap.size = nE at *
      have hs01 : W0.heap.size ≤ W1.heap.size := hx4.below.size
      have hsw := HSz0.out
      refine wpIn_rangeFunc_ownH rfl (by decide) (gf := 117) (lb := #[.pointer (some ⟨nE, 0, none⟩)]) rfl trivial (enters_of Tryz.func117 (by kernel_rfl) rfl)
        (events_stops Fence.wide 8 trivial rfl (by decide) t A c nE w HTh.out hs W1 (HX0.out.trans hx4) hnE (hb4.cell 0)) belowK_t (belowK_b (by omega)) (Below.refl _ _) (fun _ => rfl)
        (fun pre W => Ex W0 W ∧ ∀ y ∈ pre, formE t (y.1.p, y.1.i + 1) = 0)
        (fun cd pre W => cd = .ret ∧ ∃ a x, pre = a ++ [x] ∧ (∀ y ∈ a, formE t (y.1.p, y.1.i + 1) = 0) ∧ formE t (x.1.p, x.1.i + 1) ≠ 0 ∧ Blk W (w.heap.size + 1) 40 [.int .i64 x.1.p, .int .i64 ((x.1.i : Int) + 1)] ∧ Blk W (w.heap.size + 1 + 1) 27 [.int .i64 (formE t (x.1.p, x.1.i + 1) : Nat)] ∧ Ex w W)
        (fun s X Y row hs hg hr => ⟨hs.1.own hs01 hg hr, hs.2⟩)
        (fun cd s X Y row hs hg hr => by
          obtain ⟨h1, a, x, h2, h3, h4, h5, h6, h7⟩ := hs
          exact ⟨h1, a, x, h2, h3, h4, h5.own hg hr, h6.own hg hr, h7.own (by omega) hg hr⟩)
        ⟨hx4, fun y h => absurd h List.not_mem_nil⟩
        (fun x a' W => ∃ b1 b2, Blk W b1 40 [.int .i64 x.1.p, .int .i64 ((x.1.i : Int) + 1)] ∧ Blk W b2 38 [.int .i64 x.1.e.kind, .int .i64 x.1.e.peer, .int .i64 x.1.e.msg, .int .i64 x.1.e.time, .slice x.1.B x.1.e.asg.length x.1.bc] ∧ a' = { tmps := #[.agg #[.slice A t.length c], .pointer (some ⟨w.heap.size, 0, none⟩), .pointer (some ⟨w.heap.size + 1, 0, none⟩), .pointer (some ⟨w.heap.size + 1 + 1, 0, none⟩), u4, u5, .pointer (some ⟨b1, 0, none⟩), .pointer (some ⟨b2, 0, none⟩), undef, undef, undef, undef, undef, undef, .pointer (some ⟨w.heap.size, 0, none⟩), .slice A t.length c, .int .i64 t.length, .bool true, .bool false, undef, .pointer (some ⟨w.heap.size, 0, none⟩), .slice A t.length c, .int .i64 t.length, .int .i64 t.length, .bool false, u25, u26, u27, u28, u29, u30, u31, u32, u33, u34, .agg #[.slice A t.length c], .func (.func 117) #[] #[.pointer (some ⟨nE, 0, none⟩)], .agg #[.int .i64 x.1.p, .int .i64 ((x.1.i : Int) + 1)], .agg #[.int .i64 x.1.e.kind, .int .i64 x.1.e.peer, .int .i64 x.1.e.msg, .int .i64 x.1.e.time, .slice x.1.B x.1.e.asg.length x.1.bc], undef, undef, undef, undef, undef, undef, undef, undef, undef, undef, undef, undef, undef, undef, undef, undef, undef, undef, undef, undef, undef, undef, undef, undef, undef, undef, undef], defers := [] })
        (fun x a' u X Y row hs hg hr => by
          obtain ⟨b1, b2, q1, q2, q3⟩ := hs
          exact ⟨b1, b2, q1.own hg hr, q2.own hg hr, q3⟩)
        ?assign ?body ?done ?stop
      case assign =>
        rintro l pre x W K ⟨gX, gC⟩ hK
        have hWs := gX.below.size
        unfold encI
        gi_wp2
        exact hK _ _ (((KeepsOthers.alloc _ _).trans (KeepsOthers.alloc _ _)).from _) (((Below.refl _ W).alloc (by omega) _).alloc (by simp; omega) _)
          ⟨(gX.alloc _).alloc _, gC⟩
          ⟨W.heap.size, W.heap.size + 1, (Blk.new W _ _).alloc _, by simpa using Blk.new (W.alloc (.cells #[.int .i64 x.1.p, .int .i64 ((x.1.i : Int) + 1)] 40)) 38 [.int .i64 x.1.e.kind, .int .i64 x.1.e.peer, .int .i64 x.1.e.msg, .int .i64 x.1.e.time, .slice x.1.B x.1.e.asg.length x.1.bc], rfl⟩
      case body =>
        rintro l pre x a' W hl - ⟨gX, gC⟩ ⟨b1, b2, qI, qE, rfl⟩ -
        have hWs := gX.below.size
        have x0 := (HB0.out _ gX).cell 0
        have l0 := (HB0.out _ gX).lt
        have i0 := qI.cell 0
        have i1 := qI.cell 1
        have il := qI.lt
        have e0 := qE.cell 0
        have e1 := qE.cell 1
        have e2 := qE.cell 2
        have e3 := qE.cell 3
        have e4 := qE.cell 4
        have el := qE.lt
        have HC := Lib.hid (HEf.out x W (HX0.out.trans gX))
        have HgX := Lib.hid gX
        have HgC := Lib.hid gC
        clear gX gC qI qE
        by_cases hD : formE t (x.1.p, x.1.i + 1) = 0
        · rw [hD] at HC
          have HN : Hid (∀ y ∈ pre ++ [x], formE t (y.1.p, y.1.i + 1) = 0) := fun y hy => by
            rcases List.mem_append.1 hy with hy | hy
            · exact HgC.out y hy
            · rw [List.mem_singleton.1 hy]; exact hD
          clear hD
          gi_wp2_with (refine ⟨trivial, ?_⟩; gi_at_call 90; refine (CallsIn.inRound l (callsIn_wide.2 HC.out)).mono ?_; rintro e w' ⟨rfl, z, rfl⟩; have hxz : Ex W (ext W z) := ⟨z, rfl⟩)
          exact ⟨hxz.keeps.from _, hxz.below.mono (by omega), HgX.out.trans hxz, HN.out⟩
        · have HD := Lib.hid hD
          have HIx : Hid (∀ W', Blk W' (w.heap.size + 1) 40 [.int .i64 x.1.p, .int .i64 ((x.1.i : Int) + 1)] → Blk W' (w.heap.size + 1 + 1) 27 [.int .i64 (formE t (x.1.p, x.1.i + 1) : Nat)] → Ex w W' → ∃ a x', pre ++ [x] = a ++ [x'] ∧ (∀ y ∈ a, formE t (y.1.p, y.1.i + 1) = 0) ∧ formE t (x'.1.p, x'.1.i + 1) ≠ 0 ∧ Blk W' (w.heap.size + 1) 40 [.int .i64 x'.1.p, .int .i64 ((x'.1.i : Int) + 1)] ∧ Blk W' (w.heap.size + 1 + 1) 27 [.int .i64 (formE t (x'.1.p, x'.1.i + 1) : Nat)] ∧ Ex w W') := fun W' h1 h2 h3 => ⟨pre, x, rfl, HgC.out, HD.out, h1, h2, h3⟩
          generalize hgd : formE t (x.1.p, x.1.i + 1) = D at *
          have s3 : ((D : Int) != 0) = true := by simp; omega
          have s4 : (D != 0) = true := by simp; omega
          have s5 : (D = 0) = False := eq_false hD
          clear hgd hD
          gi_wp2_with (refine ⟨trivial, ?_⟩; gi_at_call 90; refine (CallsIn.inRound l (callsIn_wide.2 HC.out)).mono ?_; rintro e w' ⟨rfl, z, rfl⟩; have hxw : Ex W (ext W z) := ⟨z, rfl⟩; have hxz : Ex W0 (ext W z) := HgX.out.trans hxw; have c0 := (HB1.out _ hxz).cell 0; have c1 := (HB1.out _ hxz).cell 1; have c2 := (HB2.out _ hxz).cell 0; have f0 := (HB1.out _ hxz).frozen 0; have f1 := (HB1.out _ hxz).frozen 1; have f2 := (HB2.out _ hxz).frozen 0; have l1 := (HB1.out _ hxz).lt; have l2 := (HB2.out _ hxz).lt)
          have HX1 := HRet.out _ (.int .i64 (x.1.p : Nat)) (.int .i64 ((x.1.i : Int) + 1)) (.int .i64 (D : Nat)) hxz
          exact ⟨(hxw.keeps.trans HX1.2.2.2).from _, rfl, HIx.out _ HX1.1 HX1.2.1 HX1.2.2.1⟩
      case done =>
        rintro D xs W hD hA ⟨gX, gC⟩ hK
        have HFm : Hid (∀ y, InT t y → formE t y = 0) := fun y hy => by
          obtain ⟨x, hx, he⟩ := all_item hA hy
          rw [← he]
          exact gC x hx
        have x0 := (HB0.out _ gX).cell 0
        have l0 := (HB0.out _ gX).lt
        have HgX := Lib.hid gX
        have HM := HMf.out W (HX0.out.trans gX) HFm.out
        clear gC hA gX
        by_cases hpr : ∀ x, InT t x → pairE t x = 0
        · have HM1 : Hid (Calls Tryz.prog 91 #[.agg #[.slice A t.length c]] W (fun e w' => ∃ nb, e = .returned (.tuple #[.pointer (some ⟨nb, 0, none⟩), idV (0, 0), .int .i64 0]) ∧ Blk w' nb 177 (ltC fun m => (findO t 2 (m : Int), findO t 3 (m : Int))) ∧ Ex W w')) := HM.mono fun e w' h => by
            rcases h with ⟨nb, h1, h2, -, h3⟩ | ⟨x, -, h1, -⟩
            · exact ⟨nb, h1, h2, h3⟩
            · exact absurd (hpr x h1.1) h1.2.1
          have HPr := Lib.hid hpr
          unfold idV at HM1
          clear HM hpr
          by_cases hcy : ∃ x, OnC t x
          · obtain ⟨x1, hx1⟩ := hcy
            obtain ⟨x, hx, -⟩ := exists_first (Q := OnC t) _ x1 (hap_in hx1).1 hx1 (Nat.lt_succ_self _)
            have hR := HA5.out H18.out HHd0.out HFm.out HPr.out x hx
            subst hR
            have HC1 : Hid (∀ nb w', Ex w w' → Blk w' nb 177 (ltC fun m => (findO t 2 (m : Int), findO t 3 (m : Int))) → Calls Tryz.prog 92 #[.agg #[.slice A t.length c], .pointer (some ⟨nb, 0, none⟩)] w' (fun e w'' => e = .returned (.tuple #[.agg #[.int .i64 (x.1 : Nat), .int .i64 (x.2 : Nat)], .bool true]) ∧ ∃ z : Up w', w'' = ext w' z)) := fun nb w' h hL => (HCy.out nb w' h HFm.out HPr.out hL).mono fun e w'' hh => by
              rcases hh with ⟨-, h1, -⟩ | ⟨y, h1, h2, h3⟩
              · exact absurd hx1 (h1 x1)
              · rw [isF_eq h2 hx] at h1; exact ⟨h1, h3⟩
            clear hx hx1
            gi_wp2_with (first | (refine ⟨trivial, ?_⟩; gi_at_call 91; refine (callsIn_wide.2 HM1.out).mono ?_; rintro e w5 ⟨nb, rfl, hL5, hx5⟩; have hxz5 : Ex W0 w5 := HgX.out.trans hx5; have y0 := (HB0.out _ (hxz5.alloc (.cells #[.int .i64 0, .int .i64 0] 40))).cell 0; have y1 := (HB0.out _ (hxz5.alloc (.cells #[.int .i64 0, .int .i64 0] 40))).lt) | (refine ⟨trivial, ?_⟩; gi_at_call 92; refine (callsIn_wide.2 (HC1.out _ _ (HX0.out.trans (hxz5.alloc _)) (hL5.alloc _))).mono ?_; rintro e w6 ⟨rfl, z, rfl⟩; have hXW : Ex W ((ext (w5.alloc (.cells #[.int .i64 0, .int .i64 0] 40)) z).alloc (.cells #[.int .i64 (x.1 : Nat), .int .i64 (x.2 : Nat)] 40)) := ((hx5.alloc _).ext z).alloc _; have hxz := HgX.out.trans hXW; have c0 := (HB1.out _ hxz).cell 0; have c1 := (HB1.out _ hxz).cell 1; have c2 := (HB2.out _ hxz).cell 0; have f0 := (HB1.out _ hxz).frozen 0; have f1 := (HB1.out _ hxz).frozen 1; have f2 := (HB2.out _ hxz).frozen 0; have l1 := (HB1.out _ hxz).lt; have l2 := (HB2.out _ hxz).lt))
            have HX1 := HRet.out _ (.int .i64 (x.1 : Nat)) (.int .i64 (x.2 : Nat)) (.int .i64 10) hxz
            have hK1 := HX1.2.2.2.same D _ (hXW.keeps.same D _ hK rfl) rfl
            refine ⟨by simp, .inl ⟨_, _, rfl, run_takeDeferred hK1, ?_⟩⟩
            exact ⟨_, results_pfault rfl rfl rfl (HX1.1.put hK1 _) (HX1.2.1.put hK1 _), rfl, HX1.2.2.1.put (by omega) _⟩
          · have hnc : ∀ x, ¬ OnC t x := fun x hx => hcy ⟨x, hx⟩
            have hR := HA6.out H18.out HHd0.out HFm.out HPr.out hnc
            subst hR
            have HC1 : Hid (∀ nb w', Ex w w' → Blk w' nb 177 (ltC fun m => (findO t 2 (m : Int), findO t 3 (m : Int))) → Calls Tryz.prog 92 #[.agg #[.slice A t.length c], .pointer (some ⟨nb, 0, none⟩)] w' (fun e w'' => e = .returned (.tuple #[.agg #[.int .i64 0, .int .i64 0], .bool false]) ∧ ∃ z : Up w', w'' = ext w' z)) := fun nb w' h hL => (HCy.out nb w' h HFm.out HPr.out hL).mono fun e w'' hh => by
              rcases hh with ⟨h1, -, h3⟩ | ⟨y, -, h2, -⟩
              · exact ⟨h1, h3⟩
              · exact absurd h2.2.1 (hnc y)
            clear hcy hnc
            gi_wp2_with (first | (refine ⟨trivial, ?_⟩; gi_at_call 91; refine (callsIn_wide.2 HM1.out).mono ?_; rintro e w5 ⟨nb, rfl, hL5, hx5⟩; have hxz5 : Ex W0 w5 := HgX.out.trans hx5; have y0 := (HB0.out _ (hxz5.alloc (.cells #[.int .i64 0, .int .i64 0] 40))).cell 0; have y1 := (HB0.out _ (hxz5.alloc (.cells #[.int .i64 0, .int .i64 0] 40))).lt) | (refine ⟨trivial, ?_⟩; gi_at_call 92; refine (callsIn_wide.2 (HC1.out _ _ (HX0.out.trans (hxz5.alloc _)) (hL5.alloc _))).mono ?_; rintro e w6 ⟨rfl, z, rfl⟩; have hXW : Ex W ((ext (w5.alloc (.cells #[.int .i64 0, .int .i64 0] 40)) z).alloc (.cells #[.int .i64 0, .int .i64 0] 40)) := ((hx5.alloc _).ext z).alloc _; have hxz := HgX.out.trans hXW; have c0 := (HB1.out _ hxz).cell 0; have c1 := (HB1.out _ hxz).cell 1; have c2 := (HB2.out _ hxz).cell 0; have f0 := (HB1.out _ hxz).frozen 0; have f1 := (HB1.out _ hxz).frozen 1; have f2 := (HB2.out _ hxz).frozen 0; have l1 := (HB1.out _ hxz).lt; have l2 := (HB2.out _ hxz).lt))
            have HX1 := HRet.out _ (.int .i64 0) (.int .i64 0) (.int .i64 0) hxz
            have hK1 := HX1.2.2.2.same D _ (hXW.keeps.same D _ hK rfl) rfl
            refine ⟨by simp, .inl ⟨_, _, rfl, run_takeDeferred hK1, ?_⟩⟩
            exact ⟨_, results_pfault rfl rfl rfl (HX1.1.put hK1 _) (HX1.2.1.put hK1 _), rfl, HX1.2.2.1.put (by omega) _⟩
        · obtain ⟨x, hx⟩ : ∃ x, IsF t (fun x => pairE t x ≠ 0) x := by
            obtain ⟨x1, hx1⟩ := Classical.not_forall.1 hpr
            obtain ⟨hin, hne⟩ := Classical.not_imp.1 hx1
            obtain ⟨x, hx, -⟩ := exists_first (Q := fun x => pairE t x ≠ 0) _ x1 hin hne (Nat.lt_succ_self _)
            exact ⟨x, hx⟩
          have hR := HA4.out H18.out HHd0.out HFm.out x hx
          subst hR
          have HM1 : Hid (Calls Tryz.prog 91 #[.agg #[.slice A t.length c]] W (fun e w' => e = .returned (.tuple #[.pointer none, .agg #[.int .i64 (x.1 : Nat), .int .i64 (x.2 : Nat)], .int .i64 (pairE t x : Nat)]) ∧ Ex W w')) := HM.mono fun e w' h => by
            rcases h with ⟨nb, -, -, h2, -⟩ | ⟨y, h1, h2, h3⟩
            · exact absurd (h2 x hx.1) hx.2.1
            · have hyx : y = x := isF_eq h2 hx
              rw [hyx] at h1
              exact ⟨h1, h3⟩
          have hne : pairE t x ≠ 0 := hx.2.1
          clear HM hpr hx
          generalize pairE t x = P at *
          have s3 : ((P : Int) != 0) = true := by simp; omega
          have s4 : (P != 0) = true := by simp; omega
          have s5 : (P = 0) = False := eq_false hne
          clear hne
          gi_wp2_with (refine ⟨trivial, ?_⟩; gi_at_call 91; refine (callsIn_wide.2 HM1.out).mono ?_; rintro e w5 ⟨rfl, hx5⟩; have hXW : Ex W (w5.alloc (.cells #[.int .i64 (x.1 : Nat), .int .i64 (x.2 : Nat)] 40)) := hx5.alloc _; have hxz := HgX.out.trans hXW; have c0 := (HB1.out _ hxz).cell 0; have c1 := (HB1.out _ hxz).cell 1; have c2 := (HB2.out _ hxz).cell 0; have f0 := (HB1.out _ hxz).frozen 0; have f1 := (HB1.out _ hxz).frozen 1; have f2 := (HB2.out _ hxz).frozen 0; have l1 := (HB1.out _ hxz).lt; have l2 := (HB2.out _ hxz).lt)
          have HX1 := HRet.out _ (.int .i64 (x.1 : Nat)) (.int .i64 (x.2 : Nat)) (.int .i64 (P : Nat)) hxz
          have hK1 := HX1.2.2.2.same D _ (hXW.keeps.same D _ hK rfl) rfl
          refine ⟨by simp, .inl ⟨_, _, rfl, run_takeDeferred hK1, ?_⟩⟩
          exact ⟨_, results_pfault rfl rfl rfl (HX1.1.put hK1 _) (HX1.2.1.put hK1 _), rfl, HX1.2.2.1.put (by omega) _⟩
      case stop =>
        rintro D cd pre W hD hS ⟨rfl, a, x, rfl, gC, hF, g1, g2, gX⟩ hK
        have HR : Hid (R = ((x.1.p, x.1.i + 1), formE t (x.1.p, x.1.i + 1))) := by
          refine HA3.out H18.out HHd0.out _ ⟨item_in x, hF, fun y hy hb hn => ?_⟩
          obtain ⟨z, hz, he⟩ := upto_item (upto_some hS) hy hb
          rw [← he] at hn
          exact hn (gC z hz)
        clear hS
        gi_wp2
        refine ⟨by simp, .inl ⟨_, _, rfl, run_takeDeferred hK, ?_⟩⟩
        exact ⟨_, results_pfault rfl rfl rfl (g1.put hK _) (g2.put hK _), by rw [HR.out]; simp [pfaultV, idV], gX.put (by omega) _⟩
end Go.Proofs.YtpmponafjhnegaaGreatDoor
