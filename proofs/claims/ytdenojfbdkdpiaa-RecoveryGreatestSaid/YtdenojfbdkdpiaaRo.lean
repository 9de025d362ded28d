/-
  The program's Consistent at a consistent cut, and Open.
  Conditions: as each theorem says.
-/
import Derived.Test.YtdenojfbdkdpiaaRn
namespace Go.Proofs.Ytdenojfbdkdpiaa
open Go.RowKit Go.Shelf
set_option maxRecDepth 20000 in
set_option maxHeartbeats 1600000 in
theorem closedT_c (t : List Pr) (A : Option Addr) (c : Nat) (cs : List Int) (C : Option Addr) (cc L : Nat) (w : World) (hT : TcC w A t) (hs : TSm t) (hcap : t.length ≤ c) (hv : validB t = true) (hl : cs.length = t.length) (hL : cs.length = L) (hr : rngP t cs) (hC : Row w C (intsV cs)) (hc : Closed (msgs t) cs) :
    Calls Try.prog 99 #[.agg #[.slice A t.length c], .slice C L cc] w (Ret w (.bool true)) := by
  have HM : Hid (∀ w', Ex w w' → Calls Try.prog 100 #[.agg #[.slice A t.length c], .slice C L cc] w' (Ret w' (.tuple #[.agg #[.int .i64 0, .int .i64 0], .agg #[.int .i64 0, .int .i64 0], .bool false]))) := fun w' h => by
    refine (miss_c t A c cs C cc L w' (hT.ex h) hs hcap hv hl hL hr (hC.ex h)).mono ?_
    rintro e w'' ⟨hx, ⟨-, rfl⟩ | ⟨m, a, -, -, -, -, hn, -⟩⟩
    · exact Ret.mk rfl hx
    · exact absurd hc hn
  have HX0 : Hid (Ex w (w.alloc (.cells #[.slice A t.length c] 24))) := (Ex.refl w).alloc _
  clear hT hs hcap hv hl hL hr hC hc
  go_enter Try.func99, Try.ntmps99
  go_wp2_with fail
  refine (HM.out _ HX0.out).mono ?_
  rintro e9 w1 ⟨rfl, hx1⟩
  have HX1 := Lib.hid (HX0.out.trans hx1)
  clear hx1
  go_wp2_with fail
  go_ret
  exact Ret.mk rfl ((HX1.out.alloc _).alloc _)
set_option maxRecDepth 20000 in
set_option maxHeartbeats 1600000 in
theorem inRangeT_c (t : List Pr) (A : Option Addr) (c : Nat) (cs : List Int) (C : Option Addr) (cc L : Nat) (w : World) (hT : TcC w A t) (hs : TSm t) (hl : cs.length = t.length) (hL : cs.length = L) (hr : rngP t cs) (hC : Row w C (intsV cs)) :
    Calls Try.prog 97 #[.agg #[.slice A t.length c], .slice C L cc] w (Ret w (.bool true)) := by
  subst hL
  have htl := hs.procs
  have HRg := Lib.hid hr
  have HT : Hid (∀ w', Ex w w' → TcC w' A t) := fun w' h => hT.ex h
  have HC : Hid (∀ w', Ex w w' → Row w' C (intsV cs)) := fun w' hx => hC.ex hx
  have hl1 : cs.length ≤ t.length := Nat.le_of_eq hl
  obtain ⟨W0, hW0⟩ : ∃ W0, W0 = w.alloc (.cells #[.slice A t.length c] 24) := ⟨_, rfl⟩
  have HX0 : Hid (Ex w W0) := by rw [hW0]; exact (Ex.refl w).alloc _
  have HB0 : Hid (∀ w', Ex W0 w' → Blk w' w.heap.size 24 [.slice A t.length c]) := fun w' hx => by
    have : Blk W0 w.heap.size 24 [.slice A t.length c] := by rw [hW0]; exact Blk.new w _ _
    exact this.ex hx
  have HW0 := Lib.hid hW0
  clear hW0 hT hs hC hr hl
  go_enter Try.func97, Try.ntmps97
  go_wp2_with fail
  rw [← HW0.out]
  go_loopw [9] (fun q wr => ∃ p : Nat, q = .int .i64 p ∧ p ≤ cs.length ∧ Hid (Ex W0 wr)) (fun q _ => cs.length - (intOf q).toNat)
  case atStart => exact ⟨0, rfl, Nat.zero_le _, Lib.hid (Ex.refl _)⟩
  case round =>
    obtain ⟨p, rfl, hp, HH⟩ := hrel
    by_cases hpl : p < cs.length
    · have m0 : (0 : Int) ≤ (p : Int) := by omega
      have m1 : (p : Int) < (cs.length : Int) := by omega
      have m2 : (p : Int) < (t.length : Int) := by omega
      obtain ⟨a, ha⟩ := get_at hpl
      have har := HRg.out p a ha
      obtain ⟨x, hx⟩ := get_at (show p < t.length by omega)
      rw [evN_at hx] at har
      obtain ⟨bc, oc, hCC, hbc, hcs⟩ := row_at (HC.out _ (HX0.out.trans HH.out)) (fun h => by rw [h] at hpl; exact absurd hpl (Nat.not_lt_zero _))
      subst hCC
      have d0 := hcs p _ ha
      obtain ⟨b, o, hA, hbl, V, vc, E, ec, k0, k1, k2, -, kE⟩ := HT.out _ (HX0.out.trans HH.out) p x hx
      subst hA
      have x0 := (HB0.out _ HH.out).cell 0
      have xl := (HB0.out _ HH.out).lt
      have s1 : decide (a < 0) = false := decide_eq_false (by omega)
      have s2 : decide ((x.evs.length : Int) < a) = false := decide_eq_false (by omega)
      clear ha hcs k0 k1 kE hx har
      go_wp2_with fail
      exact ⟨⟨p + 1, by go_num, by omega, HH⟩, by simp [intOf]; omega⟩
    · obtain rfl : p = cs.length := by omega
      have s1 : decide ((cs.length : Int) < (cs.length : Int)) = false := decide_eq_false (by omega)
      go_wp2_with fail
      go_ret
      exact Ret.mk rfl (HX0.out.trans HH.out)
theorem sized1_c (A C : Option Addr) (n c cc nt : Nat) (w : World) (hc : w.cell? ⟨nt, 0, none⟩ = some (.slice A n c)) :
    Calls Try.prog 112 #[.slice C n cc, .pointer (some ⟨nt, 0, none⟩)] w (Ret w (.bool false)) := by
  go_enter Try.func112, Try.ntmps112
  go_wp2_with fail
  go_ret
  exact Ret.mk (by first | rfl | simp) (Ex.refl w)
theorem enters_z1 : ∀ args w, (callFunc 112 args).run Try.prog w = .ok (.enter 112 args) w := enters_of Try.func112 (by kernel_rfl) rfl
theorem sizedT_c (t : List Pr) (A : Option Addr) (c : Nat) (C : Option Addr) (cc L nb : Nat) (w : World) (hT : TcC w A t) (hs : TSm t) (hcap : t.length ≤ c) (hv : validB t = true) (hL : t.length = L) (hb : Blk w nb 39 [.slice C L cc]) :
    Calls Try.prog 96 #[.agg #[.slice A t.length c], .slice (some ⟨nb, 0, none⟩) 1 1] w (Ret w (.bool true)) := by
  have HV : Hid (∀ w', Ex w w' → Calls Try.prog 64 #[.agg #[.slice A t.length c]] w' (Ret w' (.bool true))) := fun w' h => by rw [← hv]; exact pValid_c t A c w' (hT.ex h) hs hcap
  obtain ⟨W0, hW0⟩ : ∃ W0, W0 = w.alloc (.cells #[.slice A t.length c] 24) := ⟨_, rfl⟩
  have HX0 : Hid (Ex w W0) := by rw [hW0]; exact (Ex.refl w).alloc _
  have HB0 : Hid (∀ w', Ex W0 w' → Blk w' w.heap.size 24 [.slice A t.length c]) := fun w' hx => by
    have : Blk W0 w.heap.size 24 [.slice A t.length c] := by rw [hW0]; exact Blk.new w _ _
    exact this.ex hx
  have HAn : Hid (∀ w', Ex W0 w' → Calls Try.prog 52 #[.slice (some ⟨nb, 0, none⟩) 1 1, .func (.func 112) #[] #[.pointer (some ⟨w.heap.size, 0, none⟩)]] w' (Ret w' (.bool false))) := fun w' h => by
    have := anyInts_c 112 #[.pointer (some ⟨w.heap.size, 0, none⟩)] enters_z1 (some ⟨nb, 0, none⟩) 1 1 (fun _ => .slice C L cc) (fun _ => false) w' (by omega)
      (fun w'' hx j hj => by
        obtain rfl : j = 0 := by omega
        have hb' := hb.ex (HX0.out.trans (h.trans hx))
        exact ⟨nb, 0, rfl, hb'.lt, hb'.cell 0⟩)
      (fun w'' hx j hj => sized1_c A C L c cc w.heap.size w'' (by rw [← hL]; exact (HB0.out _ (h.trans hx)).cell 0))
    simpa using this
  have HW0 := Lib.hid hW0
  have x0 := (HB0.out _ (Ex.refl _)).cell 0
  have xl := (HB0.out _ (Ex.refl _)).lt
  clear hW0 hT hs hcap hv hb hL
  go_enter Try.func96, Try.ntmps96
  go_wp2_with fail
  rw [← HW0.out]
  go_wp2_with fail
  refine (HV.out _ HX0.out).mono ?_
  rintro e9 w1 ⟨rfl, hx1⟩
  have HX1 := Lib.hid hx1
  clear hx1 x0 xl
  go_wp2_with fail
  refine (HAn.out _ HX1.out).mono ?_
  rintro e9 w2 ⟨rfl, hx2⟩
  go_wp2_with fail
  go_ret
  exact Ret.mk rfl (HX0.out.trans (HX1.out.trans hx2))
set_option maxRecDepth 20000 in
set_option maxHeartbeats 3200000 in
theorem givenT_c (t : List Pr) (A : Option Addr) (c : Nat) (cs : List Int) (C : Option Addr) (cc L nb : Nat) (w : World) (hT : TcC w A t) (hs : TSm t) (hcap : t.length ≤ c) (hv : validB t = true) (hl : cs.length = t.length) (hL : cs.length = L) (hr : rngP t cs) (hC : Row w C (intsV cs)) (hc : Closed (msgs t) cs) (hb : Blk w nb 39 [.slice C L cc]) :
    Calls Try.prog 73 #[.agg #[.slice A t.length c], .slice (some ⟨nb, 0, none⟩) 1 1, .slice none 0 0] w (Ret w (.int .i64 0)) := by
  have HS := Lib.hid (fun w' (h : Ex w w') => sizedT_c t A c C cc L nb w' (hT.ex h) hs hcap hv (hl.symm.trans hL) (hb.ex h))
  have HR := Lib.hid (fun w' (h : Ex w w') => inRangeT_c t A c cs C cc L w' (hT.ex h) hs hl hL hr (hC.ex h))
  have HCl := Lib.hid (fun w' (h : Ex w w') => closedT_c t A c cs C cc L w' (hT.ex h) hs hcap hv hl hL hr (hC.ex h) hc)
  obtain ⟨W0, hW0⟩ : ∃ W0, W0 = w.alloc (.cells #[.slice A t.length c] 24) := ⟨_, rfl⟩
  have HX0 : Hid (Ex w W0) := by rw [hW0]; exact (Ex.refl w).alloc _
  have HB0 : Hid (∀ w', Ex W0 w' → Blk w' w.heap.size 24 [.slice A t.length c]) := fun w' hx => by
    have : Blk W0 w.heap.size 24 [.slice A t.length c] := by rw [hW0]; exact Blk.new w _ _
    exact this.ex hx
  have HBb : Hid (∀ w', Ex w w' → Blk w' nb 39 [.slice C L cc]) := fun w' h => hb.ex h
  have HW0 := Lib.hid hW0
  have x0 := (HB0.out _ (Ex.refl _)).cell 0
  have xl := (HB0.out _ (Ex.refl _)).lt
  clear hW0 hT hs hcap hv hb hL hl hr hC hc
  go_enter Try.func73, Try.ntmps73
  go_wp2_with fail
  rw [← HW0.out]
  go_wp2_with fail
  refine (HS.out _ HX0.out).mono ?_
  rintro e9 w1 ⟨rfl, hx1⟩
  have HX1 := Lib.hid hx1
  clear hx1 x0 xl
  go_wp2_with fail
  go_loopw [19] (fun q wr => ∃ k : Nat, q = .int .i64 k ∧ k ≤ 1 ∧ Hid (Ex W0 wr)) (fun q _ => 1 - (intOf q).toNat)
  case atStart => exact ⟨0, rfl, by omega, HX1⟩
  case round =>
    obtain ⟨k, rfl, hk, HH⟩ := hrel
    have x0 := (HB0.out _ HH.out).cell 0
    have xl := (HB0.out _ HH.out).lt
    have b0 := (HBb.out _ (HX0.out.trans HH.out)).cell 0
    have bl := (HBb.out _ (HX0.out.trans HH.out)).lt
    rcases (show k = 0 ∨ k = 1 by omega) with rfl | rfl
    · go_wp2_with fail
      refine (HR.out _ (HX0.out.trans HH.out)).mono ?_
      rintro e9 w2 ⟨rfl, hx2⟩
      have HX2 := Lib.hid (HH.out.trans hx2)
      clear hx2 x0 xl b0 bl
      go_wp2_with fail
      exact ⟨⟨1, by go_num, by omega, HX2⟩, by simp [intOf]⟩
    · clear x0 xl b0 bl
      go_wp2_with fail
      go_loopw [30] (fun q wr => ∃ k : Nat, q = .int .i64 k ∧ k ≤ 0 ∧ Hid (Ex W0 wr)) (fun q _ => 0 - (intOf q).toNat)
      case atStart => exact ⟨0, rfl, by omega, HH⟩
      case round =>
        obtain ⟨k, rfl, hk, HH⟩ := hrel
        obtain rfl : k = 0 := by omega
        go_wp2_with fail
        go_loopw [41] (fun q wr => ∃ k : Nat, q = .int .i64 k ∧ k ≤ 1 ∧ Hid (Ex W0 wr)) (fun q _ => 1 - (intOf q).toNat)
        case atStart => exact ⟨0, rfl, by omega, HH⟩
        case round =>
          obtain ⟨k, rfl, hk, HH⟩ := hrel
          have x0 := (HB0.out _ HH.out).cell 0
          have xl := (HB0.out _ HH.out).lt
          have b0 := (HBb.out _ (HX0.out.trans HH.out)).cell 0
          have bl := (HBb.out _ (HX0.out.trans HH.out)).lt
          rcases (show k = 0 ∨ k = 1 by omega) with rfl | rfl
          · go_wp2_with fail
            refine (HCl.out _ (HX0.out.trans HH.out)).mono ?_
            rintro e9 w2 ⟨rfl, hx2⟩
            have HX2 := Lib.hid (HH.out.trans hx2)
            clear hx2 x0 xl b0 bl
            go_wp2_with fail
            refine ⟨⟨_, _, _, _, _, _, _, _, _, _, _, ⟨1, by go_num, by omega, HX2⟩, rfl⟩, by simp [intOf]⟩
          · clear x0 xl b0 bl
            go_wp2_with fail
            go_ret
            exact Ret.mk rfl (HX0.out.trans HH.out)
theorem pConsT_c (t : List Pr) (A : Option Addr) (c : Nat) (cs : List Int) (C : Option Addr) (cc L : Nat) (w : World) (hT : TcC w A t) (hs : TSm t) (hcap : t.length ≤ c) (hl : cs.length = t.length) (hL : cs.length = L) (hC : Row w C (intsV cs)) (hc : conB t cs = true) :
    Calls Try.prog 41 #[.agg #[.slice A t.length c], .slice C L cc] w (Ret w (.bool true)) := by
  obtain ⟨hv, -, hr, hcl⟩ := conB_iff.1 hc
  have HG := Lib.hid (fun nb w' (h : Ex w w') (hb : Blk w' nb 39 [.slice C L cc]) => givenT_c t A c cs C cc L nb w' (hT.ex h) hs hcap hv hl hL hr (hC.ex h) hcl hb)
  have HX0 : Hid (Ex w ((w.alloc (.cells #[.slice A t.length c] 24)).alloc (.cells #[.slice C L cc] 39))) := ((Ex.refl w).alloc _).alloc _
  have HB0 : Hid (Blk ((w.alloc (.cells #[.slice A t.length c] 24)).alloc (.cells #[.slice C L cc] 39)) (w.heap.size + 1) 39 [.slice C L cc]) := by
    rw [show w.heap.size + 1 = (w.alloc (.cells #[.slice A t.length c] 24)).heap.size by simp]
    exact Blk.new _ _ _
  clear hT hs hcap hl hL hC hc hv hr hcl
  go_enter Try.func41, Try.ntmps41
  go_wp2_with fail
  refine (HG.out _ _ HX0.out HB0.out).mono ?_
  rintro e9 w2 ⟨rfl, hx2⟩
  go_wp2_with fail
  go_ret
  exact Ret.mk rfl (HX0.out.trans hx2)
end Go.Proofs.Ytdenojfbdkdpiaa
