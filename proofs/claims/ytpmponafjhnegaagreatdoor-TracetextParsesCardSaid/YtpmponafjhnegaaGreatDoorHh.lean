/-
  The reference's Fault, walked.
  Conditions: as each theorem says.
-/
import Derived.Test.YtpmponafjhnegaaGreatDoorYd
import Derived.Test.YtpmponafjhnegaaGreatDoorHc
import Derived.Test.YtpmponafjhnegaaGreatDoorYc
namespace Go.Proofs.YtpmponafjhnegaaGreatDoor
open Go.RowKit
theorem rForm_c (t : List Pr) (A : Option Addr) (c p i : Nat) (w : World) (hT : TcC w A t) (hs : TSm t) (hx : i < evN t p) :
    Calls Tryz.prog 74 #[.agg #[.slice A t.length c], .int .i64 p, .int .i64 i] w (Ret w (.int .i64 (formE t (p, i + 1) : Nat))) := by
  obtain ⟨e, he⟩ := evAt_some hx
  cases hf : frmB t.length p e with
  | true => exact rForm_good t A c p i w e hT hs he hf
  | false =>
    obtain ⟨x, hpx⟩ : ∃ x, t[p]? = some x := by
      cases h : t[p]? with
      | none => unfold evN at hx; rw [h] at hx; simp at hx
      | some x => exact ⟨x, rfl⟩
    have hxe : x.evs[i]? = some e := by unfold evAt at he; rw [hpx] at he; exact he
    rw [formE_at hpx hxe, evE_frm hf]
    exact rForm_bad t A c p i w e hT hs he hf
def faultV (x : (Nat × Nat) × Nat) : Value := .tuple #[idV x.1, .int .i64 (x.2 : Nat)]
theorem results_fault {fn : Func} {p g u : Nat} {a b v : Value} {w : World} {tmps : Array Value} (h : fn.results = #[.cell p 40, .tmp u]) (hp : tmps.getD p undef = .pointer (some ⟨g, 0, none⟩)) (hu : tmps.getD u undef = v) (hB : Blk w g 40 [a, b]) :
    (results fn tmps).run Tryz.prog w = .ok (.tuple #[.agg #[a, b], v]) w := by
  have h0 : w.cell? ⟨g, 0, none⟩ = some a := hB.cell 0
  have h1 : w.cell? ⟨g, 1, none⟩ = some b := hB.cell 1
  rw [Array.getD_eq_getD_getElem?] at hp hu
  simp [results, h, hp, hu, go_sem, h0, h1]
attribute [local go_sem] alloc_drewN alloc_drew setCell_drewN setCell_drew
set_option maxRecDepth 20000 in
set_option maxHeartbeats 6400000 in
theorem rFault_c (t : List Pr) (A : Option Addr) (c : Nat) (w : World) (hT : TcC w A t) (hs : TSm t) :
    Calls Tryz.prog 35 #[.agg #[.slice A t.length c]] w (Ret w (faultV (faultO t))) := by
  have hl := hs.procs
  have HEl : Hid (∀ (p : Nat) (x : Pr), t[p]? = some x → x.evs.length ≤ 100000) := fun p x hx => (hs.each x (List.mem_of_getElem? hx)).2.2.1
  have HT : Hid (∀ w', Ex w w' → TcC w' A t) := fun w' hx => hT.ex hx
  have HHd : Hid (∀ p w', Ex w w' → p < t.length → Calls Tryz.prog 73 #[.agg #[.slice A t.length c], .int .i64 p] w' (Ret w' (.int .i64 (headE t p : Nat)))) := fun p w' h hp => rHead_c t A c p w' (HT.out w' h) hs hp
  have HFm : Hid (∀ p i w', Ex w w' → i < evN t p → Calls Tryz.prog 74 #[.agg #[.slice A t.length c], .int .i64 p, .int .i64 i] w' (Ret w' (.int .i64 (formE t (p, i + 1) : Nat)))) := fun p i w' h hi => rForm_c t A c p i w' (HT.out w' h) hs hi
  have HPr : Hid (∀ p i w', Ex w w' → i < evN t p → formE t (p, i + 1) = 0 → Calls Tryz.prog 75 #[.agg #[.slice A t.length c], .agg #[.int .i64 p, .int .i64 ((i : Int) + 1)]] w' (Ret w' (.int .i64 (pairE t (p, i + 1) : Nat)))) := fun p i w' h hi hf => rPaired_c t A c p i w' (HT.out w' h) hs hi hf
  have HAc : Hid (∀ w', Ex w w' → Paired t → Calls Tryz.prog 76 #[.agg #[.slice A t.length c]] w' (fun e w'' => ∃ b : Bool, e = .returned (.bool b) ∧ (b = true ↔ ∀ x, ¬ OnC t x) ∧ Ex w' w'')) := fun w' h hP => rAcyclic_c t A c w' (HT.out w' h) hs hP
  have HPa : Hid (∀ p i w', Ex w w' → Paired t → i < evN t p → Calls Tryz.prog 77 #[.agg #[.slice A t.length c], .agg #[.int .i64 p, .int .i64 ((i : Int) + 1)]] w' (PastR t (p, i + 1) w')) := fun p i w' h hP hi => rPast_c t A c p i w' (HT.out w' h) hs hP hi
  have HFF : Hid (∀ x, x = faultO t → x = faultO t) := fun _ h => h
  clear hT hs
  have HA1 : Hid (t.length < 1 ∨ 8 < t.length → faultO t = ((0, 0), 1)) := fun h => fault_arg h
  have HA2 : Hid (¬ (t.length < 1 ∨ 8 < t.length) → ∀ p, p < t.length → headE t p ≠ 0 → (∀ q, q < p → headE t q = 0) → faultO t = ((p, 0), headE t p)) := fun h p h1 h2 h3 => fault_head h h1 h2 h3
  have HA3 : Hid (¬ (t.length < 1 ∨ 8 < t.length) → (∀ q, q < t.length → headE t q = 0) → ∀ x, IsF t (fun x => formE t x ≠ 0) x → faultO t = (x, formE t x)) := fun h hh x hx => fault_form h hh hx
  have HA4 : Hid (¬ (t.length < 1 ∨ 8 < t.length) → (∀ q, q < t.length → headE t q = 0) → (∀ x, InT t x → formE t x = 0) → ∀ x, IsF t (fun x => pairE t x ≠ 0) x → faultO t = (x, pairE t x)) := fun h hh hf x hx => fault_pair h hh hf hx
  have HA5 : Hid (¬ (t.length < 1 ∨ 8 < t.length) → (∀ q, q < t.length → headE t q = 0) → (∀ x, InT t x → formE t x = 0) → (∀ x, InT t x → pairE t x = 0) → ∀ x, IsF t (OnC t) x → faultO t = (x, 10)) := fun h hh hf hp x hx => fault_cycle h hh hf hp hx
  have HA6 : Hid (¬ (t.length < 1 ∨ 8 < t.length) → (∀ q, q < t.length → headE t q = 0) → (∀ x, InT t x → formE t x = 0) → (∀ x, InT t x → pairE t x = 0) → (∀ x, ¬ OnC t x) → faultO t = ((0, 0), 0)) := fun h hh hf hp hx => fault_none h hh hf hp hx
  clear HFF
  generalize faultO t = R at *
  obtain ⟨W0, hW0⟩ : ∃ W0, W0 = (w.alloc (.cells #[.slice A t.length c] 24)).alloc (.cells #[.int .i64 0, .int .i64 0] 40) := ⟨_, rfl⟩
  have HX0 : Hid (Ex w W0) := by rw [hW0]; exact ((Ex.refl w).alloc _).alloc _
  have HB0 : Hid (∀ w', Ex W0 w' → Blk w' w.heap.size 24 [.slice A t.length c]) := fun w' hx => by
    have : Blk W0 w.heap.size 24 [.slice A t.length c] := by rw [hW0]; exact (Blk.new w _ _).alloc _
    exact this.ex hx
  have HBr : Hid (∀ w', Ex W0 w' → Blk w' (w.heap.size + 1) 40 [.int .i64 0, .int .i64 0]) := fun w' hx => by
    have : Blk W0 (w.heap.size + 1) 40 [.int .i64 0, .int .i64 0] := by
      rw [hW0, show w.heap.size + 1 = (w.alloc (.cells #[.slice A t.length c] 24)).heap.size by simp]
      exact Blk.new _ _ _
    exact this.ex hx
  have HW0 := Lib.hid hW0
  have HRet : Hid (∀ (wr : World) (a b : Nat), Ex W0 wr → Blk ((wr.setCell ⟨w.heap.size + 1, 0, none⟩ (.int .i64 (a : Nat))).setCell ⟨w.heap.size + 1, 1, none⟩ (.int .i64 (b : Nat))) (w.heap.size + 1) 40 [.int .i64 (a : Nat), .int .i64 (b : Nat)] ∧ Ex w ((wr.setCell ⟨w.heap.size + 1, 0, none⟩ (.int .i64 (a : Nat))).setCell ⟨w.heap.size + 1, 1, none⟩ (.int .i64 (b : Nat)))) :=
    fun wr a b hx => ⟨((HBr.out wr hx).set_ 0 _).set_ 1 _, ((HX0.out.trans hx).setCell (p := ⟨w.heap.size + 1, 0, none⟩) (by simp) _).setCell (p := ⟨w.heap.size + 1, 1, none⟩) (by simp) _⟩
  clear hW0
  have q0 := (HB0.out W0 (Ex.refl _)).cell 0
  by_cases h18 : t.length < 1 ∨ 8 < t.length
  · have hR := HA1.out h18
    subst hR
    have hf : decide ((t.length : Int) < 1) = true ∨ (decide ((t.length : Int) < 1) = false ∧ decide (8 < (t.length : Int)) = true) := by
      rcases h18 with h | h
      · exact .inl (decide_eq_true (by omega))
      · exact .inr ⟨decide_eq_false (by omega), decide_eq_true (by omega)⟩
    clear h18
    rcases hf with hf | ⟨hf, hg⟩
    all_goals
      have hR := HBr.out W0 (Ex.refl _)
      have c0 := hR.cell 0
      have c1 := hR.cell 1
      have f0 := hR.frozen 0
      have f1 := hR.frozen 1
      clear hR
      go_enter Tryz.func35, Tryz.ntmps35
      go_wp2_with fail
      rw [← HW0.out]
      refine bodyPost_ret (results_fault rfl rfl rfl (HBr.out W0 (Ex.refl _))) rfl ?_
      exact Ret.mk rfl HX0.out
  have s1 : decide ((t.length : Int) < 1) = false := decide_eq_false (by omega)
  have s2 : decide (8 < (t.length : Int)) = false := decide_eq_false (by omega)
  have H18 := Lib.hid h18
  go_enter Tryz.func35, Tryz.ntmps35
  go_wp2_with fail
  rw [← HW0.out]
  go_loopw [4] (fun i wr => ∃ p : Nat, i = .int .i64 p ∧ p ≤ t.length ∧ Hid ((∀ q, q < p → headE t q = 0) ∧ Ex W0 wr)) (fun i _ => t.length - (intOf i).toNat)
  case atStart => exact ⟨0, rfl, Nat.zero_le _, Lib.hid ⟨fun q h => absurd h (Nat.not_lt_zero _), Ex.refl _⟩⟩
  case round =>
    obtain ⟨p, rfl, hp, HH⟩ := hrel
    have hB0 := HB0.out _ HH.out.2
    have x0 := hB0.cell 0
    have l0 := hB0.lt
    clear hB0
    by_cases hpl : p < t.length
    · have m0 : (0 : Int) ≤ (p : Int) := by omega
      have m1 : (p : Int) < (t.length : Int) := by omega
      have HC := Lib.hid (HHd.out p _ (HX0.out.trans HH.out.2) hpl)
      have HR : Hid (headE t p ≠ 0 → R = ((p, 0), headE t p)) := fun h => HA2.out H18.out p hpl h HH.out.1
      have HN : Hid (headE t p = 0 → ∀ q, q < p + 1 → headE t q = 0) := fun h q hq => by
        by_cases hqp : q = p
        · rw [hqp]; exact h
        · exact HH.out.1 q (by omega)
      generalize headE t p = D at *
      go_wp2_with fail
      refine (HC.out).mono ?_
      rintro e9 w' ⟨rfl, z, rfl⟩
      have HX := Lib.hid (HH.out.2.ext z)
      generalize ext wr z = W3 at *
      clear x0 l0
      by_cases hD : D = 0
      · have HN2 := Lib.hid (HN.out hD)
        subst hD
        go_wp2_with fail
        refine ⟨⟨p + 1, by go_num, by omega, Lib.hid ⟨HN2.out, HX.out⟩⟩, by simp [intOf]; omega⟩
      · have hR := HR.out hD
        subst hR
        have s3 : ((D : Int) != 0) = true := by simp; omega
        have s4 : (D != 0) = true := by simp; omega
        have s5 : (D = 0) = False := eq_false hD
        have hR := HBr.out W3 HX.out
        have c0 := hR.cell 0
        have c1 := hR.cell 1
        have f0 := hR.frozen 0
        have f1 := hR.frozen 1
        clear hR
        go_wp2_with fail
        refine bodyPost_ret (results_fault rfl rfl rfl (HRet.out W3 p 0 HX.out).1) rfl ?_
        exact Ret.mk rfl (HRet.out W3 p 0 HX.out).2
    · obtain rfl : p = t.length := by omega
      have HHd0 := Lib.hid HH.out.1
      have HXs := Lib.hid HH.out.2
      have s3 : decide ((t.length : Int) < (t.length : Int)) = false := decide_eq_false (by omega)
      go_wp2_with fail
      clear x0 l0 HH
      go_loopw [6] (fun i wr => ∃ p : Nat, i = .int .i64 p ∧ p ≤ t.length ∧ Hid (NoSel t (fun x => formE t x ≠ 0) p 0 ∧ Ex W0 wr)) (fun i _ => t.length - (intOf i).toNat)
      case atStart => exact ⟨0, rfl, Nat.zero_le _, Lib.hid ⟨NoSel.zero _ _, HXs.out⟩⟩
      case round =>
        clear HXs
        obtain ⟨p, rfl, hp, HH⟩ := hrel
        have hB0 := HB0.out _ HH.out.2
        have x0 := hB0.cell 0
        have l0 := hB0.lt
        clear hB0
        by_cases hpl : p < t.length
        · have m0 : (0 : Int) ≤ (p : Int) := by omega
          have m1 : (p : Int) < (t.length : Int) := by omega
          obtain ⟨x, hx⟩ : ∃ x, t[p]? = some x := ⟨_, List.getElem?_eq_getElem hpl⟩
          have hel := HEl.out p x hx
          have hev := evN_at hx
          have Hx := Lib.hid hx
          clear hx
          go_wp2_with fail
          clear x0 l0
          go_loopw [7] (fun i wr => ∃ j : Nat, i = .int .i64 j ∧ j ≤ x.evs.length ∧ Hid (NoSel t (fun x => formE t x ≠ 0) p j ∧ Ex W0 wr)) (fun i _ => x.evs.length - (intOf i).toNat)
          case atStart => exact ⟨0, rfl, Nat.zero_le _, HH⟩
          case round =>
            clear HH
            obtain ⟨j, rfl, hj, HH⟩ := hrel
            have hB0 := HB0.out _ HH.out.2
            have x0 := hB0.cell 0
            have l0 := hB0.lt
            clear hB0
            obtain ⟨b, o, hA, hbl, V, vc, E, ec, -, -, g2, -⟩ := HT.out _ (HX0.out.trans HH.out.2) p x Hx.out
            subst hA
            by_cases hjl : j < x.evs.length
            · have hin : j < evN t p := by omega
              have HC := Lib.hid (HFm.out p j _ (HX0.out.trans HH.out.2) hin)
              have HR : Hid (formE t (p, j + 1) ≠ 0 → R = ((p, j + 1), formE t (p, j + 1))) := fun h => HA3.out H18.out HHd0.out (p, j + 1) (HH.out.1.first hin h)
              have HN : Hid (formE t (p, j + 1) = 0 → NoSel t (fun x => formE t x ≠ 0) p (j + 1)) := fun h => HH.out.1.step (fun hn => hn h)
              generalize formE t (p, j + 1) = D at *
              go_wp2_with fail
              refine (HC.out).mono ?_
              rintro e9 w' ⟨rfl, z, rfl⟩
              have HX := Lib.hid (HH.out.2.ext z)
              have e1 : IntKind.i64.wrap ((j : Int) + 1) = (j : Int) + 1 := IntWalk.i64_in _ (by omega)
              generalize ext wr z = W3 at *
              clear x0 l0 g2 hbl
              by_cases hD : D = 0
              · have HN2 := Lib.hid (HN.out hD)
                subst hD
                go_wp2_with fail
                refine ⟨⟨j + 1, by go_num, by omega, Lib.hid ⟨HN2.out, HX.out⟩⟩, by simp [intOf]; omega⟩
              · have hR := HR.out hD
                subst hR
                have s3 : ((D : Int) != 0) = true := by simp; omega
                have s4 : (D != 0) = true := by simp; omega
                have s5 : (D = 0) = False := eq_false hD
                have hR := HBr.out W3 HX.out
                have c0 := hR.cell 0
                have c1 := hR.cell 1
                have f0 := hR.frozen 0
                have f1 := hR.frozen 1
                clear hR
                go_wp2_with fail
                refine bodyPost_ret (results_fault rfl rfl rfl (HRet.out W3 p (j + 1) HX.out).1) rfl ?_
                exact Ret.mk (by simp [faultV, idV]) (HRet.out W3 p (j + 1) HX.out).2
            · have hje : evN t p ≤ j := by omega
              have HN := Lib.hid (HH.out.1.next hje)
              have s3 : decide ((j : Int) < (x.evs.length : Int)) = false := decide_eq_false (by omega)
              go_wp2_with fail
              refine ⟨⟨p + 1, by go_num, by omega, Lib.hid ⟨HN.out, HH.out.2⟩⟩, by simp [intOf]; omega⟩
        · obtain rfl : p = t.length := by omega
          have s3 : decide ((t.length : Int) < (t.length : Int)) = false := decide_eq_false (by omega)
          have HFm0 : Hid (∀ x, InT t x → formE t x = 0) := fun x hx => Classical.byContradiction fun h => HH.out.1.all (Nat.le_refl _) x hx h
          have HXs := Lib.hid HH.out.2
          go_wp2_with fail
          clear x0 l0 HH
          go_loopw [9] (fun i wr => ∃ p : Nat, i = .int .i64 p ∧ p ≤ t.length ∧ Hid (NoSel t (fun x => pairE t x ≠ 0) p 0 ∧ Ex W0 wr)) (fun i _ => t.length - (intOf i).toNat)
          case atStart => exact ⟨0, rfl, Nat.zero_le _, Lib.hid ⟨NoSel.zero _ _, HXs.out⟩⟩
          case round =>
            clear HXs
            obtain ⟨p, rfl, hp, HH⟩ := hrel
            have hB0 := HB0.out _ HH.out.2
            have x0 := hB0.cell 0
            have l0 := hB0.lt
            clear hB0
            by_cases hpl : p < t.length
            · have m0 : (0 : Int) ≤ (p : Int) := by omega
              have m1 : (p : Int) < (t.length : Int) := by omega
              obtain ⟨x, hx⟩ : ∃ x, t[p]? = some x := ⟨_, List.getElem?_eq_getElem hpl⟩
              have hel := HEl.out p x hx
              have hev := evN_at hx
              have Hx := Lib.hid hx
              clear hx
              go_wp2_with fail
              clear x0 l0
              go_loopw [10] (fun i wr => ∃ j : Nat, i = .int .i64 j ∧ j ≤ x.evs.length ∧ Hid (NoSel t (fun x => pairE t x ≠ 0) p j ∧ Ex W0 wr)) (fun i _ => x.evs.length - (intOf i).toNat)
              case atStart => exact ⟨0, rfl, Nat.zero_le _, HH⟩
              case round =>
                clear HH
                obtain ⟨j, rfl, hj, HH⟩ := hrel
                have hB0 := HB0.out _ HH.out.2
                have x0 := hB0.cell 0
                have l0 := hB0.lt
                clear hB0
                obtain ⟨b, o, hA, hbl, V, vc, E, ec, -, -, g2, -⟩ := HT.out _ (HX0.out.trans HH.out.2) p x Hx.out
                subst hA
                by_cases hjl : j < x.evs.length
                · have hin : j < evN t p := by omega
                  have HE0 := Lib.hid (HFm0.out (p, j + 1) ⟨by simp, hin⟩)
                  have HXa := Lib.hid (HH.out.2.alloc (.cells #[.int .i64 p, .int .i64 ((j : Int) + 1)] 40))
                  have hbx : Blk (wr.alloc (.cells #[.int .i64 p, .int .i64 ((j : Int) + 1)] 40)) wr.heap.size 40 [.int .i64 p, .int .i64 ((j : Int) + 1)] := Blk.new _ _ _
                  have HC := Lib.hid (HPr.out p j _ (HX0.out.trans HXa.out) hin HE0.out)
                  have HR : Hid (pairE t (p, j + 1) ≠ 0 → R = ((p, j + 1), pairE t (p, j + 1))) := fun h => HA4.out H18.out HHd0.out HFm0.out (p, j + 1) (HH.out.1.first hin h)
                  have HN : Hid (pairE t (p, j + 1) = 0 → NoSel t (fun x => pairE t x ≠ 0) p (j + 1)) := fun h => HH.out.1.step (fun hn => hn h)
                  generalize pairE t (p, j + 1) = D at *
                  have e1 : IntKind.i64.wrap ((j : Int) + 1) = (j : Int) + 1 := IntWalk.i64_in _ (by omega)
                  go_wp2_with fail
                  refine (HC.out).mono ?_
                  rintro e9 w' ⟨rfl, z, rfl⟩
                  have HX := Lib.hid (HXa.out.ext z)
                  have hbx3 := hbx.ex ⟨z, rfl⟩
                  generalize ext (wr.alloc (.cells #[.int .i64 p, .int .i64 ((j : Int) + 1)] 40)) z = W3 at *
                  have v0 := hbx3.cell 0
                  have v1 := hbx3.cell 1
                  have v2 := hbx3.lt
                  clear x0 l0 g2 hbl hbx hbx3
                  generalize wr.heap.size = nY at *
                  by_cases hD : D = 0
                  · have HN2 := Lib.hid (HN.out hD)
                    subst hD
                    go_wp2_with fail
                    refine ⟨⟨j + 1, by go_num, by omega, Lib.hid ⟨HN2.out, HX.out⟩⟩, by simp [intOf]; omega⟩
                  · have hR := HR.out hD
                    subst hR
                    have s3 : ((D : Int) != 0) = true := by simp; omega
                    have s4 : (D != 0) = true := by simp; omega
                    have s5 : (D = 0) = False := eq_false hD
                    have hR := HBr.out W3 HX.out
                    have c0 := hR.cell 0
                    have c1 := hR.cell 1
                    have f0 := hR.frozen 0
                    have f1 := hR.frozen 1
                    clear hR
                    go_wp2_with fail
                    refine bodyPost_ret (results_fault rfl rfl rfl (HRet.out W3 p (j + 1) HX.out).1) rfl ?_
                    exact Ret.mk (by simp [faultV, idV]) (HRet.out W3 p (j + 1) HX.out).2
                · have hje : evN t p ≤ j := by omega
                  have HN := Lib.hid (HH.out.1.next hje)
                  have s3 : decide ((j : Int) < (x.evs.length : Int)) = false := decide_eq_false (by omega)
                  go_wp2_with fail
                  refine ⟨⟨p + 1, by go_num, by omega, Lib.hid ⟨HN.out, HH.out.2⟩⟩, by simp [intOf]; omega⟩
            · obtain rfl : p = t.length := by omega
              have s3 : decide ((t.length : Int) < (t.length : Int)) = false := decide_eq_false (by omega)
              have HPm0 : Hid (∀ x, InT t x → pairE t x = 0) := fun x hx => Classical.byContradiction fun h => HH.out.1.all (Nat.le_refl _) x hx h
              have HPd : Hid (Paired t) := paired_of HPm0.out
              have HC := Lib.hid (HAc.out _ (HX0.out.trans HH.out.2) HPd.out)
              go_wp2_with fail
              refine (HC.out).mono ?_
              rintro e9 W3 ⟨b, rfl, hb, hx3⟩
              have HX := Lib.hid (HH.out.2.trans hx3)
              clear x0 l0 HH hx3
              cases b with
              | true =>
                have hR := HA6.out H18.out HHd0.out HFm0.out HPm0.out (hb.1 rfl)
                clear hb
                subst hR
                have hR := HBr.out W3 HX.out
                have c0 := hR.cell 0
                have c1 := hR.cell 1
                have f0 := hR.frozen 0
                have f1 := hR.frozen 1
                clear hR
                go_wp2_with fail
                refine bodyPost_ret (results_fault rfl rfl rfl (HRet.out W3 0 0 HX.out).1) rfl ?_
                exact Ret.mk rfl (HRet.out W3 0 0 HX.out).2
              | false =>
                clear hb
                have HXs := HX
                clear HX
                go_wp2_with fail
                go_loopw [13] (fun i wr => ∃ p : Nat, i = .int .i64 p ∧ p ≤ t.length ∧ Hid (NoSel t (fun x => OnC t x) p 0 ∧ Ex W0 wr)) (fun i _ => t.length - (intOf i).toNat)
                case atStart => exact ⟨0, rfl, Nat.zero_le _, Lib.hid ⟨NoSel.zero _ _, HXs.out⟩⟩
                case round =>
                  clear HXs
                  obtain ⟨p, rfl, hp, HH⟩ := hrel
                  have hB0 := HB0.out _ HH.out.2
                  have x0 := hB0.cell 0
                  have l0 := hB0.lt
                  clear hB0
                  by_cases hpl : p < t.length
                  · have m0 : (0 : Int) ≤ (p : Int) := by omega
                    have m1 : (p : Int) < (t.length : Int) := by omega
                    obtain ⟨x, hx⟩ : ∃ x, t[p]? = some x := ⟨_, List.getElem?_eq_getElem hpl⟩
                    have hel := HEl.out p x hx
                    have hev := evN_at hx
                    have Hx := Lib.hid hx
                    clear hx
                    go_wp2_with fail
                    clear x0 l0
                    go_loopw [14] (fun i wr => ∃ j : Nat, i = .int .i64 j ∧ j ≤ x.evs.length ∧ Hid (NoSel t (fun x => OnC t x) p j ∧ Ex W0 wr)) (fun i _ => x.evs.length - (intOf i).toNat)
                    case atStart => exact ⟨0, rfl, Nat.zero_le _, HH⟩
                    case round =>
                      clear HH
                      obtain ⟨j, rfl, hj, HH⟩ := hrel
                      have hB0 := HB0.out _ HH.out.2
                      have x0 := hB0.cell 0
                      have l0 := hB0.lt
                      clear hB0
                      obtain ⟨b, o, hA, hbl, V, vc, E, ec, -, -, g2, -⟩ := HT.out _ (HX0.out.trans HH.out.2) p x Hx.out
                      subst hA
                      by_cases hjl : j < x.evs.length
                      · have hin : j < evN t p := by omega
                        have HXa := Lib.hid (HH.out.2.alloc (.cells #[.int .i64 p, .int .i64 ((j : Int) + 1)] 40))
                        have hbx : Blk (wr.alloc (.cells #[.int .i64 p, .int .i64 ((j : Int) + 1)] 40)) wr.heap.size 40 [.int .i64 p, .int .i64 ((j : Int) + 1)] := Blk.new _ _ _
                        have HC := Lib.hid (HPa.out p j _ (HX0.out.trans HXa.out) HPd.out hin)
                        have e1 : IntKind.i64.wrap ((j : Int) + 1) = (j : Int) + 1 := IntWalk.i64_in _ (by omega)
                        go_wp2_with fail
                        refine (HC.out).mono ?_
                        rintro e9 W3 ⟨A5, c5, bf, s, rfl, ho5, hr5, hs5, hx5⟩
                        have HX := Lib.hid (HXa.out.trans hx5)
                        have hbx3 := hbx.ex hx5
                        obtain ⟨go, oo, cc, hv2, -, -, -, hgl2, hcell2⟩ := ho5.open_ (by omega)
                        cases hv2
                        have k2 : W3.cell? ⟨go, oo + p, none⟩ = some (.slice (some ⟨bf p, 0, none⟩) (evN t p + 1) (evN t p + 1)) := hcell2 _ _ (rowVs_get hpl)
                        have k3 : W3.cell? ⟨bf p, j + 1, none⟩ = some (.bool (decide ((p, j + 1) ∈ s))) := ((hr5.row p hpl).cell (j + 1)).trans (mrk_get (by omega))
                        have k4 := (hr5.row p hpl).lt
                        have m2 : (0 : Int) ≤ (j : Int) + 1 := by omega
                        have m3 : (j : Int) + 1 < (evN t p : Int) + 1 := by omega
                        have v0 := hbx3.cell 0
                        have v1 := hbx3.cell 1
                        have v2 := hbx3.lt
                        have HOn : Hid ((p, j + 1) ∈ s ↔ OnC t (p, j + 1)) := hs5 _
                        clear x0 l0 g2 hbl hbx hbx3 hcell2 hr5 hs5 hx5 ho5
                        generalize wr.heap.size = nY at *
                        generalize hdb : decide ((p, j + 1) ∈ s) = db at *
                        cases db with
                        | true =>
                          have hR := HA5.out H18.out HHd0.out HFm0.out HPm0.out (p, j + 1) (HH.out.1.first hin (HOn.out.1 (of_decide_eq_true hdb)))
                          subst hR
                          have hR := HBr.out W3 HX.out
                          have c0 := hR.cell 0
                          have c1 := hR.cell 1
                          have f0 := hR.frozen 0
                          have f1 := hR.frozen 1
                          clear hR
                          go_wp2_with fail
                          refine bodyPost_ret (results_fault rfl rfl rfl (HRet.out W3 p (j + 1) HX.out).1) rfl ?_
                          exact Ret.mk (by simp [faultV, idV]) (HRet.out W3 p (j + 1) HX.out).2
                        | false =>
                          have HN2 := Lib.hid (HH.out.1.step (fun h => of_decide_eq_false hdb (HOn.out.2 h)))
                          go_wp2_with fail
                          refine ⟨⟨j + 1, by go_num, by omega, Lib.hid ⟨HN2.out, HX.out⟩⟩, by simp [intOf]; omega⟩
                      · have hje : evN t p ≤ j := by omega
                        have HN := Lib.hid (HH.out.1.next hje)
                        have s3 : decide ((j : Int) < (x.evs.length : Int)) = false := decide_eq_false (by omega)
                        go_wp2_with fail
                        refine ⟨⟨p + 1, by go_num, by omega, Lib.hid ⟨HN.out, HH.out.2⟩⟩, by simp [intOf]; omega⟩
                  · obtain rfl : p = t.length := by omega
                    have s3 : decide ((t.length : Int) < (t.length : Int)) = false := decide_eq_false (by omega)
                    have hR := HA6.out H18.out HHd0.out HFm0.out HPm0.out (fun x hx => HH.out.1.all (Nat.le_refl _) x (hap_in hx).1 hx)
                    subst hR
                    have W3e := HH.out.2
                    have hR := HBr.out wr HH.out.2
                    have c0 := hR.cell 0
                    have c1 := hR.cell 1
                    have f0 := hR.frozen 0
                    have f1 := hR.frozen 1
                    clear hR
                    go_wp2_with fail
                    refine bodyPost_ret (results_fault rfl rfl rfl (HRet.out wr 0 0 HH.out.2).1) rfl ?_
                    exact Ret.mk rfl (HRet.out wr 0 0 HH.out.2).2
end Go.Proofs.YtpmponafjhnegaaGreatDoor
