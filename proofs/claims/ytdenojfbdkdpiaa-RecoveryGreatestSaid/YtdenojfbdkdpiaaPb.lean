/-
  The reference's Consistent, walked.
  Conditions: as each theorem says.
-/
import Derived.Test.YtdenojfbdkdpiaaYm
namespace Go.Proofs.Ytdenojfbdkdpiaa
open Go.RowKit Go.Shelf
/-- counts in range -/
def rngP (t : List Pr) (cs : List Int) : Prop := ∀ (p : Nat) (a : Int), cs[p]? = some a → 0 ≤ a ∧ a ≤ (evN t p : Int)
open Classical in
noncomputable def rngB (t : List Pr) (cs : List Int) : Bool := decide (rngP t cs)
theorem rngB_true {t : List Pr} {cs : List Int} (h : rngP t cs) : rngB t cs = true := by unfold rngB; exact @decide_eq_true _ (Classical.propDecidable _) h
theorem rngB_false {t : List Pr} {cs : List Int} (h : ¬ rngP t cs) : rngB t cs = false := by unfold rngB; exact @decide_eq_false _ (Classical.propDecidable _) h
theorem rngB_iff {t : List Pr} {cs : List Int} : rngB t cs = true ↔ rngP t cs := by unfold rngB; exact @decide_eq_true_iff _ (Classical.propDecidable _)
open Classical in
noncomputable def cloB (t : List Pr) (cs : List Int) : Bool := decide (Closed (msgs t) cs)
theorem cloB_true {t : List Pr} {cs : List Int} (h : Closed (msgs t) cs) : cloB t cs = true := by unfold cloB; exact @decide_eq_true _ (Classical.propDecidable _) h
theorem cloB_false {t : List Pr} {cs : List Int} (h : ¬ Closed (msgs t) cs) : cloB t cs = false := by unfold cloB; exact @decide_eq_false _ (Classical.propDecidable _) h
theorem cloB_iff {t : List Pr} {cs : List Int} : cloB t cs = true ↔ Closed (msgs t) cs := by unfold cloB; exact @decide_eq_true_iff _ (Classical.propDecidable _)
noncomputable def conB (t : List Pr) (cs : List Int) : Bool := validB t && (decide (cs.length = t.length) && (rngB t cs && cloB t cs))
theorem conB_iff {t : List Pr} {cs : List Int} : conB t cs = true ↔ validB t = true ∧ cs.length = t.length ∧ rngP t cs ∧ Closed (msgs t) cs := by
  unfold conB
  rw [Bool.and_eq_true, Bool.and_eq_true, Bool.and_eq_true, decide_eq_true_iff, rngB_iff, cloB_iff]
set_option maxRecDepth 20000 in
set_option maxHeartbeats 1600000 in
theorem rFits_c (t : List Pr) (A : Option Addr) (c n : Nat) (C : Option Addr) (cc : Nat) (w : World) :
    Calls Try.prog 74 #[.agg #[.slice A t.length c], .slice C n cc] w (Ret w (.bool (decide (n = t.length)))) := by
  have HX : Hid (Ex w (w.alloc (.cells #[.slice A t.length c] 24))) := (Ex.refl w).alloc _
  by_cases h : n = t.length
  · have s1 : ((n : Int) == (t.length : Int)) = true := by simp [h]
    have s2 : decide (n = t.length) = true := decide_eq_true h
    rw [s2]
    clear h s2
    go_enter Try.func74, Try.ntmps74
    go_wp2_with fail
    go_ret
    exact Ret.mk (by first | rfl | simp [s1]) HX.out
  · have s1 : ((n : Int) == (t.length : Int)) = false := beq_eq_false_iff_ne.2 (by omega)
    have s2 : decide (n = t.length) = false := decide_eq_false h
    rw [s2]
    go_enter Try.func74, Try.ntmps74
    go_wp2_with fail
    go_ret
    exact Ret.mk (by first | rfl | simp [h]) HX.out
set_option maxRecDepth 20000 in
set_option maxHeartbeats 3200000 in
theorem rRange_c (t : List Pr) (A : Option Addr) (c : Nat) (cs : List Int) (C : Option Addr) (cc : Nat) (w : World) (hT : TcC w A t) (hs : TSm t) (hl : cs.length = t.length) (hC : Row w C (intsV cs)) :
    Calls Try.prog 75 #[.agg #[.slice A t.length c], .slice C cs.length cc] w (Ret w (.bool (rngB t cs))) := by
  have htl := hs.procs
  have HT : Hid (∀ w', Ex w w' → TcC w' A t) := fun w' hx => hT.ex hx
  have HC : Hid (∀ w', Ex w w' → Row w' C (intsV cs)) := fun w' hx => hC.ex hx
  have HEl : Hid (∀ (p : Nat) (x : Pr), t[p]? = some x → x.evs.length ≤ 100000) := fun p x hx => (hs.each x (List.mem_of_getElem? hx)).2.2.1
  have HNo := Lib.hid (fun (h : ¬ rngP t cs) => rngB_false h)
  have HYes := Lib.hid (fun (h : rngP t cs) => rngB_true h)
  have hl1 : cs.length ≤ t.length := Nat.le_of_eq hl
  clear hl
  obtain ⟨W0, hW0⟩ : ∃ W0, W0 = w.alloc (.cells #[.slice A t.length c] 24) := ⟨_, rfl⟩
  have HX0 : Hid (Ex w W0) := by rw [hW0]; exact (Ex.refl w).alloc _
  have HB0 : Hid (∀ w', Ex W0 w' → Blk w' w.heap.size 24 [.slice A t.length c]) := fun w' hx => by
    have : Blk W0 w.heap.size 24 [.slice A t.length c] := by rw [hW0]; exact Blk.new w _ _
    exact this.ex hx
  have HW0 := Lib.hid hW0
  generalize rngB t cs = R at *
  clear hW0 hT hs hC
  go_enter Try.func75, Try.ntmps75
  go_wp2_with fail
  rw [← HW0.out]
  go_loopw [5] (fun q wr => ∃ p : Nat, q = .int .i64 p ∧ p ≤ cs.length ∧ Hid ((∀ (p' : Nat) (a : Int), p' < p → cs[p']? = some a → 0 ≤ a ∧ a ≤ (evN t p' : Int)) ∧ Ex W0 wr)) (fun q _ => cs.length - (intOf q).toNat)
  case atStart => exact ⟨0, rfl, Nat.zero_le _, Lib.hid ⟨fun p' a h => absurd h (Nat.not_lt_zero _), Ex.refl _⟩⟩
  case round =>
    obtain ⟨p, rfl, hp, HH⟩ := hrel
    by_cases hpl : p < cs.length
    · have m0 : (0 : Int) ≤ (p : Int) := by omega
      have m1 : (p : Int) < (cs.length : Int) := by omega
      have m2 : (p : Int) < (t.length : Int) := by omega
      obtain ⟨x, hx⟩ := get_at (show p < t.length by omega)
      obtain ⟨a, ha⟩ := get_at hpl
      have hel := HEl.out p x hx
      have HEv := Lib.hid (evN_at hx)
      obtain ⟨b, o, hA, hbl, V, vc, E, ec, k0, k1, k2, -, -⟩ := HT.out _ (HX0.out.trans HH.out.2) p x hx
      subst hA
      obtain ⟨bc, oc, hCC, hbc, hcs⟩ := row_at (HC.out _ (HX0.out.trans HH.out.2)) (fun h => by rw [h] at hpl; exact absurd hpl (Nat.not_lt_zero _))
      subst hCC
      have d0 := hcs p a ha
      have x0 := (HB0.out _ HH.out.2).cell 0
      have xl := (HB0.out _ HH.out.2).lt
      have HAa := Lib.hid ha
      clear hx hcs ha k0 k1
      by_cases h1 : a < 0
      · have s1 : decide (a < 0) = true := decide_eq_true h1
        have HR := Lib.hid (HNo.out fun h => by have := (h p a HAa.out).1; omega)
        go_wp2_with fail
        go_quiet (fail)
        go_wp2_with fail
        go_ret
        exact Ret.mk (by rw [HR.out]; rfl) ((HX0.out.trans HH.out.2).drewN _)
      · have s1 : decide (a < 0) = false := decide_eq_false h1
        by_cases h2 : (x.evs.length : Int) < a
        · have s2 : decide ((x.evs.length : Int) < a) = true := decide_eq_true h2
          have HR := Lib.hid (HNo.out fun h => by have := (h p a HAa.out).2; rw [HEv.out] at this; omega)
          clear h1 h2
          go_wp2_with fail
          go_quiet (fail)
          go_wp2_with fail
          go_ret
          exact Ret.mk (by rw [HR.out]; rfl) ((HX0.out.trans HH.out.2).drewN _)
        · have s2 : decide ((x.evs.length : Int) < a) = false := decide_eq_false h2
          have HN : Hid (∀ (p' : Nat) (a : Int), p' < p + 1 → cs[p']? = some a → 0 ≤ a ∧ a ≤ (evN t p' : Int)) := fun p' a' h h' => by
            by_cases he : p' = p
            · subst he
              rw [HAa.out] at h'
              cases h'
              rw [HEv.out]
              omega
            · exact HH.out.1 p' a' (by omega) h'
          clear h1 h2
          go_wp2_with fail
          go_quiet (fail)
          go_wp2_with fail
          refine ⟨⟨p + 1, by go_num, by omega, Lib.hid ⟨HN.out, HH.out.2.drewN _⟩⟩, by simp [intOf]; omega⟩
    · obtain rfl : p = cs.length := by omega
      have s1 : decide ((cs.length : Int) < (cs.length : Int)) = false := decide_eq_false (by omega)
      have HR := Lib.hid (HYes.out fun p a h => HH.out.1 p a (List.getElem?_eq_some_iff.1 h).1 h)
      go_wp2_with fail
      go_ret
      exact Ret.mk (by rw [HR.out]; rfl) (HX0.out.trans HH.out.2)
set_option maxRecDepth 20000 in
set_option maxHeartbeats 3200000 in
theorem rClosed_c (t : List Pr) (A : Option Addr) (c : Nat) (cs : List Int) (C : Option Addr) (cc : Nat) (w : World) (hT : TcC w A t) (hs : TSm t) (hP : Paired t) (hl : cs.length = t.length) (hr : rngP t cs) (hC : Row w C (intsV cs)) :
    Calls Try.prog 76 #[.agg #[.slice A t.length c], .slice C cs.length cc] w (Ret w (.bool (cloB t cs))) := by
  have htl := hs.procs
  have HC : Hid (∀ w', Ex w w' → Row w' C (intsV cs)) := fun w' hx => hC.ex hx
  have HSt := Lib.hid (fun p i w' (h : Ex w w') (hi : i < evN t p) => rSent_c t A c cs C cc p i w' (hT.ex h) hs hP hl (hC.ex h) hi)
  have HEn : Hid (∀ q, evN t q ≤ 100000) := fun q => evN_le hs q
  have HRg := Lib.hid hr
  have HNo : Hid (∀ p i, sentB t cs p i = false → ∀ a, cs[p]? = some a → (i : Int) < a → cloB t cs = false) := fun p i h a ha hi => cloB_false fun hc => by
    obtain ⟨m, b, h1, h2, h3, h4⟩ := sent_false hP hl h
    have := hc m h1 a b (by rw [h2]; exact ha) h3 (by rw [h2]; dsimp only; omega)
    omega
  have HYes := Lib.hid (fun (h : Closed (msgs t) cs) => cloB_true h)
  have hl1 : cs.length ≤ t.length := Nat.le_of_eq hl
  clear hl
  obtain ⟨W0, hW0⟩ : ∃ W0, W0 = w.alloc (.cells #[.slice A t.length c] 24) := ⟨_, rfl⟩
  have HX0 : Hid (Ex w W0) := by rw [hW0]; exact (Ex.refl w).alloc _
  have HB0 : Hid (∀ w', Ex W0 w' → Blk w' w.heap.size 24 [.slice A t.length c]) := fun w' hx => by
    have : Blk W0 w.heap.size 24 [.slice A t.length c] := by rw [hW0]; exact Blk.new w _ _
    exact this.ex hx
  have HW0 := Lib.hid hW0
  generalize cloB t cs = R at *
  clear hW0 hT hs hC hr
  go_enter Try.func76, Try.ntmps76
  go_wp2_with fail
  rw [← HW0.out]
  go_loopw [5] (fun q wr => ∃ p : Nat, q = .int .i64 p ∧ p ≤ cs.length ∧ Hid ((∀ (p' i : Nat) (a : Int), p' < p → cs[p']? = some a → (i : Int) < a → sentB t cs p' i = true) ∧ Ex W0 wr)) (fun q _ => cs.length - (intOf q).toNat)
  case atStart => exact ⟨0, rfl, Nat.zero_le _, Lib.hid ⟨fun p' i a h => absurd h (Nat.not_lt_zero _), Ex.refl _⟩⟩
  case round =>
    obtain ⟨p, rfl, hp, HH⟩ := hrel
    by_cases hpl : p < cs.length
    · have m0 : (0 : Int) ≤ (p : Int) := by omega
      have m1 : (p : Int) < (cs.length : Int) := by omega
      obtain ⟨a, ha⟩ := get_at hpl
      have har := HRg.out p a ha
      have hev := HEn.out p
      have HAa := Lib.hid ha
      clear ha
      go_wp2_with fail
      go_loopw [6] (fun q w2 => ∃ i : Nat, q = .int .i64 i ∧ (i : Int) ≤ a ∧ Hid ((∀ i' : Nat, i' < i → sentB t cs p i' = true) ∧ Ex W0 w2)) (fun q _ => a.toNat - (intOf q).toNat)
      case atStart => exact ⟨0, rfl, har.1, Lib.hid ⟨fun i' h => absurd h (Nat.not_lt_zero _), HH.out.2⟩⟩
      case round =>
        obtain ⟨i, rfl, hi, HJ⟩ := hrel
        obtain ⟨bc, oc, hCC, hbc, hcs⟩ := row_at (HC.out _ (HX0.out.trans HJ.out.2)) (fun h => by rw [h] at hpl; exact absurd hpl (Nat.not_lt_zero _))
        subst hCC
        have d0 := hcs p a HAa.out
        have x0 := (HB0.out _ HJ.out.2).cell 0
        have xl := (HB0.out _ HJ.out.2).lt
        clear hcs
        by_cases hil : (i : Int) < a
        · have HS1 := Lib.hid (HSt.out p i _ (HX0.out.trans HJ.out.2) (by omega))
          cases hsb : sentB t cs p i with
          | false =>
            rw [hsb] at HS1
            have HR := Lib.hid (HNo.out p i hsb a HAa.out hil)
            clear hsb
            go_wp2_with fail
            refine (HS1.out).mono ?_
            rintro e9 w' ⟨rfl, z, rfl⟩
            go_wp2_with fail
            go_ret
            exact Ret.mk (by rw [HR.out]; rfl) ((HX0.out.trans HJ.out.2).ext z)
          | true =>
            rw [hsb] at HS1
            have HN : Hid (∀ i' : Nat, i' < i + 1 → sentB t cs p i' = true) := fun i' h => by
              by_cases he : i' = i
              · rw [he]; exact hsb
              · exact HJ.out.1 i' (by omega)
            clear hsb
            go_wp2_with fail
            refine (HS1.out).mono ?_
            rintro e9 w' ⟨rfl, z, rfl⟩
            go_wp2_with fail
            refine ⟨⟨i + 1, by go_num, by omega, Lib.hid ⟨HN.out, HJ.out.2.ext z⟩⟩, by simp [intOf]; omega⟩
        · have s1 : decide ((i : Int) < a) = false := decide_eq_false hil
          have HN : Hid (∀ (p' i : Nat) (a : Int), p' < p + 1 → cs[p']? = some a → (i : Int) < a → sentB t cs p' i = true) := fun p' i' a' h h' hi' => by
            by_cases he : p' = p
            · subst he
              rw [HAa.out] at h'
              cases h'
              exact HJ.out.1 i' (by omega)
            · exact HH.out.1 p' i' a' (by omega) h' hi'
          go_wp2_with fail
          refine ⟨⟨p + 1, by go_num, by omega, Lib.hid ⟨HN.out, HJ.out.2⟩⟩, by simp [intOf]; omega⟩
    · obtain rfl : p = cs.length := by omega
      have s1 : decide ((cs.length : Int) < (cs.length : Int)) = false := decide_eq_false (by omega)
      have HR := Lib.hid (HYes.out (sent_closed fun p i hp _ a ha hi => HH.out.1 p i a (List.getElem?_eq_some_iff.1 ha).1 ha hi))
      go_wp2_with fail
      go_ret
      exact Ret.mk (by rw [HR.out]; rfl) (HX0.out.trans HH.out.2)
set_option maxRecDepth 20000 in
set_option maxHeartbeats 3200000 in
theorem rCons_c (t : List Pr) (A : Option Addr) (c : Nat) (cs : List Int) (C : Option Addr) (cc : Nat) (w : World) (hT : TcC w A t) (hs : TSm t) (hC : Row w C (intsV cs)) :
    Calls Try.prog 43 #[.agg #[.slice A t.length c], .slice C cs.length cc] w (Ret w (.bool (conB t cs))) := by
  have HV := Lib.hid (fun w' (h : Ex w w') => rValid_c t A c w' (hT.ex h) hs)
  have HFt := Lib.hid (fun w' => rFits_c t A c cs.length C cc w')
  have HRg := Lib.hid (fun (hl : cs.length = t.length) w' (h : Ex w w') => rRange_c t A c cs C cc w' (hT.ex h) hs hl (hC.ex h))
  have HCl := Lib.hid (fun (hv : validB t = true) (hl : cs.length = t.length) (hr : rngP t cs) w' (h : Ex w w') => rClosed_c t A c cs C cc w' (hT.ex h) hs (paired_of (fault_zero (of_decide_eq_true hv)).2.2.2.1) hl hr (hC.ex h))
  obtain ⟨W0, hW0⟩ : ∃ W0, W0 = w.alloc (.cells #[.slice A t.length c] 24) := ⟨_, rfl⟩
  have HX0 : Hid (Ex w W0) := by rw [hW0]; exact (Ex.refl w).alloc _
  have HB0 : Hid (∀ w', Ex W0 w' → Blk w' w.heap.size 24 [.slice A t.length c]) := fun w' hx => by
    have : Blk W0 w.heap.size 24 [.slice A t.length c] := by rw [hW0]; exact Blk.new w _ _
    exact this.ex hx
  have HW0 := Lib.hid hW0
  have x0 := (HB0.out _ (Ex.refl _)).cell 0
  have xl := (HB0.out _ (Ex.refl _)).lt
  clear hW0 hT hs hC
  unfold conB
  cases hv : validB t with
  | false =>
    rw [hv] at HV
    go_enter Try.func43, Try.ntmps43
    go_wp2_with fail
    rw [← HW0.out]
    go_wp2_with fail
    refine (HV.out _ HX0.out).mono ?_
    rintro e9 w1 ⟨rfl, hx1⟩
    have HX1 := Lib.hid (HX0.out.trans hx1)
    clear hx1 x0 xl
    go_wp2_with fail
    go_ret
    exact Ret.mk rfl HX1.out
  | true =>
    rw [hv] at HV
    by_cases hl : cs.length = t.length
    · rw [decide_eq_true hl] at HFt ⊢
      have HR2 := Lib.hid (HRg.out hl)
      by_cases hr : rngP t cs
      · have hrb := rngB_true hr
        rw [hrb] at HR2 ⊢
        have HC2 := Lib.hid (HCl.out hv hl hr)
        generalize cloB t cs = cb at *
        clear hr hrb hl HRg HCl
        go_enter Try.func43, Try.ntmps43
        go_wp2_with fail
        rw [← HW0.out]
        go_wp2_with fail
        refine (HV.out _ HX0.out).mono ?_
        rintro e9 w1 ⟨rfl, hx1⟩
        have HX1 := Lib.hid hx1
        clear x0 xl hx1
        have x0 := (HB0.out _ HX1.out).cell 0
        have xl := (HB0.out _ HX1.out).lt
        go_wp2_with fail
        refine (HFt.out _).mono ?_
        rintro e9 w2 ⟨rfl, hx2⟩
        have HX2 := Lib.hid (HX1.out.trans hx2)
        clear x0 xl hx2
        have x0 := (HB0.out _ HX2.out).cell 0
        have xl := (HB0.out _ HX2.out).lt
        go_wp2_with fail
        refine (HR2.out _ (HX0.out.trans HX2.out)).mono ?_
        rintro e9 w3 ⟨rfl, hx3⟩
        have HX3 := Lib.hid (HX2.out.trans hx3)
        clear x0 xl hx3
        have x0 := (HB0.out _ HX3.out).cell 0
        have xl := (HB0.out _ HX3.out).lt
        go_wp2_with fail
        refine (HC2.out _ (HX0.out.trans HX3.out)).mono ?_
        rintro e9 w4 ⟨rfl, hx4⟩
        have HX4 := Lib.hid (HX3.out.trans hx4)
        clear x0 xl hx4
        go_wp2_with fail
        go_ret
        exact Ret.mk (by first | rfl | simp) (HX0.out.trans HX4.out)
      · have hrb := rngB_false hr
        rw [hrb] at HR2 ⊢
        clear hr hrb hl HRg HCl
        go_enter Try.func43, Try.ntmps43
        go_wp2_with fail
        rw [← HW0.out]
        go_wp2_with fail
        refine (HV.out _ HX0.out).mono ?_
        rintro e9 w1 ⟨rfl, hx1⟩
        have HX1 := Lib.hid hx1
        clear x0 xl hx1
        have x0 := (HB0.out _ HX1.out).cell 0
        have xl := (HB0.out _ HX1.out).lt
        go_wp2_with fail
        refine (HFt.out _).mono ?_
        rintro e9 w2 ⟨rfl, hx2⟩
        have HX2 := Lib.hid (HX1.out.trans hx2)
        clear x0 xl hx2
        have x0 := (HB0.out _ HX2.out).cell 0
        have xl := (HB0.out _ HX2.out).lt
        go_wp2_with fail
        refine (HR2.out _ (HX0.out.trans HX2.out)).mono ?_
        rintro e9 w3 ⟨rfl, hx3⟩
        have HX3 := Lib.hid (HX2.out.trans hx3)
        clear x0 xl hx3
        go_wp2_with fail
        go_ret
        exact Ret.mk (by first | rfl | simp) (HX0.out.trans HX3.out)
    · rw [decide_eq_false hl] at HFt ⊢
      clear hl HRg HCl
      go_enter Try.func43, Try.ntmps43
      go_wp2_with fail
      rw [← HW0.out]
      go_wp2_with fail
      refine (HV.out _ HX0.out).mono ?_
      rintro e9 w1 ⟨rfl, hx1⟩
      have HX1 := Lib.hid hx1
      clear x0 xl hx1
      have x0 := (HB0.out _ HX1.out).cell 0
      have xl := (HB0.out _ HX1.out).lt
      go_wp2_with fail
      refine (HFt.out _).mono ?_
      rintro e9 w2 ⟨rfl, hx2⟩
      have HX2 := Lib.hid (HX1.out.trans hx2)
      clear x0 xl hx2
      go_wp2_with fail
      go_ret
      exact Ret.mk (by first | rfl | simp) (HX0.out.trans HX2.out)
end Go.Proofs.Ytdenojfbdkdpiaa
