/-
  The reference's paired, walked. The program's formed, walked. The faults of a trace's parts, opened at a place. The reference's form, walked: events that are malformed.
  Conditions: as each theorem says.
-/
import Derived.Test.YtpmponafjhnegaaGreatDoorYb
namespace Go.Proofs.YtpmponafjhnegaaGreatDoor
section
open Go.RowKit
theorem form_frm {t : List Pr} {p i : Nat} {e : Ev} (h : evAt t p i = some e) (hf : formE t (p, i + 1) = 0) : frmB t.length p e = true := by
  unfold evAt at h
  unfold formE at hf
  cases hp : t[p]? with
  | none => rw [hp] at h; simp at h
  | some x =>
    rw [hp] at h hf
    simp only [Option.bind_some] at h
    simp only [Nat.add_sub_cancel, h] at hf
    cases hb : frmB t.length p e with
    | true => rfl
    | false =>
      unfold evE at hf
      rw [hb] at hf
      simp at hf
theorem pair_val {t : List Pr} {p i : Nat} {e : Ev} (h : evAt t p i = some e) (hk : e.kind ≠ 1) :
    (findO t e.kind e.msg ≠ (p, i + 1) ∧ pairE t (p, i + 1) = 8) ∨ (findO t e.kind e.msg = (p, i + 1) ∧ ((e.kind = 3 ∧ ¬ Snds t e.peer e.msg (p : Int) ∧ pairE t (p, i + 1) = 7) ∨ ((e.kind = 3 → Snds t e.peer e.msg (p : Int)) ∧ pairE t (p, i + 1) = 0))) := by
  have hi : InT t (p, i + 1) := ⟨by simp, evAt_lt h⟩
  have hs : Sel t e.kind e.msg (p, i + 1) := (sel_at h).2 ⟨rfl, rfl⟩
  by_cases hq : ∃ y, InT t y ∧ Bef y (p, i + 1) ∧ Sel t e.kind e.msg y
  · refine .inl ⟨fun he => ?_, ?_⟩
    · obtain ⟨y, h1, h2, h3⟩ := hq
      rcases find_or t e.kind e.msg with ⟨hn, -⟩ | hf
      · exact hn y h1 h3
      · rw [he] at hf
        exact hf.2.2 y h1 h2 h3
    · unfold pairE
      simp only [Nat.add_sub_cancel, h]
      rw [if_neg hk, if_pos hq]
  · refine .inr ⟨find_first ⟨hi, hs, fun y h1 h2 h3 => hq ⟨y, h1, h2, h3⟩⟩, ?_⟩
    by_cases hz : e.kind = 3 ∧ ¬ Snds t e.peer e.msg (p : Int)
    · refine .inl ⟨hz.1, hz.2, ?_⟩
      unfold pairE
      simp only [Nat.add_sub_cancel, h]
      rw [if_neg hk, if_neg hq, if_pos hz]
    · refine .inr ⟨fun h3 => Classical.byContradiction fun hn => hz ⟨h3, hn⟩, ?_⟩
      unfold pairE
      simp only [Nat.add_sub_cancel, h]
      rw [if_neg hk, if_neg hq, if_neg hz]
theorem pair_loc {t : List Pr} {p i : Nat} {e : Ev} (h : evAt t p i = some e) (hk : e.kind = 1) : pairE t (p, i + 1) = 0 := by
  unfold pairE
  simp only [Nat.add_sub_cancel, h]
  rw [if_pos hk]
/-- At, as the callers see it -/
theorem at_at {t : List Pr} {A : Option Addr} {c p i : Nat} {w : World} {e : Ev} (hT : TcC w A t) (hs : TSm t) (he : evAt t p i = some e) :
    Calls Tryz.prog 67 #[.agg #[.slice A t.length c], .agg #[.int .i64 p, .int .i64 ((i : Int) + 1)]] w fun e9 w' => ∃ B bc, e9 = .returned (evV e B bc) ∧ Row w' B (asgV e.asg) ∧ Ex w w' := by
  refine (rAt_c t A c p i w hT hs (evAt_lt he)).mono ?_
  rintro e9 w' ⟨ev, B, bc, h1, h2, h3, h4⟩
  simp only [Nat.add_sub_cancel] at h1
  rw [he] at h1
  cases h1
  exact ⟨B, bc, h2, h3, h4⟩
theorem any_take {α : Type} (g : α → Bool) (l : List α) (j : Nat) (x : α) (h : l[j]? = some x) : (l.take (j + 1)).any g = ((l.take j).any g || g x) := by
  rw [List.take_add_one, List.any_append, h]
  simp
def sndB (m p : Int) (e : Ev) : Bool := decide (e.kind = 2) && decide (e.msg = m) && decide (e.peer = p)
theorem snds_any {t : List Pr} {q : Nat} {x : Pr} (h : t[q]? = some x) (m p : Int) : Snds t (q : Int) m p ↔ x.evs.any (sndB m p) = true := by
  unfold Snds
  rw [List.any_eq_true]
  constructor
  · rintro ⟨y, e, -, h1, h2, h3, h4, h5⟩
    simp only [Int.toNat_natCast] at h1
    rw [h] at h1
    cases h1
    exact ⟨e, h2, by simp [sndB, h3, h4, h5]⟩
  · rintro ⟨e, h1, h2⟩
    simp only [sndB, Bool.and_eq_true, decide_eq_true_eq] at h2
    exact ⟨x, e, by omega, by simpa using h, h1, h2.1.1, h2.1.2, h2.2⟩
set_option maxRecDepth 20000 in
set_option maxHeartbeats 1600000 in
theorem rPaired_c (t : List Pr) (A : Option Addr) (c p i : Nat) (w : World) (hT : TcC w A t) (hs : TSm t) (hx : i < evN t p) (hf : formE t (p, i + 1) = 0) :
    Calls Tryz.prog 75 #[.agg #[.slice A t.length c], .agg #[.int .i64 p, .int .i64 ((i : Int) + 1)]] w (Ret w (.int .i64 (pairE t (p, i + 1) : Nat))) := by
  obtain ⟨e, he⟩ := evAt_some hx
  have HA : Hid (∀ w', Ex w w' → Calls Tryz.prog 67 #[.agg #[.slice A t.length c], .agg #[.int .i64 p, .int .i64 ((i : Int) + 1)]] w' fun e9 w'' => ∃ B bc, e9 = .returned (evV e B bc) ∧ Row w'' B (asgV e.asg) ∧ Ex w' w'') := fun w' hx => at_at (hT.ex hx) hs he
  have HFi : Hid (∀ w', Ex w w' → Calls Tryz.prog 105 #[.agg #[.slice A t.length c], .int .i64 e.kind, .int .i64 e.msg] w' (Ret w' (idV (findO t e.kind e.msg)))) := fun w' hx => rFind_c t A c e.kind e.msg w' (hT.ex hx) hs
  unfold evV at HA
  unfold idV at HFi
  have hfr := form_frm he hf
  by_cases k1 : e.kind = 1
  · rw [pair_loc he k1]
    rw [k1] at HA
    clear HFi hT hs hx hf he hfr k1
    go_enter Tryz.func75, Tryz.ntmps75
    go_wp2_with fail
    refine (HA.out _ (((Ex.refl w).alloc _).alloc _)).mono ?_
    rintro e9 w' ⟨B, bc, rfl, -, z, rfl⟩
    go_wp2_with fail
    go_ret
    exact Ret.mk rfl (((((Ex.refl w).alloc _).alloc _).ext _).alloc _)
  · have r1 : (e.kind == 1) = false := by simp [k1]
    have hv := pair_val he k1
    generalize findO t e.kind e.msg = F at *
    generalize pairE t (p, i + 1) = R at *
    obtain ⟨F1, F2⟩ := F
    rcases hv with ⟨hF, rfl⟩ | ⟨hF, hv⟩
    · clear hT hs hx hf he hfr k1
      by_cases q1 : F1 = p
      · subst q1
        have q2 : ¬ ((F2 : Int) = (i : Int) + 1) := fun h => hF (by have hF2 : F2 = i + 1 := (by omega); rw [hF2])
        clear hF
        go_enter Tryz.func75, Tryz.ntmps75
        go_wp2_with fail
        refine (HA.out _ (((Ex.refl w).alloc _).alloc _)).mono ?_
        rintro e9 w' ⟨B, bc, rfl, -, z, rfl⟩
        have HF2 := Lib.hid (fun w' hx => HFi.out w' ((((((Ex.refl w).alloc (.cells #[.slice A t.length c] 24)).alloc (.cells #[.int .i64 F1, .int .i64 ((i : Int) + 1)] 40)).ext z).alloc (.cells #[.int .i64 e.kind, .int .i64 e.peer, .int .i64 e.msg, .int .i64 e.time, .slice B e.asg.length bc] 38)).trans hx))
        go_wp2_with fail
        refine wp_region_ext (by kernel_rfl) (by kernel_rfl) ?_
        repeat (go_big_quiet_step ((go_at_call 105; exact quiet_ext (HF2.out _ ⟨_, rfl⟩))))
        refine wpQuiet_end (fun z2 => ?_)
        go_wp2_with fail
        go_ret
        exact Ret.mk rfl ((((((Ex.refl w).alloc _).alloc _).ext _).alloc _).ext _)
      · have q2 : ¬ ((F1 : Int) = (p : Int)) := by omega
        clear hF q1
        go_enter Tryz.func75, Tryz.ntmps75
        go_wp2_with fail
        refine (HA.out _ (((Ex.refl w).alloc _).alloc _)).mono ?_
        rintro e9 w' ⟨B, bc, rfl, -, z, rfl⟩
        have HF2 := Lib.hid (fun w' hx => HFi.out w' ((((((Ex.refl w).alloc (.cells #[.slice A t.length c] 24)).alloc (.cells #[.int .i64 p, .int .i64 ((i : Int) + 1)] 40)).ext z).alloc (.cells #[.int .i64 e.kind, .int .i64 e.peer, .int .i64 e.msg, .int .i64 e.time, .slice B e.asg.length bc] 38)).trans hx))
        go_wp2_with fail
        refine wp_region_ext (by kernel_rfl) (by kernel_rfl) ?_
        repeat (go_big_quiet_step ((go_at_call 105; exact quiet_ext (HF2.out _ ⟨_, rfl⟩))))
        refine wpQuiet_end (fun z2 => ?_)
        go_wp2_with fail
        go_ret
        exact Ret.mk rfl ((((((Ex.refl w).alloc _).alloc _).ext _).alloc _).ext _)
    · simp only [Prod.mk.injEq] at hF
      obtain ⟨rfl, hF⟩ := hF
      have q2 : (F2 : Int) = (i : Int) + 1 := by omega
      clear hF hx hf
      by_cases k3 : e.kind = 3
      · have r3 : (e.kind == 3) = true := by simp [k3]
        have hpq : 0 ≤ e.peer ∧ e.peer < (t.length : Int) := by
          unfold frmB at hfr
          rw [if_neg k1] at hfr
          simp only [Bool.and_eq_true, decide_eq_true_eq] at hfr
          exact hfr.1.1.2
        obtain ⟨q, hq⟩ := Int.eq_ofNat_of_zero_le hpq.1
        have hql : q < t.length := by omega
        obtain ⟨y, hy⟩ : ∃ y, t[q]? = some y := ⟨_, List.getElem?_eq_getElem hql⟩
        have HV : Hid (R = if y.evs.any (sndB e.msg (F1 : Int)) then 0 else 7) := by
          have h1 := snds_any hy e.msg (F1 : Int)
          rw [hq] at hv
          rcases hv with ⟨-, h2, h3⟩ | ⟨h2, h3⟩
          · rw [h1, Bool.not_eq_true] at h2
            show R = _
            rw [h2, h3]; rfl
          · have h4 := h1.1 (h2 k3)
            show R = _
            rw [h4, h3]; rfl
        have hyl := (hs.each y (List.mem_of_getElem? hy)).2.2.1
        have HT : Hid (∀ w', Ex w w' → TcC w' A t) := fun w' hx => hT.ex hx
        have m0 : (0 : Int) ≤ (q : Int) := by omega
        have m1 : (q : Int) < (t.length : Int) := by omega
        have Hy := Lib.hid hy
        rw [hq] at HA
        clear hv hT hs he hfr k1 k3 hpq hq hql hy
        go_enter Tryz.func75, Tryz.ntmps75
        go_wp2_with fail
        refine (HA.out _ (((Ex.refl w).alloc _).alloc _)).mono ?_
        rintro e9 w' ⟨B, bc, rfl, -, z, rfl⟩
        have HF2 := Lib.hid (fun w' hx => HFi.out w' ((((((Ex.refl w).alloc (.cells #[.slice A t.length c] 24)).alloc (.cells #[.int .i64 F1, .int .i64 ((i : Int) + 1)] 40)).ext z).alloc (.cells #[.int .i64 e.kind, .int .i64 q, .int .i64 e.msg, .int .i64 e.time, .slice B e.asg.length bc] 38)).trans hx))
        go_wp2_with fail
        refine wp_region_ext (by kernel_rfl) (by kernel_rfl) ?_
        repeat (go_big_quiet_step ((go_at_call 105; exact quiet_ext (HF2.out _ ⟨_, rfl⟩))))
        refine wpQuiet_end (fun z2 => ?_)
        go_wp2_with fail
        have b0 := (((((Blk.new w 24 [.slice A t.length c]).alloc (.cells #[.int .i64 F1, .int .i64 ((i : Int) + 1)] 40)).ex ⟨z, rfl⟩).alloc (.cells #[.int .i64 e.kind, .int .i64 q, .int .i64 e.msg, .int .i64 e.time, .slice B e.asg.length bc] 38)).ex ⟨z2, rfl⟩)
        have b1 := ((((Blk.new (w.alloc (.cells #[.slice A t.length c] 24)) 40 [.int .i64 F1, .int .i64 ((i : Int) + 1)]).ex ⟨z, rfl⟩).alloc (.cells #[.int .i64 e.kind, .int .i64 q, .int .i64 e.msg, .int .i64 e.time, .slice B e.asg.length bc] 38)).ex ⟨z2, rfl⟩)
        have b5 := (Blk.new (ext _ z) 38 [.int .i64 e.kind, .int .i64 q, .int .i64 e.msg, .int .i64 e.time, .slice B e.asg.length bc]).ex ⟨z2, rfl⟩
        have hX2 : Ex w (ext _ z2) := (((((Ex.refl w).alloc _).alloc _).ext z).alloc _).ext z2
        rw [show (w.alloc (.cells #[.slice A t.length c] 24)).heap.size = w.heap.size + 1 by simp] at b1
        generalize (ext _ z).heap.size = N5 at *
        generalize ext _ z2 = W2 at *
        have HB0 := Lib.hid (fun w' (hx : Ex W2 w') => b0.ex hx)
        have HB1 := Lib.hid (fun w' (hx : Ex W2 w') => b1.ex hx)
        have HB5 := Lib.hid (fun w' (hx : Ex W2 w') => b5.ex hx)
        have HX2 := Lib.hid hX2
        clear b0 b1 b5 hX2
        go_loopw [6, 7] (fun b i wr => ∃ j : Nat, i = .int .i64 j ∧ b = .bool ((y.evs.take j).any (sndB e.msg (F1 : Int))) ∧ j ≤ y.evs.length ∧ Hid (Ex W2 wr)) (fun _ i _ => y.evs.length - (intOf i).toNat)
        case atStart => exact ⟨0, rfl, rfl, Nat.zero_le _, Lib.hid (Ex.refl _)⟩
        case round =>
          obtain ⟨j, rfl, rfl, hj, HX⟩ := hrel
          have c0 := (HB0.out _ HX.out).cell 0
          have c1 := (HB1.out _ HX.out).cell 0
          have c5 := (HB5.out _ HX.out).cell 1
          have c6 := (HB5.out _ HX.out).cell 2
          have l0 := (HB0.out _ HX.out).lt
          have l1 := (HB1.out _ HX.out).lt
          have l5 := (HB5.out _ HX.out).lt
          obtain ⟨b, o, hA, hbl, V, vc, E, ec, -, -, g2, -, hE⟩ := HT.out _ (HX2.out.trans HX.out) q y Hy.out
          subst hA
          by_cases hj2 : j < y.evs.length
          · have m2 : (j : Int) < (y.evs.length : Int) := by omega
            have m3 : (0 : Int) ≤ (j : Int) := by omega
            obtain ⟨f, hf⟩ : ∃ f, y.evs[j]? = some f := ⟨_, List.getElem?_eq_getElem hj2⟩
            obtain ⟨b2, o2, hA2, hbl2, B2, bc2, k0, k1, k2, k3, k4, -⟩ := hE j f hf
            subst hA2
            have HN := Lib.hid (any_take (sndB e.msg (F1 : Int)) y.evs j f hf)
            clear hE hf
            generalize (y.evs.take j).any (sndB e.msg (F1 : Int)) = pv at *
            cases pv with
            | true =>
              go_wp2_with fail
              refine ⟨⟨j + 1, by go_num, by rw [HN.out]; rfl, by omega, Lib.hid (HX.out.alloc _)⟩, by simp [intOf]; omega⟩
            | false =>
              unfold sndB at HN
              by_cases d1 : f.kind = 2
              · have s1 : (f.kind == 2) = true := by simp [d1]
                by_cases d2 : f.msg = e.msg
                · have s2 : (f.msg == e.msg) = true := by simp [d2]
                  by_cases d3 : f.peer = (F1 : Int)
                  · have s3 : (f.peer == (F1 : Int)) = true := by simp [d3]
                    have HN2 : Hid ((y.evs.take (j + 1)).any (sndB e.msg (F1 : Int)) = true) := by have h := HN.out; rw [d1, d2, d3] at h; exact h.trans (by simp)
                    clear d1 d2 d3 HN
                    go_wp2_with fail
                    refine ⟨⟨j + 1, by go_num, by rw [HN2.out], by omega, Lib.hid (HX.out.alloc _)⟩, by simp [intOf]; omega⟩
                  · have s3 : (f.peer == (F1 : Int)) = false := by simp [d3]
                    have HN2 : Hid ((y.evs.take (j + 1)).any (sndB e.msg (F1 : Int)) = false) := by have h := HN.out; rw [decide_eq_false d3] at h; exact h.trans (by simp)
                    clear d1 d2 d3 HN
                    go_wp2_with fail
                    refine ⟨⟨j + 1, by go_num, by rw [HN2.out], by omega, Lib.hid (HX.out.alloc _)⟩, by simp [intOf]; omega⟩
                · have s2 : (f.msg == e.msg) = false := by simp [d2]
                  have HN2 : Hid ((y.evs.take (j + 1)).any (sndB e.msg (F1 : Int)) = false) := by have h := HN.out; rw [decide_eq_false d2] at h; exact h.trans (by simp)
                  clear d1 d2 HN
                  go_wp2_with fail
                  refine ⟨⟨j + 1, by go_num, by rw [HN2.out], by omega, Lib.hid (HX.out.alloc _)⟩, by simp [intOf]; omega⟩
              · have s1 : (f.kind == 2) = false := by simp [d1]
                have HN2 : Hid ((y.evs.take (j + 1)).any (sndB e.msg (F1 : Int)) = false) := by have h := HN.out; rw [decide_eq_false d1] at h; exact h.trans (by simp)
                clear d1 HN
                go_wp2_with fail
                refine ⟨⟨j + 1, by go_num, by rw [HN2.out], by omega, Lib.hid (HX.out.alloc _)⟩, by simp [intOf]; omega⟩
          · have m2 : decide ((j : Int) < (y.evs.length : Int)) = false := decide_eq_false (by omega)
            have hjl : j = y.evs.length := by omega
            have HR : Hid (R = if (y.evs.take j).any (sndB e.msg (F1 : Int)) then 0 else 7) := by rw [hjl, List.take_length]; exact HV.out
            clear hE hjl
            generalize (y.evs.take j).any (sndB e.msg (F1 : Int)) = pv at *
            cases pv with
            | true =>
              obtain rfl : R = 0 := HR.out
              go_wp2_with fail
              go_ret
              exact Ret.mk rfl (HX2.out.trans HX.out)
            | false =>
              obtain rfl : R = 7 := HR.out
              go_wp2_with fail
              go_ret
              exact Ret.mk rfl (HX2.out.trans HX.out)
      · have r3 : (e.kind == 3) = false := by simp [k3]
        obtain rfl : R = 0 := by
          rcases hv with ⟨h, -⟩ | ⟨-, h⟩
          · exact absurd h k3
          · exact h
        clear hv hT hs he hfr k1 k3
        go_enter Tryz.func75, Tryz.ntmps75
        go_wp2_with fail
        refine (HA.out _ (((Ex.refl w).alloc _).alloc _)).mono ?_
        rintro e9 w' ⟨B, bc, rfl, -, z, rfl⟩
        have HF2 := Lib.hid (fun w' hx => HFi.out w' ((((((Ex.refl w).alloc (.cells #[.slice A t.length c] 24)).alloc (.cells #[.int .i64 F1, .int .i64 ((i : Int) + 1)] 40)).ext z).alloc (.cells #[.int .i64 e.kind, .int .i64 e.peer, .int .i64 e.msg, .int .i64 e.time, .slice B e.asg.length bc] 38)).trans hx))
        go_wp2_with fail
        refine wp_region_ext (by kernel_rfl) (by kernel_rfl) ?_
        repeat (go_big_quiet_step ((go_at_call 105; exact quiet_ext (HF2.out _ ⟨_, rfl⟩))))
        refine wpQuiet_end (fun z2 => ?_)
        go_wp2_with fail
        go_ret
        exact Ret.mk rfl ((((((Ex.refl w).alloc _).alloc _).ext _).alloc _).ext _)
end
section
open Go.RowKit
set_option maxRecDepth 20000 in
set_option maxHeartbeats 1600000 in
theorem formed_c (t : List Pr) (A : Option Addr) (c p : Nat) (e : Ev) (B : Option Addr) (bc : Nat) (w : World) (hn : t.length ≤ 100000) :
    Calls Tryz.prog 118 #[.agg #[.slice A t.length c], .int .i64 p, .agg #[.int .i64 e.kind, .int .i64 e.peer, .int .i64 e.msg, .int .i64 e.time, .slice B e.asg.length bc]] w (Ret w (.bool (frmB t.length p e))) := by
  have HI := Lib.hid (fun x a b w => in_c x a b w)
  unfold frmB
  generalize t.length = n at *
  have e1 : IntKind.i64.wrap ((n : Int) - 1) = (n : Int) - 1 := IntWalk.i64_in _ (by omega)
  have hB1 : inB e.peer 0 ((n : Int) - 1) = (decide (0 ≤ e.peer) && decide (e.peer < (n : Int))) := by
    unfold inB
    congr 1
    rw [decide_eq_decide]
    omega
  have hB2 : inB e.msg 0 199 = (decide (0 ≤ e.msg) && decide (e.msg ≤ 199)) := rfl
  by_cases k1 : e.kind = 1
  · have r1 : (e.kind == 1) = true := by simp [k1]
    rw [if_pos k1]
    by_cases q1 : e.peer = 0 <;> by_cases q2 : e.msg = 0
    all_goals
      clear hB1 hB2 HI
      first
      | have s1 : (e.peer == 0) = true := by simp [q1]
      | have s1 : (e.peer == 0) = false := by simp [q1]
      first
      | have s2 : (e.msg == 0) = true := by simp [q2]
      | have s2 : (e.msg == 0) = false := by simp [q2]
      go_enter Tryz.func118, Tryz.ntmps118
      go_wp2_with fail
      go_ret
      exact Ret.mk (by simp [*]) (((Ex.refl w).alloc _).alloc _)
  · have r1 : (e.kind == 1) = false := by simp [k1]
    rw [if_neg k1]
    by_cases k23 : e.kind = 2 ∨ e.kind = 3
    · rw [decide_eq_true k23]
      have HP1 := Lib.hid (HI.out e.peer 0 ((n : Int) - 1))
      have HP2 := Lib.hid (HI.out e.msg 0 199)
      rw [hB1] at HP1
      rw [hB2] at HP2
      generalize (decide (0 ≤ e.peer) && decide (e.peer < (n : Int))) = b1 at *
      generalize (decide (0 ≤ e.msg) && decide (e.msg ≤ 199)) = b2 at *
      clear hB1 hB2
      have s45 : ((e.kind == 2) = true) ∨ ((e.kind == 2) = false ∧ (e.kind == 3) = true) := by
        rcases k23 with h | h
        · exact .inl (by simp [h])
        · exact .inr ⟨by simp [h], by simp [h]⟩
      clear k1 k23
      cases b1 with
      | false =>
        rcases s45 with s4 | ⟨s4, s5⟩
        · go_enter Tryz.func118, Tryz.ntmps118
          go_wp2_with fail
          refine (HP1.out _).mono ?_
          rintro e9 w' ⟨rfl, z, rfl⟩
          go_wp2_with fail
          go_ret
          exact Ret.mk (by simp) ((((Ex.refl w).alloc _).alloc _).ext _)
        · go_enter Tryz.func118, Tryz.ntmps118
          go_wp2_with fail
          refine (HP1.out _).mono ?_
          rintro e9 w' ⟨rfl, z, rfl⟩
          go_wp2_with fail
          go_ret
          exact Ret.mk (by simp) ((((Ex.refl w).alloc _).alloc _).ext _)
      | true =>
        by_cases q3 : e.peer = (p : Int)
        · have s3 : (e.peer == (p : Int)) = true := by simp [q3]
          rw [show decide (e.peer = (p : Int)) = true from decide_eq_true q3]
          have s6 : (e.peer = (p : Int)) = True := eq_true q3
          clear q3
          rcases s45 with s4 | ⟨s4, s5⟩
          · go_enter Tryz.func118, Tryz.ntmps118
            go_wp2_with fail
            refine (HP1.out _).mono ?_
            rintro e9 w' ⟨rfl, z, rfl⟩
            go_wp2_with fail
            go_ret
            exact Ret.mk (by simp) ((((Ex.refl w).alloc _).alloc _).ext _)
          · go_enter Tryz.func118, Tryz.ntmps118
            go_wp2_with fail
            refine (HP1.out _).mono ?_
            rintro e9 w' ⟨rfl, z, rfl⟩
            go_wp2_with fail
            go_ret
            exact Ret.mk (by simp) ((((Ex.refl w).alloc _).alloc _).ext _)
        · have s3 : (e.peer == (p : Int)) = false := by simp [q3]
          rw [show decide (e.peer = (p : Int)) = false from decide_eq_false q3]
          have s6 : (e.peer = (p : Int)) = False := eq_false q3
          clear q3
          rcases s45 with s4 | ⟨s4, s5⟩
          · go_enter Tryz.func118, Tryz.ntmps118
            go_wp2_with fail
            refine (HP1.out _).mono ?_
            rintro e9 w' ⟨rfl, z, rfl⟩
            go_wp2_with fail
            refine (HP2.out _).mono ?_
            rintro e9 w' ⟨rfl, z2, rfl⟩
            go_wp2_with fail
            go_ret
            exact Ret.mk (by simp [s6]) (((((Ex.refl w).alloc _).alloc _).ext _).ext _)
          · go_enter Tryz.func118, Tryz.ntmps118
            go_wp2_with fail
            refine (HP1.out _).mono ?_
            rintro e9 w' ⟨rfl, z, rfl⟩
            go_wp2_with fail
            refine (HP2.out _).mono ?_
            rintro e9 w' ⟨rfl, z2, rfl⟩
            go_wp2_with fail
            go_ret
            exact Ret.mk (by simp [s6]) (((((Ex.refl w).alloc _).alloc _).ext _).ext _)
    · have s4 : (e.kind == 2) = false := by simp; omega
      have s5 : (e.kind == 3) = false := by simp; omega
      rw [decide_eq_false k23]
      clear k23 k1 hB1 hB2 HI
      go_enter Tryz.func118, Tryz.ntmps118
      go_wp2_with fail
      go_ret
      exact Ret.mk (by simp) (((Ex.refl w).alloc _).alloc _)
end
section
theorem formE_at {t : List Pr} {p i : Nat} {x : Pr} {e : Ev} (h : t[p]? = some x) (he : x.evs[i]? = some e) : formE t (p, i + 1) = evE t.length p x.vars.length (lastT x i) e := by
  unfold formE
  simp only [h, Nat.add_sub_cancel, he]
theorem lastT_zero (x : Pr) : lastT x 0 = 0 := by
  unfold lastT
  rw [if_pos rfl]
theorem lastT_succ {x : Pr} {i : Nat} {e : Ev} (h : x.evs[i]? = some e) : lastT x (i + 1) = e.time := by
  unfold lastT
  rw [if_neg (by omega), Nat.add_sub_cancel, h]
theorem asgE_at {n : Nat} {l : List (Int × Int)} {i : Nat} {a : Int × Int} (h : l[i]? = some a) : asgE n l i = if a.1 < 0 ∨ (n : Int) ≤ a.1 ∨ !valB a.2 then 2 else if (l.take i).any (fun b => decide (b.1 = a.1)) then 8 else 0 := by
  unfold asgE
  rw [h]
theorem varE_at {vs : List (ByteArray × Int)} {i : Nat} {v : ByteArray × Int} (h : vs[i]? = some v) : varE vs i = if !nameB v.1 || (vs.take i).any (fun u => decide (u.1 = v.1)) then 13 else if !valB v.2 then 2 else 0 := by
  unfold varE
  rw [h]
theorem headE_at {t : List Pr} {p : Nat} {x : Pr} (h : t[p]? = some x) : headE t p = if !nameB x.name || (t.take p).any (fun y => decide (y.name = x.name)) then 13 else if 8 < x.vars.length then 5 else if firstN (varE x.vars) x.vars.length ≠ 0 then firstN (varE x.vars) x.vars.length else if 64 < x.evs.length then 5 else 0 := by
  unfold headE
  rw [h]
/-- a fault of the form is found before the rest is looked at -/
theorem evE_frm {n p vs : Nat} {last : Int} {e : Ev} (h : frmB n p e = false) : evE n p vs last e = 3 := by
  unfold evE
  rw [h]
  rfl
theorem evE_time {n p vs : Nat} {last : Int} {e : Ev} (h : frmB n p e = true) (ht : e.time < 0 ∨ 1099511627776 < e.time ∨ e.time < last) : evE n p vs last e = 11 := by
  unfold evE
  rw [h, if_neg (by simp), if_pos ht]
theorem evE_full {n p vs : Nat} {last : Int} {e : Ev} (h : frmB n p e = true) (ht : ¬ (e.time < 0 ∨ 1099511627776 < e.time ∨ e.time < last)) (ha : 8 < e.asg.length) : evE n p vs last e = 5 := by
  unfold evE
  rw [h, if_neg (by simp), if_neg ht, if_pos ha]
theorem evE_rest {n p vs : Nat} {last : Int} {e : Ev} (h : frmB n p e = true) (ht : ¬ (e.time < 0 ∨ 1099511627776 < e.time ∨ e.time < last)) (ha : ¬ 8 < e.asg.length) : evE n p vs last e = firstN (asgE vs e.asg) e.asg.length := by
  unfold evE
  rw [h, if_neg (by simp), if_neg ht, if_neg ha]
end
section
open Go.RowKit
set_option maxRecDepth 20000 in
set_option maxHeartbeats 1600000 in
theorem rForm_bad (t : List Pr) (A : Option Addr) (c p i : Nat) (w : World) (e : Ev) (hT : TcC w A t) (hs : TSm t) (he : evAt t p i = some e) (hf : frmB t.length p e = false) :
    Calls Tryz.prog 74 #[.agg #[.slice A t.length c], .int .i64 p, .int .i64 i] w (Ret w (.int .i64 3)) := by
  have hx := evAt_lt he
  obtain ⟨x, hpx⟩ : ∃ x, t[p]? = some x := by
    cases h : t[p]? with
    | none => unfold evN at hx; rw [h] at hx; simp at hx
    | some x => exact ⟨x, rfl⟩
  have hxe : x.evs[i]? = some e := by unfold evAt at he; rw [hpx] at he; exact he
  have hp := (List.getElem?_eq_some_iff.1 hpx).1
  have hi := (List.getElem?_eq_some_iff.1 hxe).1
  have hl := hs.procs
  have hel := (hs.each x (List.mem_of_getElem? hpx)).2.2.1
  obtain ⟨b, o, hA, hbl, V, vc, E, ec, -, -, g2, -, hE⟩ := hT p x hpx
  obtain ⟨b2, o2, hA2, hbl2, B, bc, k0, k1, k2, k3, k4, -⟩ := hE i e hxe
  subst hA hA2
  have m0 : (0 : Int) ≤ (p : Int) := by omega
  have m1 : (p : Int) < (t.length : Int) := by omega
  have m2 : (0 : Int) ≤ (i : Int) := by omega
  have m3 : (i : Int) < (x.evs.length : Int) := by omega
  clear hT hs hE he hpx hxe
  unfold frmB at hf
  by_cases q1 : e.kind = 1
  · rw [if_pos q1] at hf
    have r1 : (e.kind == 1) = true := by simp [q1]
    clear q1
    by_cases q2 : e.peer = 0
    · have q3 : ¬ e.msg = 0 := fun h => by rw [q2, h] at hf; simp at hf
      have s2 : (e.peer != 0) = false := by simp [q2]
      have s3 : (e.msg != 0) = true := by simp [q3]
      clear q2 q3 hf
      go_enter Tryz.func74, Tryz.ntmps74
      go_wp2_with fail
      go_ret
      exact Ret.mk rfl (((Ex.refl w).alloc _).alloc _)
    · have s2 : (e.peer != 0) = true := by simp [q2]
      clear q2 hf
      go_enter Tryz.func74, Tryz.ntmps74
      go_wp2_with fail
      go_ret
      exact Ret.mk rfl (((Ex.refl w).alloc _).alloc _)
  · rw [if_neg q1] at hf
    have r1 : (e.kind == 1) = false := by simp [q1]
    have hk : ((e.kind != 2) = true ∧ (e.kind != 3) = true) ∨ (((e.kind != 2) = false ∨ ((e.kind != 2) = true ∧ (e.kind != 3) = false)) ∧ (e.kind = 2 ∨ e.kind = 3)) := by
      by_cases k2 : e.kind = 2
      · exact .inr ⟨.inl (by simp [k2]), .inl k2⟩
      · by_cases k3 : e.kind = 3
        · exact .inr ⟨.inr ⟨by simp [k3], by simp [k3]⟩, .inr k3⟩
        · exact .inl ⟨by simp [k2], by simp [k3]⟩
    rcases hk with ⟨r2, r3⟩ | ⟨hk, h23⟩
    · clear hf q1
      go_enter Tryz.func74, Tryz.ntmps74
      go_wp2_with fail
      go_ret
      exact Ret.mk rfl (((Ex.refl w).alloc _).alloc _)
    · rw [decide_eq_true h23] at hf
      by_cases a1 : e.peer < 0
      · have s1 : decide (e.peer < 0) = true := decide_eq_true a1
        clear hf q1 h23 a1
        rcases hk with r2 | ⟨r2, r3⟩
        all_goals
          go_enter Tryz.func74, Tryz.ntmps74
          go_wp2_with fail
          go_ret
          exact Ret.mk rfl (((Ex.refl w).alloc _).alloc _)
      · have s1 : decide (e.peer < 0) = false := decide_eq_false a1
        by_cases a2 : (t.length : Int) ≤ e.peer
        · have s2 : decide ((t.length : Int) ≤ e.peer) = true := decide_eq_true a2
          clear hf q1 h23 a1 a2
          rcases hk with r2 | ⟨r2, r3⟩
          all_goals
            go_enter Tryz.func74, Tryz.ntmps74
            go_wp2_with fail
            go_ret
            exact Ret.mk rfl (((Ex.refl w).alloc _).alloc _)
        · have s2 : decide ((t.length : Int) ≤ e.peer) = false := decide_eq_false a2
          by_cases a3 : e.peer = (p : Int)
          · have s3 : (e.peer == (p : Int)) = true := by simp [a3]
            clear hf q1 h23 a1 a2 a3
            rcases hk with r2 | ⟨r2, r3⟩
            all_goals
              go_enter Tryz.func74, Tryz.ntmps74
              go_wp2_with fail
              go_ret
              exact Ret.mk rfl (((Ex.refl w).alloc _).alloc _)
          · have s3 : (e.peer == (p : Int)) = false := by simp [a3]
            by_cases a4 : e.msg < 0
            · have s4 : decide (e.msg < 0) = true := decide_eq_true a4
              clear hf q1 h23 a1 a2 a3 a4
              rcases hk with r2 | ⟨r2, r3⟩
              all_goals
                go_enter Tryz.func74, Tryz.ntmps74
                go_wp2_with fail
                go_ret
                exact Ret.mk rfl (((Ex.refl w).alloc _).alloc _)
            · have s4 : decide (e.msg < 0) = false := decide_eq_false a4
              have a5 : 199 < e.msg := by
                apply Classical.byContradiction
                intro h
                rw [decide_eq_true (by omega : 0 ≤ e.peer), decide_eq_true (by omega : e.peer < (t.length : Int)), decide_eq_false a3, decide_eq_true (by omega : 0 ≤ e.msg), decide_eq_true (by omega : e.msg ≤ 199)] at hf
                simp at hf
              have s5 : decide (199 < e.msg) = true := decide_eq_true a5
              clear hf q1 h23 a1 a2 a3 a4 a5
              rcases hk with r2 | ⟨r2, r3⟩
              all_goals
                go_enter Tryz.func74, Tryz.ntmps74
                go_wp2_with fail
                go_ret
                exact Ret.mk rfl (((Ex.refl w).alloc _).alloc _)
end
end Go.Proofs.YtpmponafjhnegaaGreatDoor
