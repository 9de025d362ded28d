/-
  The reference's form, walked: events that are well formed.
  Conditions: as each theorem says.
-/
import Derived.Test.YtpmponafjhnegaaGreatDoorYc
import Derived.Test.YtpmponafjhnegaaGreatDoorHb
namespace Go.Proofs.YtpmponafjhnegaaGreatDoor
open Go.RowKit
set_option maxRecDepth 20000 in
set_option maxHeartbeats 4000000 in
theorem rForm_good (t : List Pr) (A : Option Addr) (c p i : Nat) (w : World) (e : Ev) (hT : TcC w A t) (hs : TSm t) (he : evAt t p i = some e) (hf : frmB t.length p e = true) :
    Calls Tryz.prog 74 #[.agg #[.slice A t.length c], .int .i64 p, .int .i64 i] w (Ret w (.int .i64 (formE t (p, i + 1) : Nat))) := by
  have hx := evAt_lt he
  obtain ⟨x, hpx⟩ : ∃ x, t[p]? = some x := by
    cases h : t[p]? with
    | none => unfold evN at hx; rw [h] at hx; simp at hx
    | some x => exact ⟨x, rfl⟩
  have hxe : x.evs[i]? = some e := by unfold evAt at he; rw [hpx] at he; exact he
  have hp := (List.getElem?_eq_some_iff.1 hpx).1
  have hi := (List.getElem?_eq_some_iff.1 hxe).1
  have hl := hs.procs
  obtain ⟨-, hxv, hel, -, hxa⟩ := hs.each x (List.mem_of_getElem? hpx)
  have ha := hxa e (List.mem_of_getElem? hxe)
  have HFE := Lib.hid (formE_at hpx hxe)
  have HT : Hid (∀ w', Ex w w' → TcC w' A t) := fun w' hx => hT.ex hx
  have HV := Lib.hid (fun x w => rValue_c x w)
  obtain ⟨b, o, hA, hbl, V, vc, E, ec, -, g1, g2, -, hE⟩ := hT p x hpx
  obtain ⟨b2, o2, hA2, hbl2, B, bc, k0, k1, k2, k3, k4, hB, -⟩ := hE i e hxe
  have HBr : Hid (∀ w', Ex w w' → Row w' B (asgV e.asg)) := fun w' hx => hB.ex hx
  have HG1 : Hid (∀ w', Ex w w' → w'.cell? ⟨b, o + p * 3 + 1, none⟩ = some (.slice V x.vars.length vc)) := fun w' hx => (hx.below.cell hbl).trans g1
  have hprev : i = 0 ∨ ∃ f, x.evs[i - 1]? = some f ∧ w.cell? ⟨b2, o2 + (i - 1) * 5 + 3, none⟩ = some (.int .i64 f.time) := by
    by_cases h0 : i = 0
    · exact .inl h0
    · obtain ⟨f, hf⟩ : ∃ f, x.evs[i - 1]? = some f := ⟨_, List.getElem?_eq_getElem (by omega)⟩
      obtain ⟨b3, o3, hA3, -, -, -, -, -, -, k3', -⟩ := hE (i - 1) f hf
      rw [hA2] at hA3
      cases hA3
      exact .inr ⟨f, hf, k3'⟩
  subst hA hA2
  have m0 : (0 : Int) ≤ (p : Int) := by omega
  have m1 : (p : Int) < (t.length : Int) := by omega
  have m2 : (0 : Int) ≤ (i : Int) := by omega
  have m3 : (i : Int) < (x.evs.length : Int) := by omega
  have hkind : ((e.kind == 1) = true ∧ (e.peer != 0) = false ∧ (e.msg != 0) = false) ∨ ((e.kind == 1) = false ∧ ((e.kind != 2) = false ∨ ((e.kind != 2) = true ∧ (e.kind != 3) = false)) ∧ decide (e.peer < 0) = false ∧ decide ((t.length : Int) ≤ e.peer) = false ∧ (e.peer == (p : Int)) = false ∧ decide (e.msg < 0) = false ∧ decide (199 < e.msg) = false) := by
    unfold frmB at hf
    by_cases q1 : e.kind = 1
    · rw [if_pos q1] at hf
      simp only [Bool.and_eq_true, decide_eq_true_eq] at hf
      exact .inl ⟨by simp [q1], by simp [hf.1], by simp [hf.2]⟩
    · rw [if_neg q1] at hf
      simp only [Bool.and_eq_true, decide_eq_true_eq, Bool.not_eq_true', decide_eq_false_iff_not] at hf
      obtain ⟨⟨⟨h23, h1, h2⟩, h3⟩, h4, h5⟩ := hf
      refine .inr ⟨by simp [q1], ?_, decide_eq_false (by omega), decide_eq_false (by omega), by simp [h3], decide_eq_false (by omega), decide_eq_false (by omega)⟩
      by_cases k2 : e.kind = 2
      · exact .inl (by simp [k2])
      · exact .inr ⟨by simp [k2], by simp [h23.resolve_left k2]⟩
  have htime : ((decide (e.time < 0) = true ∨ (decide (e.time < 0) = false ∧ decide (1099511627776 < e.time) = true) ∨ (decide (e.time < 0) = false ∧ decide (1099511627776 < e.time) = false ∧ decide (0 < (i : Int)) = true ∧ 0 < i ∧ ∃ f : Ev, w.cell? ⟨b2, o2 + (i - 1) * 5 + 3, none⟩ = some (.int .i64 f.time) ∧ decide (e.time < f.time) = true)) ∧ formE t (p, i + 1) = 11) ∨
      (decide (e.time < 0) = false ∧ decide (1099511627776 < e.time) = false ∧ (decide (0 < (i : Int)) = false ∨ (decide (0 < (i : Int)) = true ∧ 0 < i ∧ ∃ f : Ev, w.cell? ⟨b2, o2 + (i - 1) * 5 + 3, none⟩ = some (.int .i64 f.time) ∧ decide (e.time < f.time) = false)) ∧
        formE t (p, i + 1) = if 8 < e.asg.length then 5 else firstN (asgE x.vars.length e.asg) e.asg.length) := by
    have hlast : (i = 0 → lastT x i = 0) ∧ ∀ f, 0 < i → x.evs[i - 1]? = some f → lastT x i = f.time := by
      refine ⟨fun h => by rw [h]; exact lastT_zero x, fun f h0 hf => ?_⟩
      obtain ⟨j, rfl⟩ : ∃ j, i = j + 1 := ⟨i - 1, by omega⟩
      exact lastT_succ hf
    rw [HFE.out]
    have hrest : ¬ (e.time < 0 ∨ 1099511627776 < e.time ∨ e.time < lastT x i) → evE t.length p x.vars.length (lastT x i) e = if 8 < e.asg.length then 5 else firstN (asgE x.vars.length e.asg) e.asg.length := fun h => by
      by_cases h8 : 8 < e.asg.length
      · rw [if_pos h8, evE_full hf h h8]
      · rw [if_neg h8, evE_rest hf h h8]
    by_cases t1 : e.time < 0
    · exact .inl ⟨.inl (decide_eq_true t1), evE_time hf (.inl t1)⟩
    · by_cases t2 : 1099511627776 < e.time
      · exact .inl ⟨.inr (.inl ⟨decide_eq_false t1, decide_eq_true t2⟩), evE_time hf (.inr (.inl t2))⟩
      · rcases hprev with h0 | ⟨f, hf1, hf2⟩
        · refine .inr ⟨decide_eq_false t1, decide_eq_false t2, .inl (decide_eq_false (by omega)), hrest ?_⟩
          rw [hlast.1 h0]
          omega
        · by_cases h0 : i = 0
          · refine .inr ⟨decide_eq_false t1, decide_eq_false t2, .inl (decide_eq_false (by omega)), hrest ?_⟩
            rw [hlast.1 h0]
            omega
          · have hlt := hlast.2 f (by omega) hf1
            by_cases t3 : e.time < f.time
            · exact .inl ⟨.inr (.inr ⟨decide_eq_false t1, decide_eq_false t2, decide_eq_true (by omega), by omega, f, hf2, decide_eq_true t3⟩), evE_time hf (by rw [hlt]; exact .inr (.inr t3))⟩
            · refine .inr ⟨decide_eq_false t1, decide_eq_false t2, .inr ⟨decide_eq_true (by omega), by omega, f, hf2, decide_eq_false t3⟩, hrest ?_⟩
              rw [hlt]
              omega
  have Hpx := Lib.hid hpx
  clear hT hs hE hB he hpx hxe hprev HFE hf hxa
  generalize formE t (p, i + 1) = R at *
  obtain ⟨W0, hW0⟩ : ∃ W0, W0 = (w.alloc (.cells #[.slice (some ⟨b, o, none⟩) t.length c] 24)).alloc (.cells #[.int .i64 e.kind, .int .i64 e.peer, .int .i64 e.msg, .int .i64 e.time, .slice B e.asg.length bc] 38) := ⟨_, rfl⟩
  have HX0 : Hid (Ex w W0) := by rw [hW0]; exact ((Ex.refl w).alloc _).alloc _
  have HB0 : Hid (∀ w', Ex W0 w' → Blk w' w.heap.size 24 [.slice (some ⟨b, o, none⟩) t.length c]) := fun w' hx => by
    have : Blk W0 w.heap.size 24 [.slice (some ⟨b, o, none⟩) t.length c] := by rw [hW0]; exact (Blk.new w _ _).alloc _
    exact this.ex hx
  have HB1 : Hid (∀ w', Ex W0 w' → Blk w' (w.heap.size + 1) 38 [.int .i64 e.kind, .int .i64 e.peer, .int .i64 e.msg, .int .i64 e.time, .slice B e.asg.length bc]) := fun w' hx => by
    have : Blk W0 (w.heap.size + 1) 38 [.int .i64 e.kind, .int .i64 e.peer, .int .i64 e.msg, .int .i64 e.time, .slice B e.asg.length bc] := by
      rw [hW0, show w.heap.size + 1 = (w.alloc (.cells #[.slice (some ⟨b, o, none⟩) t.length c] 24)).heap.size by simp]
      exact Blk.new _ _ _
    exact this.ex hx
  have HW0 := Lib.hid hW0
  clear hW0
  have e1 : 0 < i → IntKind.i64.wrap ((i : Int) - 1) = ((i - 1 : Nat) : Int) := fun h => by rw [IntWalk.i64_in _ (by omega)]; omega
  rcases htime with ⟨htime, rfl⟩ | ⟨t1, t2, t3, hR⟩
  · rcases htime with t1 | ⟨t1, t2⟩ | ⟨t1, t2, t3, t4, f, t5, t6⟩
    · clear e1
      rcases hkind with ⟨r1, r2, r3⟩ | ⟨r1, r2 | ⟨r2, r3⟩, r4, r5, r6, r7, r8⟩
      all_goals
        go_enter Tryz.func74, Tryz.ntmps74
        go_wp2_with fail
        go_quiet (fail)
        go_wp2_with fail
        go_ret
        exact Ret.mk rfl ((((Ex.refl w).alloc _).alloc _).drewN _)
    · clear e1
      rcases hkind with ⟨r1, r2, r3⟩ | ⟨r1, r2 | ⟨r2, r3⟩, r4, r5, r6, r7, r8⟩
      all_goals
        go_enter Tryz.func74, Tryz.ntmps74
        go_wp2_with fail
        go_quiet (fail)
        go_wp2_with fail
        go_ret
        exact Ret.mk rfl ((((Ex.refl w).alloc _).alloc _).drewN _)
    · have e2 := e1 t4
      have m4 : (0 : Int) ≤ ((i - 1 : Nat) : Int) := by omega
      have m5 : ((i - 1 : Nat) : Int) < (x.evs.length : Int) := by omega
      clear e1
      rcases hkind with ⟨r1, r2, r3⟩ | ⟨r1, r2 | ⟨r2, r3⟩, r4, r5, r6, r7, r8⟩
      all_goals
        go_enter Tryz.func74, Tryz.ntmps74
        go_wp2_with fail
        go_quiet (fail)
        go_wp2_with fail
        go_ret
        exact Ret.mk rfl ((((Ex.refl w).alloc _).alloc _).drewN _)
  · have t3' : (decide (0 < (i : Int)) = false ∧ decide (0 < i) = false) ∨ (decide (0 < (i : Int)) = true ∧ 0 < i ∧ IntKind.i64.wrap ((i : Int) - 1) = ((i - 1 : Nat) : Int) ∧ (0 : Int) ≤ ((i - 1 : Nat) : Int) ∧ ((i - 1 : Nat) : Int) < (x.evs.length : Int) ∧ ∃ f : Ev, w.cell? ⟨b2, o2 + (i - 1) * 5 + 3, none⟩ = some (.int .i64 f.time) ∧ decide (e.time < f.time) = false) := by
      rcases t3 with t3 | ⟨t3, t4, f, t5, t6⟩
      · exact .inl ⟨t3, decide_eq_false (by have := of_decide_eq_false t3; omega)⟩
      · exact .inr ⟨t3, t4, e1 t4, by omega, by omega, f, t5, t6⟩
    clear e1 t3
    have HR := Lib.hid hR
    clear hR
    rcases t3' with ⟨t3, t4⟩ | ⟨t3, t4, e2, m4, m5, f, t5, t6⟩
    all_goals
      rcases hkind with ⟨r1, r2, r3⟩ | ⟨r1, r2 | ⟨r2, r3⟩, r4, r5, r6, r7, r8⟩
      all_goals
        by_cases h8 : 8 < e.asg.length
        · have s1 : decide (8 < (e.asg.length : Int)) = true := decide_eq_true (by omega)
          have hR : R = 5 := by rw [HR.out, if_pos h8]
          subst hR
          go_enter Tryz.func74, Tryz.ntmps74
          go_wp2_with fail
          go_quiet (fail)
          go_wp2_with fail
          go_ret
          exact Ret.mk rfl ((((Ex.refl w).alloc _).alloc _).drewN _)
        have s1 : decide (8 < (e.asg.length : Int)) = false := decide_eq_false (by omega)
        have HR2 : Hid (R = firstN (asgE x.vars.length e.asg) e.asg.length) := by rw [HR.out, if_neg h8]; exact rfl
        go_enter Tryz.func74, Tryz.ntmps74
        go_wp2_with fail
        go_quiet (fail)
        go_wp2_with fail
        rw [← HW0.out]
        generalize hz : W0.drewN _ = W1
        have HX1 : Hid (Ex W0 W1) := by rw [← hz]; exact (Ex.refl W0).drewN _
        clear hz
        go_loopw [8] (fun i wr => ∃ q : Nat, i = .int .i64 q ∧ q ≤ e.asg.length ∧ Hid ((∀ j, j < q → asgE x.vars.length e.asg j = 0) ∧ Ex W0 wr)) (fun i _ => e.asg.length - (intOf i).toNat)
        case atStart => exact ⟨0, rfl, Nat.zero_le _, Lib.hid ⟨fun j h => absurd h (Nat.not_lt_zero _), HX1.out⟩⟩
        case round =>
          clear HX1
          obtain ⟨q, rfl, hq, HH⟩ := hrel
          have hB0 := HB0.out _ HH.out.2
          have hB1 := HB1.out _ HH.out.2
          have b0 := hB0.cell 0
          have l0 := hB0.lt
          have l1 := hB1.lt
          have c4 := hB1.cell 4
          clear hB0 hB1
          by_cases hql : q < e.asg.length
          · obtain ⟨a, ha⟩ : ∃ a, e.asg[q]? = some a := ⟨_, List.getElem?_eq_getElem hql⟩
            have HE := Lib.hid (asgE_at (n := x.vars.length) ha)
            have HF : Hid (asgE x.vars.length e.asg q ≠ 0 → R = asgE x.vars.length e.asg q) := fun h => by
              rw [HR2.out, firstN_some hql h HH.out.1]
            have HG : Hid (asgE x.vars.length e.asg q = 0 → ∀ j, j < q + 1 → asgE x.vars.length e.asg j = 0) := fun h j hj => by
              by_cases hjq : j = q
              · rw [hjq]; exact h
              · exact HH.out.1 j (by omega)
            have HV1 := Lib.hid (fun w => HV.out a.2 w)
            obtain ⟨b5, o5, hB5, hb5, k0, k1⟩ := (HBr.out _ (HX0.out.trans HH.out.2)).asg ha
            subst hB5
            have m6 : (0 : Int) ≤ (q : Int) := by omega
            have m7 : (q : Int) < (e.asg.length : Int) := by omega
            have g1 := HG1.out _ (HX0.out.trans HH.out.2)
            have hbw : b < wr.heap.size := Nat.lt_of_lt_of_le hbl (HX0.out.trans HH.out.2).below.size
            generalize hvE : asgE x.vars.length e.asg q = D at *
            have Ha := Lib.hid ha
            clear hvE ha
            obtain ⟨b9, o9, hA9, -, V9, vc9, E9, ec9, -, q1, -⟩ := HT.out _ (HX0.out.trans HH.out.2) p x Hpx.out
            cases hA9
            by_cases c1 : a.1 < 0
            · have s2 : decide (a.1 < 0) = true := decide_eq_true c1
              have hD : D = 2 := by rw [HE.out, if_pos (.inl c1)]
              have hR : R = 2 := by rw [HF.out (by rw [hD]; decide), hD]
              subst hR
              clear c1 hD
              go_wp2_with fail
              go_quiet (fail)
              go_wp2_with fail
              go_ret
              exact Ret.mk rfl (((HX0.out.trans HH.out.2).alloc _).drewN _)
            by_cases c2 : (x.vars.length : Int) ≤ a.1
            · have s2 : decide (a.1 < 0) = false := decide_eq_false c1
              have s3 : decide ((x.vars.length : Int) ≤ a.1) = true := decide_eq_true c2
              have hD : D = 2 := by rw [HE.out, if_pos (.inr (.inl c2))]
              have hR : R = 2 := by rw [HF.out (by rw [hD]; decide), hD]
              subst hR
              clear c1 c2 hD
              go_wp2_with fail
              go_quiet (fail)
              go_wp2_with fail
              go_ret
              exact Ret.mk rfl (((HX0.out.trans HH.out.2).alloc _).drewN _)
            have s2 : decide (a.1 < 0) = false := decide_eq_false c1
            have s3 : decide ((x.vars.length : Int) ≤ a.1) = false := decide_eq_false c2
            cases hvb : valB a.2
            · have hD : D = 2 := by rw [HE.out, if_pos (.inr (.inr (by rw [hvb]; rfl)))]
              have hR : R = 2 := by rw [HF.out (by rw [hD]; decide), hD]
              subst hR
              rw [hvb] at HV1
              clear c1 c2 hD hvb
              go_wp2_with fail
              refine wp_region_ext (by kernel_rfl) (by kernel_rfl) ?_
              repeat (go_big_quiet_step ((go_at_call 104; exact quiet_ext (HV1.out _))))
              refine wpQuiet_end (fun z2 => ?_)
              go_wp2_with fail
              go_ret
              exact Ret.mk rfl (((HX0.out.trans HH.out.2).alloc _).ext _)
            rw [hvb] at HV1
            have HD2 : Hid (D = if (e.asg.take q).any (fun b => decide (b.1 = a.1)) then 8 else 0) := by
              rw [HE.out, if_neg (by rw [hvb]; simp only [Bool.not_true, Bool.false_eq_true, or_false]; omega)]; exact rfl
            clear c1 c2 hvb
            go_wp2_with fail
            refine wp_region_ext (by kernel_rfl) (by kernel_rfl) ?_
            repeat (go_big_quiet_step ((go_at_call 104; exact quiet_ext (HV1.out _))))
            refine wpQuiet_end (fun z2 => ?_)
            have hB9 : Blk (ext (wr.alloc (.cells #[.int .i64 a.1, .int .i64 a.2] 102)) z2) wr.heap.size 102 [.int .i64 a.1, .int .i64 a.2] := (Blk.new wr _ _).ex ⟨z2, rfl⟩
            have hX9 : Ex W0 (ext (wr.alloc (.cells #[.int .i64 a.1, .int .i64 a.2] 102)) z2) := (HH.out.2.alloc _).ext z2
            go_wp2_with fail
            generalize ext (wr.alloc (.cells #[.int .i64 a.1, .int .i64 a.2] 102)) z2 = W9 at *
            clear l0 l1 b0 c4 k0 k1 g1 hbw q1
            have HH9 := Lib.hid (And.intro HH.out.1 hX9)
            clear HH hX9
            generalize wr.heap.size = nb at *
            have HB9 := Lib.hid (fun w' (hx : Ex W9 w') => hB9.ex hx)
            clear hB9
            go_loopw [10] (fun i wr => ∃ r : Nat, i = .int .i64 r ∧ r ≤ q ∧ Hid ((∀ j y, j < r → e.asg[j]? = some y → y.1 ≠ a.1) ∧ Ex W9 wr)) (fun i _ => q - (intOf i).toNat)
            case atStart => exact ⟨0, rfl, Nat.zero_le _, Lib.hid ⟨fun j y h => absurd h (Nat.not_lt_zero _), Ex.refl _⟩⟩
            case round =>
              obtain ⟨r, rfl, hr, HH⟩ := hrel
              have hX := HH9.out.2.trans HH.out.2
              have hB1 := HB1.out _ hX
              have l1 := hB1.lt
              have c4 := hB1.cell 4
              have hB9 := HB9.out _ HH.out.2
              have l9 := hB9.lt
              have d0 := hB9.cell 0
              have HX := Lib.hid hX
              clear hB1 hB9 hX
              by_cases hrq : r < q
              · obtain ⟨y, hy⟩ : ∃ y, e.asg[r]? = some y := ⟨_, List.getElem?_eq_getElem (by omega)⟩
                obtain ⟨b7, o7, hB7, hb7, k2, -⟩ := (HBr.out _ (HX0.out.trans HX.out)).asg hy
                cases hB7
                have m4 : (0 : Int) ≤ (r : Int) := by omega
                have m5 : (r : Int) < (q : Int) := by omega
                have m6 : (r : Int) < (e.asg.length : Int) := by omega
                by_cases he : y.1 = a.1
                · have s1 : (y.1 == a.1) = true := by simp [he]
                  have hD : D = 8 := by rw [HD2.out, any_true (j := r) hrq hy (by exact decide_eq_true he)]; rfl
                  have hR : R = 8 := by rw [HF.out (by rw [hD]; decide), hD]
                  subst hR
                  clear hy he hD
                  go_wp2_with fail
                  go_quiet (fail)
                  go_wp2_with fail
                  go_ret
                  exact Ret.mk rfl ((HX0.out.trans HX.out).drewN _)
                · have s1 : (y.1 == a.1) = false := by simp [he]
                  have HH3 : Hid ((∀ j y, j < r + 1 → e.asg[j]? = some y → y.1 ≠ a.1) ∧ Ex W9 wr) := ⟨fun j z hj hz => by
                    by_cases hjk : j = r
                    · subst hjk; rw [hy] at hz; cases hz; exact he
                    · exact HH.out.1 j z (by omega) hz, HH.out.2⟩
                  clear hy he
                  go_wp2_with fail
                  go_quiet (fail)
                  go_wp2_with fail
                  refine ⟨⟨r + 1, by go_num, by omega, Lib.hid ⟨HH3.out.1, HH3.out.2.drewN _⟩⟩, by simp [intOf]; omega⟩
              · obtain rfl : r = q := by omega
                have hany : (e.asg.take r).any (fun y => decide (y.1 = a.1)) = false := (any_false _ _ _).2 fun j y hj hy => decide_eq_false (HH.out.1 j y hj hy)
                have hD : D = 0 := by rw [HD2.out, hany]; rfl
                have s3 : decide ((r : Int) < (r : Int)) = false := decide_eq_false (by omega)
                have HG2 := Lib.hid (HG.out hD)
                clear hany hD
                go_wp2_with fail
                refine ⟨⟨r + 1, by go_num, by omega, Lib.hid ⟨HG2.out, HX.out⟩⟩, by simp [intOf]; omega⟩
          · obtain rfl : q = e.asg.length := by omega
            have s3 : decide ((e.asg.length : Int) < (e.asg.length : Int)) = false := decide_eq_false (by omega)
            have hR : R = 0 := by rw [HR2.out, firstN_none HH.out.1]
            subst hR
            go_wp2_with fail
            go_ret
            exact Ret.mk rfl (HX0.out.trans HH.out.2)
end Go.Proofs.YtpmponafjhnegaaGreatDoor
