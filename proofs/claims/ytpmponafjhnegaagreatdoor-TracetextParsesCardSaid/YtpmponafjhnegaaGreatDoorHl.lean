/-
  The program's eventFault, walked.
  Conditions: as each theorem says.
-/
import Derived.Test.YtpmponafjhnegaaGreatDoorHk
import Derived.Test.YtpmponafjhnegaaGreatDoorYc
namespace Go.Proofs.YtpmponafjhnegaaGreatDoor
open Go.RowKit
theorem enters_ef1 : ∀ args w, (callFunc 120 args).run Tryz.prog w = .ok (.enter 120 args) w := enters_of Tryz.func120 (by kernel_rfl) rfl
theorem int_beq (a b : Int) : (a == b) = decide (a = b) := by rw [Bool.eq_iff_iff]; simp
theorem ef1_c (a k u : Int) (nb : Nat) (w : World) (hb : nb < w.heap.size) (hc : w.cell? ⟨nb, 0, none⟩ = some (.int .i64 u)) :
    Calls Tryz.prog 120 #[.agg #[.int .i64 a, .int .i64 k], .pointer (some ⟨nb, 0, none⟩)] w (Ret w (.bool (decide (a = u)))) := by
  rw [← int_beq]
  go_enter Tryz.func120, Tryz.ntmps120
  go_wp2_with fail
  go_ret
  exact Ret.mk (by first | rfl | simp) ((Ex.refl w).alloc _)
theorem frm_range {n : Nat} {a : Int} : inB a 0 ((n : Int) - 1) = (decide (0 ≤ a) && decide (a < (n : Int))) := by
  unfold inB
  congr 1
  rw [decide_eq_decide]
  omega
set_option maxRecDepth 20000 in
set_option maxHeartbeats 3200000 in
theorem evFault_c (t : List Pr) (A : Option Addr) (c p i : Nat) (e : Ev) (B : Option Addr) (bc : Nat) (w : World) (hT : TcC w A t) (hs : TSm t) (he : evAt t p i = some e) (hB : Row w B (asgV e.asg)) (hbc : e.asg.length ≤ bc) :
    Calls Tryz.prog 90 #[.agg #[.slice A t.length c], .agg #[.int .i64 p, .int .i64 ((i : Int) + 1)], .agg #[.int .i64 e.kind, .int .i64 e.peer, .int .i64 e.msg, .int .i64 e.time, .slice B e.asg.length bc]] w (Ret w (.int .i64 (formE t (p, i + 1) : Nat))) := by
  have hx := evAt_lt he
  obtain ⟨x, hpx⟩ : ∃ x, t[p]? = some x := by
    cases h : t[p]? with
    | none => unfold evN at hx; rw [h] at hx; simp at hx
    | some x => exact ⟨x, rfl⟩
  have hxe : x.evs[i]? = some e := by unfold evAt at he; rw [hpx] at he; exact he
  have hp := (List.getElem?_eq_some_iff.1 hpx).1
  have hi := (List.getElem?_eq_some_iff.1 hxe).1
  have hl := hs.procs
  obtain ⟨-, hxv, hel, -, hxa⟩ := hs.each x (List.mem_of_getElem? hpx)
  have ha := hxa e (List.mem_of_getElem? hxe)
  have HFE := Lib.hid (formE_at hpx hxe)
  have HBr : Hid (∀ w', Ex w w' → Row w' B (asgV e.asg)) := fun w' hx => hB.ex hx
  have HFrm := Lib.hid (fun w => formed_c t A c p e B bc w hl)
  have HIn := Lib.hid (fun x a b w => in_c x a b w)
  have HAny : Hid (∀ (q : Nat) (v : Int × Int) (nb : Nat) w', q ≤ e.asg.length → Ex w w' → nb < w'.heap.size → w'.cell? ⟨nb, 0, none⟩ = some (.int .i64 v.1) → Calls Tryz.prog 119 #[.slice B q bc, .func (.func 120) #[] #[.pointer (some ⟨nb, 0, none⟩)]] w' (Ret w' (.bool ((e.asg.take q).any fun u => decide (u.1 = v.1))))) := fun q v nb w' hq hx hnb hcell => by
    have hany := anyAssign_c 120 #[.pointer (some ⟨nb, 0, none⟩)] enters_ef1 B q bc (fun j => .int .i64 ((e.asg[j]?).getD v).1) (fun j => .int .i64 ((e.asg[j]?).getD v).2) (fun j => decide (((e.asg[j]?).getD v).1 = v.1)) w' (by omega)
      (fun w2 hx2 j hj => by
        have hy : e.asg[j]? = some e.asg[j] := List.getElem?_eq_getElem (by omega)
        obtain ⟨b, o, h1, h2, h3, h4⟩ := (HBr.out w2 (hx.trans hx2)).asg hy
        rw [hy]
        exact ⟨b, o, h1, h2, h3, h4⟩)
      (fun w2 hx2 j hj => ef1_c _ _ _ nb w2 (Nat.lt_of_lt_of_le hnb hx2.below.size) ((hx2.below.cell hnb).trans hcell))
    rw [any_range (fun u : Int × Int => decide (u.1 = v.1)) e.asg q hq v] at hany
    exact hany
  obtain ⟨b, o, hA, hbl, V, vc, E, ec, g0, g1, g2, -, hE⟩ := hT p x hpx
  have m0 : (0 : Int) ≤ (p : Int) := by omega
  have m1 : (p : Int) < (t.length : Int) := by omega
  have hlast : ∃ L : Int, lastT x i = L ∧ ((decide (1 < (i : Int) + 1) = false ∧ decide (0 < i) = false ∧ L = 0) ∨ (decide (1 < (i : Int) + 1) = true ∧ 0 < i ∧ IntKind.i64.wrap ((i : Int) + 1 - 2) = ((i - 1 : Nat) : Int) ∧ (0 : Int) ≤ ((i - 1 : Nat) : Int) ∧ ((i - 1 : Nat) : Int) < (x.evs.length : Int) ∧ ∃ b2 o2, E = some ⟨b2, o2, none⟩ ∧ b2 < w.heap.size ∧ w.cell? ⟨b2, o2 + (i - 1) * 5 + 3, none⟩ = some (.int .i64 L))) := by
    by_cases h0 : i = 0
    · exact ⟨0, by rw [h0]; exact lastT_zero x, .inl ⟨decide_eq_false (by omega), decide_eq_false (by omega), rfl⟩⟩
    · obtain ⟨j, rfl⟩ : ∃ j, i = j + 1 := ⟨i - 1, by omega⟩
      obtain ⟨f, hf⟩ : ∃ f, x.evs[j]? = some f := ⟨_, List.getElem?_eq_getElem (by omega)⟩
      obtain ⟨b3, o3, hA3, hb3, -, -, -, -, -, k3', -⟩ := hE j f hf
      exact ⟨f.time, lastT_succ hf, .inr ⟨decide_eq_true (by omega), by omega, by rw [IntWalk.i64_in _ (by omega)]; omega, by omega, by omega, b3, o3, hA3, hb3, by rw [Nat.add_sub_cancel]; exact k3'⟩⟩
  obtain ⟨L, hL, hlast⟩ := hlast
  rw [hL] at HFE
  obtain ⟨W0, hW0⟩ : ∃ W0, W0 = (((w.alloc (.cells #[.slice A t.length c] 24)).alloc (.cells #[.int .i64 p, .int .i64 ((i : Int) + 1)] 40)).alloc (.cells #[.int .i64 e.kind, .int .i64 e.peer, .int .i64 e.msg, .int .i64 e.time, .slice B e.asg.length bc] 38)).alloc (.cells #[.string x.name, .slice V x.vars.length vc, .slice E x.evs.length ec] 35) := ⟨_, rfl⟩
  have HX0 : Hid (Ex w W0) := by rw [hW0]; exact ((((Ex.refl w).alloc _).alloc _).alloc _).alloc _
  have HB2 : Hid (∀ w', Ex W0 w' → Blk w' (w.heap.size + 1 + 1) 38 [.int .i64 e.kind, .int .i64 e.peer, .int .i64 e.msg, .int .i64 e.time, .slice B e.asg.length bc]) := fun w' hx => by
    have : Blk W0 (w.heap.size + 1 + 1) 38 [.int .i64 e.kind, .int .i64 e.peer, .int .i64 e.msg, .int .i64 e.time, .slice B e.asg.length bc] := by
      rw [hW0, show w.heap.size + 1 + 1 = ((w.alloc (.cells #[.slice A t.length c] 24)).alloc (.cells #[.int .i64 p, .int .i64 ((i : Int) + 1)] 40)).heap.size by simp]
      exact (Blk.new _ _ _).alloc _
    exact this.ex hx
  have HB3 : Hid (∀ w', Ex W0 w' → Blk w' (w.heap.size + 1 + 1 + 1) 35 [.string x.name, .slice V x.vars.length vc, .slice E x.evs.length ec]) := fun w' hx => by
    have : Blk W0 (w.heap.size + 1 + 1 + 1) 35 [.string x.name, .slice V x.vars.length vc, .slice E x.evs.length ec] := by
      rw [hW0, show w.heap.size + 1 + 1 + 1 = (((w.alloc (.cells #[.slice A t.length c] 24)).alloc (.cells #[.int .i64 p, .int .i64 ((i : Int) + 1)] 40)).alloc (.cells #[.int .i64 e.kind, .int .i64 e.peer, .int .i64 e.msg, .int .i64 e.time, .slice B e.asg.length bc] 38)).heap.size by simp]
      exact Blk.new _ _ _
    exact this.ex hx
  have HW0 := Lib.hid hW0
  clear hT hs hE hB he hpx hxe hxa hW0 hL
  generalize formE t (p, i + 1) = R at *
  subst hA
  have u1 : b < w.heap.size + 1 := by omega
  have u2 : b < w.heap.size + 1 + 1 := by omega
  have u3 : b < w.heap.size + 1 + 1 + 1 := by omega
  have hlast2 : (decide (1 < (i : Int) + 1) = false ∧ decide (0 < i) = false ∧ L = 0) ∨ (decide (1 < (i : Int) + 1) = true ∧ 0 < i ∧ IntKind.i64.wrap ((i : Int) + 1 - 2) = ((i - 1 : Nat) : Int) ∧ (0 : Int) ≤ ((i - 1 : Nat) : Int) ∧ ((i - 1 : Nat) : Int) < (x.evs.length : Int) ∧ ∃ b2 o2, E = some ⟨b2, o2, none⟩ ∧ b2 < w.heap.size ∧ w.cell? ⟨b2, o2 + (i - 1) * 5 + 3, none⟩ = some (.int .i64 L) ∧ b2 < w.heap.size + 1 ∧ b2 < w.heap.size + 1 + 1 ∧ b2 < w.heap.size + 1 + 1 + 1) := by
    rcases hlast with h | ⟨h1, h2, h3, h4, h5, b2, o2, h6, h7, h8⟩
    · exact .inl h
    · exact .inr ⟨h1, h2, h3, h4, h5, b2, o2, h6, h7, h8, by omega, by omega, by omega⟩
  clear hlast
  have HIn1 := Lib.hid (fun w => HIn.out e.time 0 1099511627776 w)
  have hib : inB e.time 0 1099511627776 = (decide (0 ≤ e.time) && decide (e.time ≤ 1099511627776)) := rfl
  have hway : (frmB t.length p e = false ∧ R = 3) ∨ (frmB t.length p e = true ∧ inB e.time 0 1099511627776 = false ∧ R = 11) ∨ (frmB t.length p e = true ∧ inB e.time 0 1099511627776 = true ∧ decide (e.time < L) = true ∧ R = 11) ∨ (frmB t.length p e = true ∧ inB e.time 0 1099511627776 = true ∧ decide (e.time < L) = false ∧ ((decide (8 < (e.asg.length : Int)) = true ∧ R = 5) ∨ (decide (8 < (e.asg.length : Int)) = false ∧ R = firstN (asgE x.vars.length e.asg) e.asg.length))) := by
    rw [hib]
    cases hf : frmB t.length p e
    · exact .inl ⟨rfl, by rw [HFE.out, evE_frm hf]⟩
    · right
      by_cases t1 : 0 ≤ e.time ∧ e.time ≤ 1099511627776
      · rw [decide_eq_true t1.1, decide_eq_true t1.2]
        by_cases t2 : e.time < L
        · exact .inr (.inl ⟨rfl, rfl, decide_eq_true t2, by rw [HFE.out, evE_time hf (.inr (.inr t2))]⟩)
        · have hg : ¬ (e.time < 0 ∨ 1099511627776 < e.time ∨ e.time < L) := by omega
          refine .inr (.inr ⟨rfl, rfl, decide_eq_false t2, ?_⟩)
          by_cases t3 : 8 < e.asg.length
          · exact .inl ⟨decide_eq_true (by omega), by rw [HFE.out, evE_full hf hg t3]⟩
          · exact .inr ⟨decide_eq_false (by omega), by rw [HFE.out, evE_rest hf hg t3]⟩
      · refine .inl ⟨rfl, ?_, by rw [HFE.out, evE_time hf (by omega)]⟩
        by_cases t2 : 0 ≤ e.time
        · rw [decide_eq_false (by omega : ¬ e.time ≤ 1099511627776)]; simp
        · rw [decide_eq_false t2]; rfl
  clear hib HFE HIn
  generalize frmB t.length p e = fb at *
  generalize inB e.time 0 1099511627776 = ib at *
  rcases hway with ⟨rfl, rfl⟩ | ⟨rfl, rfl, rfl⟩ | ⟨rfl, rfl, t1, rfl⟩ | ⟨rfl, rfl, t1, ⟨t2, rfl⟩ | ⟨t2, hR⟩⟩
  · rcases hlast2 with ⟨n1, n2, rfl⟩ | ⟨n1, n2, n3, n4, n5, b2, o2, rfl, n6, n7, n8, n9, n10⟩
    all_goals
      go_enter Tryz.func90, Tryz.ntmps90
      go_wp2_with fail
      rw [← HW0.out]
      refine (HFrm.out _).mono ?_
      rintro e9 w' ⟨rfl, z, rfl⟩
      go_wp2_with fail
      go_ret
      exact Ret.mk rfl (HX0.out.ext z)
  · rcases hlast2 with ⟨n1, n2, rfl⟩ | ⟨n1, n2, n3, n4, n5, b2, o2, rfl, n6, n7, n8, n9, n10⟩
    all_goals
      go_enter Tryz.func90, Tryz.ntmps90
      go_wp2_with fail
      rw [← HW0.out]
      refine (HFrm.out _).mono ?_
      rintro e9 w' ⟨rfl, z, rfl⟩
      have e3 := (HB2.out _ ⟨z, rfl⟩).cell 3
      have el := (HB2.out _ ⟨z, rfl⟩).lt
      go_wp2_with fail
      refine (HIn1.out _).mono ?_
      rintro e9 w' ⟨rfl, z2, rfl⟩
      go_wp2_with fail
      go_ret
      exact Ret.mk rfl ((HX0.out.ext z).ext z2)
  · rcases hlast2 with ⟨n1, n2, rfl⟩ | ⟨n1, n2, n3, n4, n5, b2, o2, rfl, n6, n7, n8, n9, n10⟩
    all_goals
      go_enter Tryz.func90, Tryz.ntmps90
      go_wp2_with fail
      rw [← HW0.out]
      refine (HFrm.out _).mono ?_
      rintro e9 w' ⟨rfl, z, rfl⟩
      have e3 := (HB2.out _ ⟨z, rfl⟩).cell 3
      have el := (HB2.out _ ⟨z, rfl⟩).lt
      go_wp2_with fail
      refine (HIn1.out _).mono ?_
      rintro e9 w' ⟨rfl, z2, rfl⟩
      have f3 := (HB2.out _ (ext_ext W0 z z2)).cell 3
      have fl := (HB2.out _ (ext_ext W0 z z2)).lt
      go_wp2_with fail
      go_ret
      exact Ret.mk rfl ((HX0.out.ext z).ext z2)
  · rcases hlast2 with ⟨n1, n2, rfl⟩ | ⟨n1, n2, n3, n4, n5, b2, o2, rfl, n6, n7, n8, n9, n10⟩
    all_goals
      go_enter Tryz.func90, Tryz.ntmps90
      go_wp2_with fail
      rw [← HW0.out]
      refine (HFrm.out _).mono ?_
      rintro e9 w' ⟨rfl, z, rfl⟩
      have e3 := (HB2.out _ ⟨z, rfl⟩).cell 3
      have el := (HB2.out _ ⟨z, rfl⟩).lt
      go_wp2_with fail
      refine (HIn1.out _).mono ?_
      rintro e9 w' ⟨rfl, z2, rfl⟩
      have f3 := (HB2.out _ (ext_ext W0 z z2)).cell 3
      have f4 := (HB2.out _ (ext_ext W0 z z2)).cell 4
      have fl := (HB2.out _ (ext_ext W0 z z2)).lt
      go_wp2_with fail
      go_ret
      exact Ret.mk rfl ((HX0.out.ext z).ext z2)
  · have HR := Lib.hid hR
    clear hR
    rcases hlast2 with ⟨n1, n2, rfl⟩ | ⟨n1, n2, n3, n4, n5, b2, o2, rfl, n6, n7, n8, n9, n10⟩
    all_goals
      go_enter Tryz.func90, Tryz.ntmps90
      go_wp2_with fail
      rw [← HW0.out]
      refine (HFrm.out _).mono ?_
      rintro e9 w' ⟨rfl, z, rfl⟩
      have e3 := (HB2.out _ ⟨z, rfl⟩).cell 3
      have el := (HB2.out _ ⟨z, rfl⟩).lt
      go_wp2_with fail
      refine (HIn1.out _).mono ?_
      rintro e9 w' ⟨rfl, z2, rfl⟩
      have f3 := (HB2.out _ (ext_ext W0 z z2)).cell 3
      have f4 := (HB2.out _ (ext_ext W0 z z2)).cell 4
      have fl := (HB2.out _ (ext_ext W0 z z2)).lt
      go_wp2_with fail
      generalize hz : ext (ext W0 z) z2 = W2
      have HX2 : Hid (Ex W0 W2) := by rw [← hz]; exact ext_ext W0 z z2
      clear hz e3 el f3 f4 fl z2 z
      have HInA := Lib.hid (fun x a b w => in_c x a b w)
      go_loopw [54] (fun i wr => ∃ q : Nat, i = .int .i64 q ∧ q ≤ e.asg.length ∧ Hid ((∀ j, j < q → asgE x.vars.length e.asg j = 0) ∧ Ex W0 wr)) (fun i _ => e.asg.length - (intOf i).toNat)
      case atStart => exact ⟨0, rfl, Nat.zero_le _, Lib.hid ⟨fun j h => absurd h (Nat.not_lt_zero _), HX2.out⟩⟩
      case round =>
        clear HX2
        obtain ⟨q, rfl, hq, HH⟩ := hrel
        by_cases hql : q < e.asg.length
        · obtain ⟨a, ha'⟩ : ∃ a, e.asg[q]? = some a := ⟨_, List.getElem?_eq_getElem hql⟩
          have HE := Lib.hid (asgE_at (n := x.vars.length) ha')
          have HF : Hid (asgE x.vars.length e.asg q ≠ 0 → R = asgE x.vars.length e.asg q) := fun h => by
            rw [HR.out, firstN_some hql h HH.out.1]
          have HG : Hid (asgE x.vars.length e.asg q = 0 → ∀ j, j < q + 1 → asgE x.vars.length e.asg j = 0) := fun h j hj => by
            by_cases hjq : j = q
            · rw [hjq]; exact h
            · exact HH.out.1 j (by omega)
          obtain ⟨b5, o5, hB5, hb5, k0, k1⟩ := (HBr.out _ (HX0.out.trans HH.out.2)).asg ha'
          subst hB5
          have m6 : (0 : Int) ≤ (q : Int) := by omega
          have m7 : (q : Int) < (e.asg.length : Int) := by omega
          have m8 : (q : Int) ≤ (bc : Int) := by omega
          have hqb : q ≤ bc := by omega
          have e1 : IntKind.i64.wrap ((x.vars.length : Int) - 1) = (x.vars.length : Int) - 1 := IntWalk.i64_in _ (by omega)
          have hB2 := HB2.out _ HH.out.2
          have hB3 := HB3.out _ HH.out.2
          have y1 := hB3.cell 1
          have yl := hB3.lt
          have hbx : Blk (wr.alloc (.cells #[.int .i64 a.1, .int .i64 a.2] 102)) wr.heap.size 102 [.int .i64 a.1, .int .i64 a.2] := Blk.new _ _ _
          have HXa := Lib.hid (HH.out.2.alloc (.cells #[.int .i64 a.1, .int .i64 a.2] 102))
          have HI1 := Lib.hid (fun w => HInA.out a.1 0 ((x.vars.length : Int) - 1) w)
          have HI2 := Lib.hid (fun w => HInA.out a.2 (-1073741824) 1073741824 w)
          have hv2 : inB a.2 (-1073741824) 1073741824 = valB a.2 := rfl
          generalize hvE : asgE x.vars.length e.asg q = D at *
          clear hvE ha' hB2 hB3
          go_wp2_with fail
          refine (HI1.out _).mono ?_
          rintro e9 w' ⟨rfl, z, rfl⟩
          have hbx3 := hbx.ex ⟨z, rfl⟩
          generalize hz : ext (wr.alloc (.cells #[.int .i64 a.1, .int .i64 a.2] 102)) z = W3 at *
          have HX3 : Hid (Ex W0 W3) := by rw [← hz]; exact HXa.out.ext z
          clear hz z hbx k0 k1 y1 yl
          generalize wr.heap.size = nV at *
          have d0 := hbx3.cell 0
          have d1 := hbx3.cell 1
          have dl := hbx3.lt
          have HB9 := Lib.hid (fun w' (hx : Ex W3 w') => hbx3.ex hx)
          clear hbx3
          have hrg := frm_range (n := x.vars.length) (a := a.1)
          cases hib : inB a.1 0 ((x.vars.length : Int) - 1)
          · have hD : D = 2 := by
              rw [HE.out, if_pos]
              rw [hib] at hrg
              by_cases h0 : a.1 < 0
              · exact .inl h0
              · refine .inr (.inl ?_)
                rw [decide_eq_true (by omega : 0 ≤ a.1)] at hrg
                have := of_decide_eq_false (show decide (a.1 < (x.vars.length : Int)) = false by simpa using hrg.symm)
                omega
            have hR : R = 2 := by rw [HF.out (by rw [hD]; decide), hD]
            subst hR
            clear hib hrg hD
            go_wp2_with fail
            go_ret
            exact Ret.mk rfl (HX0.out.trans HX3.out)
          have hrange : ¬ a.1 < 0 ∧ ¬ (x.vars.length : Int) ≤ a.1 := by
            rw [hib] at hrg
            have h1 := hrg.symm
            simp only [Bool.and_eq_true, decide_eq_true_eq] at h1
            omega
          clear hrg hib
          go_wp2_with fail
          refine (HI2.out _).mono ?_
          rintro e9 w' ⟨rfl, z, rfl⟩
          rw [hv2]
          generalize hz : ext W3 z = W4
          have HX4 : Hid (Ex W3 W4) := by rw [← hz]; exact ⟨z, rfl⟩
          clear hz z d0 d1 dl hv2
          have d0 := (HB9.out _ HX4.out).cell 0
          have dl := (HB9.out _ HX4.out).lt
          cases hvb : valB a.2
          · have hD : D = 2 := by rw [HE.out, if_pos (.inr (.inr (by rw [hvb]; rfl)))]
            have hR : R = 2 := by rw [HF.out (by rw [hD]; decide), hD]
            subst hR
            clear hvb hD hrange
            go_wp2_with fail
            go_ret
            exact Ret.mk rfl (HX0.out.trans (HX3.out.trans HX4.out))
          have HD2 : Hid (D = if (e.asg.take q).any (fun b => decide (b.1 = a.1)) then 8 else 0) := by
            rw [HE.out, if_neg (by rw [hvb]; simp only [Bool.not_true, Bool.false_eq_true, or_false]; omega)]; exact rfl
          have HA4 := Lib.hid (HAny.out q a nV W4 hq (HX0.out.trans (HX3.out.trans HX4.out)) dl d0)
          have hB4 := HB2.out _ (HX3.out.trans HX4.out)
          have f4 := hB4.cell 4
          have fl := hB4.lt
          clear hvb hrange hB4 HE
          go_wp2_with fail
          refine (HA4.out).mono ?_
          rintro e9 w' ⟨rfl, z, rfl⟩
          generalize hz : ext W4 z = W5
          have HX5 : Hid (Ex W0 W5) := by rw [← hz]; exact (HX3.out.trans HX4.out).ext z
          clear hz z d0 dl f4 fl HA4
          generalize (e.asg.take q).any (fun b => decide (b.1 = a.1)) = an at *
          cases an with
          | true =>
            have hD : D = 8 := by rw [HD2.out]; rfl
            have hR : R = 8 := by rw [HF.out (by rw [hD]; decide), hD]
            subst hR
            clear hD
            go_wp2_with fail
            go_ret
            exact Ret.mk rfl (HX0.out.trans HX5.out)
          | false =>
            have hD : D = 0 := by rw [HD2.out]; rfl
            have HG2 := Lib.hid (HG.out hD)
            clear hD
            go_wp2_with fail
            refine ⟨⟨q + 1, by go_num, by omega, Lib.hid ⟨HG2.out, HX5.out⟩⟩, by simp [intOf]; omega⟩
        · obtain rfl : q = e.asg.length := by omega
          have s3 : decide ((e.asg.length : Int) < (e.asg.length : Int)) = false := decide_eq_false (by omega)
          have hR : R = 0 := by rw [HR.out, firstN_none HH.out.1]
          subst hR
          go_wp2_with fail
          go_ret
          exact Ret.mk rfl (HX0.out.trans HH.out.2)
end Go.Proofs.YtpmponafjhnegaaGreatDoor
