/-
  The program's processFault, walked.
  Conditions: as each theorem says.
-/
import Derived.Test.YtpmponafjhnegaaGreatDoorHb
import Derived.Test.YtpmponafjhnegaaGreatDoorHj
import Derived.Test.YtpmponafjhnegaaGreatDoorYd
namespace Go.Proofs.YtpmponafjhnegaaGreatDoor
open Go.RowKit
/-- any of the elements ahead of number k, by number -/
theorem any_range {α : Type} (q : α → Bool) (l : List α) (k : Nat) (hk : k ≤ l.length) (d : α) : (List.range k).any (fun j => q ((l[j]?).getD d)) = (l.take k).any q := by
  rw [Bool.eq_iff_iff, List.any_eq_true, List.any_eq_true]
  constructor
  · rintro ⟨j, hj, hq⟩
    have hj := List.mem_range.1 hj
    have hx : l[j]? = some l[j] := List.getElem?_eq_getElem (by omega)
    rw [hx] at hq
    exact ⟨l[j], List.mem_of_getElem? (i := j) (by rw [List.getElem?_take, if_pos hj]; exact hx), hq⟩
  · rintro ⟨x, hx, hq⟩
    obtain ⟨j, hj⟩ := List.getElem?_of_mem hx
    rw [List.getElem?_take] at hj
    split at hj
    · rename_i hlt
      exact ⟨j, List.mem_range.2 hlt, by rw [hj]; exact hq⟩
    · cases hj
theorem enters_pf1 : ∀ args w, (callFunc 115 args).run Tryz.prog w = .ok (.enter 115 args) w := enters_of Tryz.func115 (by kernel_rfl) rfl
theorem enters_pf2 : ∀ args w, (callFunc 116 args).run Tryz.prog w = .ok (.enter 116 args) w := enters_of Tryz.func116 (by kernel_rfl) rfl
theorem pf1_c (s u : ByteArray) (v1 v2 : Value) (nb : Nat) (w : World) (hb : nb < w.heap.size) (hc : w.cell? ⟨nb, 0, none⟩ = some (.string u)) (h1 : ∃ A n c, v1 = .slice A n c) (h2 : ∃ A n c, v2 = .slice A n c) :
    Calls Tryz.prog 115 #[.agg #[.string s, v1, v2], .pointer (some ⟨nb, 0, none⟩)] w (Ret w (.bool (decide (s = u)))) := by
  obtain ⟨A1, n1, c1, rfl⟩ := h1
  obtain ⟨A2, n2, c2, rfl⟩ := h2
  rw [← str_beq]
  go_enter Tryz.func115, Tryz.ntmps115
  go_wp2_with fail
  go_ret
  exact Ret.mk (by first | rfl | simp) ((Ex.refl w).alloc _)
theorem pf2_c (s u : ByteArray) (k : Int) (nb : Nat) (w : World) (hb : nb < w.heap.size) (hc : w.cell? ⟨nb, 0, none⟩ = some (.string u)) :
    Calls Tryz.prog 116 #[.agg #[.string s, .int .i64 k], .pointer (some ⟨nb, 0, none⟩)] w (Ret w (.bool (decide (s = u)))) := by
  rw [← str_beq]
  go_enter Tryz.func116, Tryz.ntmps116
  go_wp2_with fail
  go_ret
  exact Ret.mk (by first | rfl | simp) ((Ex.refl w).alloc _)
set_option maxRecDepth 20000 in
set_option maxHeartbeats 1600000 in
theorem procFault_c (t : List Pr) (A : Option Addr) (c p : Nat) (w : World) (hT : TcC w A t) (hs : TSm t) (hp : p < t.length) (hcap : t.length ≤ c) :
    Calls Tryz.prog 88 #[.agg #[.slice A t.length c], .int .i64 p] w (Ret w (.int .i64 (headE t p : Nat))) := by
  obtain ⟨x, hpx⟩ : ∃ x, t[p]? = some x := ⟨_, List.getElem?_eq_getElem hp⟩
  have HR := Lib.hid (headE_at hpx)
  have HN := Lib.hid (fun s w h => isName_c s w h)
  have HI := Lib.hid (fun x w => in_c x (-1073741824) 1073741824 w)
  have hl := hs.procs
  obtain ⟨hx1, hx2, hx3, hx4, -⟩ := hs.each x (List.mem_of_getElem? hpx)
  have HX4 := Lib.hid hx4
  have HT : Hid (∀ w', Ex w w' → TcC w' A t) := fun w' hx => hT.ex hx
  obtain ⟨b, o, hA, hbl, V, vc, E, ec, g0, g1, g2, ⟨hV, hvc, hec⟩, -⟩ := hT p x hpx
  have HVr : Hid (∀ w', Ex w w' → Row w' V (varV x.vars)) := fun w' hx => hV.ex hx
  have m0 : (0 : Int) ≤ (p : Int) := by omega
  have m1 : (p : Int) < (t.length : Int) := by omega
  obtain ⟨W0, hW0⟩ : ∃ W0, W0 = (w.alloc (.cells #[.slice A t.length c] 24)).alloc (.cells #[.string x.name, .slice V x.vars.length vc, .slice E x.evs.length ec] 35) := ⟨_, rfl⟩
  have HX0 : Hid (Ex w W0) := by rw [hW0]; exact ((Ex.refl w).alloc _).alloc _
  have HB0 : Hid (∀ w', Ex W0 w' → Blk w' w.heap.size 24 [.slice A t.length c]) := fun w' hx => by
    have : Blk W0 w.heap.size 24 [.slice A t.length c] := by rw [hW0]; exact (Blk.new w _ _).alloc _
    exact this.ex hx
  have HB1 : Hid (∀ w', Ex W0 w' → Blk w' (w.heap.size + 1) 35 [.string x.name, .slice V x.vars.length vc, .slice E x.evs.length ec]) := fun w' hx => by
    have : Blk W0 (w.heap.size + 1) 35 [.string x.name, .slice V x.vars.length vc, .slice E x.evs.length ec] := by
      rw [hW0, show w.heap.size + 1 = (w.alloc (.cells #[.slice A t.length c] 24)).heap.size by simp]
      exact Blk.new _ _ _
    exact this.ex hx
  have HW0 := Lib.hid hW0
  -- the names ahead
  have HAny : Hid (∀ w', Ex W0 w' → Calls Tryz.prog 114 #[.slice A p c, .func (.func 115) #[] #[.pointer (some ⟨w.heap.size + 1, 0, none⟩)]] w' (Ret w' (.bool ((t.take p).any fun y => decide (y.name = x.name))))) := fun w' hx => by
    have hst : ∀ w2, Ex w w2 → ∀ j, j < p → ∃ b o V vc E ec, A = some ⟨b, o, none⟩ ∧ b < w2.heap.size ∧ w2.cell? ⟨b, o + j * 3, none⟩ = some (.string ((t[j]?).getD x).name) ∧ w2.cell? ⟨b, o + j * 3 + 1, none⟩ = some (.slice V ((t[j]?).getD x).vars.length vc) ∧ w2.cell? ⟨b, o + j * 3 + 2, none⟩ = some (.slice E ((t[j]?).getD x).evs.length ec) := fun w2 hx2 j hj => by
      have hy : t[j]? = some t[j] := List.getElem?_eq_getElem (by omega)
      obtain ⟨b, o, hA, hb, V, vc, E, ec, g0, g1, g2, -⟩ := HT.out w2 hx2 j _ hy
      rw [hy]
      exact ⟨b, o, V, vc, E, ec, hA, hb, g0, g1, g2⟩
    have hch : ∀ j : Nat, ∃ q : Option Addr × Nat × Option Addr × Nat, j < p → ∃ b o, A = some ⟨b, o, none⟩ ∧ b < w.heap.size ∧ w.cell? ⟨b, o + j * 3, none⟩ = some (.string ((t[j]?).getD x).name) ∧ w.cell? ⟨b, o + j * 3 + 1, none⟩ = some (.slice q.1 ((t[j]?).getD x).vars.length q.2.1) ∧ w.cell? ⟨b, o + j * 3 + 2, none⟩ = some (.slice q.2.2.1 ((t[j]?).getD x).evs.length q.2.2.2) := fun j => by
      by_cases hj : j < p
      · obtain ⟨b, o, V, vc, E, ec, h1, h2, h3, h4, h5⟩ := hst w (Ex.refl w) j hj
        exact ⟨(V, vc, E, ec), fun _ => ⟨b, o, h1, h2, h3, h4, h5⟩⟩
      · exact ⟨(none, 0, none, 0), fun h => absurd h hj⟩
    obtain ⟨Q, hQ⟩ := Classical.axiomOfChoice hch
    have hany := anyProc_c 115 #[.pointer (some ⟨w.heap.size + 1, 0, none⟩)] enters_pf1 A p c (fun j => .string ((t[j]?).getD x).name) (fun j => .slice (Q j).1 ((t[j]?).getD x).vars.length (Q j).2.1) (fun j => .slice (Q j).2.2.1 ((t[j]?).getD x).evs.length (Q j).2.2.2) (fun j => decide (((t[j]?).getD x).name = x.name)) w' (by omega)
      (fun w2 hx2 j hj => by
        obtain ⟨b, o, h1, h2, h3, h4, h5⟩ := hQ j hj
        have hxx := (HX0.out.trans hx).trans hx2
        exact ⟨b, o, h1, Nat.lt_of_lt_of_le h2 hxx.below.size, (hxx.below.cell h2).trans h3, (hxx.below.cell h2).trans h4, (hxx.below.cell h2).trans h5⟩)
      (fun w2 hx2 j hj => by
        have hb1 := HB1.out w2 (hx.trans hx2)
        exact pf1_c _ _ _ _ _ w2 hb1.lt (hb1.cell 0) ⟨_, _, _, rfl⟩ ⟨_, _, _, rfl⟩)
    rw [any_range (fun y : Pr => decide (y.name = x.name)) t p (by omega) x] at hany
    exact hany
  have HAnyV : Hid (∀ (q : Nat) (v : ByteArray × Int) (nb : Nat) w', q ≤ x.vars.length → Ex w w' → nb < w'.heap.size → w'.cell? ⟨nb, 0, none⟩ = some (.string v.1) → Calls Tryz.prog 31 #[.slice V q vc, .func (.func 116) #[] #[.pointer (some ⟨nb, 0, none⟩)]] w' (Ret w' (.bool ((x.vars.take q).any fun u => decide (u.1 = v.1))))) := fun q v nb w' hq hx hnb hcell => by
    have hany := anyVar_c 116 #[.pointer (some ⟨nb, 0, none⟩)] enters_pf2 V q vc (fun j => .string ((x.vars[j]?).getD v).1) (fun j => .int .i64 ((x.vars[j]?).getD v).2) (fun j => decide (((x.vars[j]?).getD v).1 = v.1)) w' (by omega)
      (fun w2 hx2 j hj => by
        have hy : x.vars[j]? = some x.vars[j] := List.getElem?_eq_getElem (by omega)
        obtain ⟨b, o, h1, h2, h3, h4⟩ := (HVr.out w2 (hx.trans hx2)).var hy
        rw [hy]
        exact ⟨b, o, h1, h2, h3, h4⟩)
      (fun w2 hx2 j hj => pf2_c _ _ _ nb w2 (Nat.lt_of_lt_of_le hnb hx2.below.size) ((hx2.below.cell hnb).trans hcell))
    rw [any_range (fun u : ByteArray × Int => decide (u.1 = v.1)) x.vars q hq v] at hany
    exact hany
  clear hT hs hV hx4 hW0
  generalize headE t p = R at *
  subst hA
  have HN0 := Lib.hid (fun w => HN.out x.name w (by unfold maxLen; omega))
  have hpc : p ≤ c := by omega
  have m2 : (p : Int) ≤ (c : Int) := by omega
  go_enter Tryz.func88, Tryz.ntmps88
  go_wp2_with fail
  rw [← HW0.out]
  refine (HN0.out _).mono ?_
  rintro e9 w' ⟨rfl, z, rfl⟩
  generalize hz : ext W0 z = W1
  have HX1 : Hid (Ex W0 W1) := by rw [← hz]; exact ⟨z, rfl⟩
  clear hz z
  have b0 := (HB0.out _ HX1.out).cell 0
  have bl := (HB0.out _ HX1.out).lt
  have c1 := (HB1.out _ HX1.out).cell 0
  have c2 := (HB1.out _ HX1.out).cell 1
  have c3 := (HB1.out _ HX1.out).cell 2
  have HA1 := Lib.hid (HAny.out _ HX1.out)
  cases hn : nameB x.name
  · have hR : R = 13 := by rw [HR.out, hn]; rfl
    subst hR
    clear hn
    go_wp2_with fail
    go_ret
    exact Ret.mk rfl (HX0.out.trans HX1.out)
  rw [hn] at HR
  clear hn
  go_wp2_with fail
  refine (HA1.out).mono ?_
  rintro e9 w' ⟨rfl, z, rfl⟩
  generalize hz : ext W1 z = W2
  have HX2 : Hid (Ex W0 W2) := by rw [← hz]; exact HX1.out.ext z
  clear hz z c1 c2 c3 b0 bl HA1
  have c1 := (HB1.out _ HX2.out).cell 1
  have c2 := (HB1.out _ HX2.out).cell 2
  have l1 := (HB1.out _ HX2.out).lt
  generalize hany : (t.take p).any (fun y => decide (y.name = x.name)) = an at *
  cases an with
  | true =>
    have hR : R = 13 := by rw [HR.out]; rfl
    subst hR
    go_wp2_with fail
    go_ret
    exact Ret.mk rfl (HX0.out.trans HX2.out)
  | false =>
    simp only [Bool.not_true, Bool.or_false, Bool.false_eq_true, if_false] at HR
    by_cases h8 : 8 < x.vars.length
    · have s1 : decide (8 < (x.vars.length : Int)) = true := decide_eq_true (by omega)
      have hR : R = 5 := by rw [HR.out, if_pos h8]
      subst hR
      go_wp2_with fail
      go_ret
      exact Ret.mk rfl (HX0.out.trans HX2.out)
    have s1 : decide (8 < (x.vars.length : Int)) = false := decide_eq_false (by omega)
    rw [if_neg h8] at HR
    clear hany
    go_wp2_with fail
    clear c1 c2 l1
    go_loopw [34] (fun i wr => ∃ q : Nat, i = .int .i64 q ∧ q ≤ x.vars.length ∧ Hid ((∀ j, j < q → varE x.vars j = 0) ∧ Ex W0 wr)) (fun i _ => x.vars.length - (intOf i).toNat)
    case atStart => exact ⟨0, rfl, Nat.zero_le _, Lib.hid ⟨fun j h => absurd h (Nat.not_lt_zero _), HX2.out⟩⟩
    case round =>
      clear HX2
      obtain ⟨q, rfl, hq, HH⟩ := hrel
      by_cases hql : q < x.vars.length
      · obtain ⟨v, hv⟩ : ∃ v, x.vars[q]? = some v := ⟨_, List.getElem?_eq_getElem hql⟩
        have HE := Lib.hid (varE_at hv)
        have HF : Hid (varE x.vars q ≠ 0 → R = varE x.vars q) := fun h => by
          have hf := firstN_some (f := varE x.vars) hql h HH.out.1
          rw [HR.out, if_pos (by rw [hf]; exact h), hf]
        have HG : Hid (varE x.vars q = 0 → ∀ j, j < q + 1 → varE x.vars j = 0) := fun h j hj => by
          by_cases hjq : j = q
          · rw [hjq]; exact h
          · exact HH.out.1 j (by omega)
        have hvs := HX4.out v (List.mem_of_getElem? hv)
        have HN1 := Lib.hid (fun w => HN.out v.1 w (by unfold maxLen; omega))
        have HV1 := Lib.hid (fun w => HI.out v.2 w)
        obtain ⟨b5, o5, hV5, hb5, k0, k1⟩ := (HVr.out _ (HX0.out.trans HH.out.2)).var hv
        subst hV5
        have m3 : (0 : Int) ≤ (q : Int) := by omega
        have m4 : (q : Int) < (x.vars.length : Int) := by omega
        have m5 : (q : Int) ≤ (vc : Int) := by omega
        have hqv : q ≤ vc := by omega
        have hbx : Blk (wr.alloc (.cells #[.string v.1, .int .i64 v.2] 71)) wr.heap.size 71 [.string v.1, .int .i64 v.2] := Blk.new _ _ _
        have hbt := HB1.out _ (HH.out.2.alloc (.cells #[.string v.1, .int .i64 v.2] 71))
        generalize hvE : varE x.vars q = D at *
        clear hvE hv
        go_wp2_with fail
        refine (HN1.out _).mono ?_
        rintro e9 w' ⟨rfl, z, rfl⟩
        have hbx3 := hbx.ex ⟨z, rfl⟩
        have hbt3 := hbt.ex ⟨z, rfl⟩
        generalize hz : ext (wr.alloc (.cells #[.string v.1, .int .i64 v.2] 71)) z = W3 at *
        have HX3 : Hid (Ex W0 W3) := by rw [← hz]; exact (HH.out.2.alloc _).ext z
        clear hz z hbx hbt k0 k1
        generalize wr.heap.size = nV at *
        have d0 := hbx3.cell 0
        have d1 := hbx3.cell 1
        have dl := hbx3.lt
        have c1 := hbt3.cell 1
        have cl := hbt3.lt
        have HB3 := Lib.hid (fun w' (hx : Ex W3 w') => hbx3.ex hx)
        cases hn : nameB v.1
        · have hD : D = 13 := by rw [HE.out, hn]; rfl
          have hR : R = 13 := by rw [HF.out (by rw [hD]; decide), hD]
          subst hR
          clear hn hD
          go_wp2_with fail
          go_ret
          exact Ret.mk rfl (HX0.out.trans HX3.out)
        rw [hn] at HE
        have HA2 := Lib.hid (HAnyV.out q v nV W3 hq (HX0.out.trans HX3.out) dl d0)
        clear hn hbx3 hbt3
        go_wp2_with fail
        refine (HA2.out).mono ?_
        rintro e9 w' ⟨rfl, z, rfl⟩
        generalize hz : ext W3 z = W4 at *
        have HX4' : Hid (Ex W3 W4) := by rw [← hz]; exact ⟨z, rfl⟩
        clear hz z d0 d1 dl c1 cl
        have d1 := (HB3.out _ HX4'.out).cell 1
        have dl := (HB3.out _ HX4'.out).lt
        generalize hany : (x.vars.take q).any (fun u => decide (u.1 = v.1)) = an at *
        cases an with
        | true =>
          have hD : D = 13 := by rw [HE.out]; rfl
          have hR : R = 13 := by rw [HF.out (by rw [hD]; decide), hD]
          subst hR
          clear hD
          go_wp2_with fail
          go_ret
          exact Ret.mk rfl (HX0.out.trans (HX3.out.trans HX4'.out))
        | false =>
          simp only [Bool.not_true, Bool.or_false, Bool.false_eq_true, if_false] at HE
          clear hany
          go_wp2_with fail
          refine (HV1.out _).mono ?_
          rintro e9 w' ⟨rfl, z, rfl⟩
          generalize hz : ext W4 z = W5
          have HX5 : Hid (Ex W0 W5) := by rw [← hz]; exact (HX3.out.trans HX4'.out).ext z
          clear hz z
          have hib : inB v.2 (-1073741824) 1073741824 = valB v.2 := rfl
          rw [hib]
          cases hvb : valB v.2
          · have hD : D = 2 := by rw [HE.out, hvb]; rfl
            have hR : R = 2 := by rw [HF.out (by rw [hD]; decide), hD]
            subst hR
            clear hvb hD
            go_wp2_with fail
            go_ret
            exact Ret.mk rfl (HX0.out.trans HX5.out)
          · have hD : D = 0 := by rw [HE.out, hvb]; rfl
            have HG2 := Lib.hid (HG.out hD)
            clear hvb hD
            go_wp2_with fail
            refine ⟨⟨q + 1, by go_num, by omega, Lib.hid ⟨HG2.out, HX5.out⟩⟩, by simp [intOf]; omega⟩
      · obtain rfl : q = x.vars.length := by omega
        have h0 := firstN_none HH.out.1
        rw [h0, if_neg (by simp)] at HR
        have s3 : decide ((x.vars.length : Int) < (x.vars.length : Int)) = false := decide_eq_false (by omega)
        have c2 := (HB1.out _ HH.out.2).cell 2
        have l1 := (HB1.out _ HH.out.2).lt
        clear h0
        by_cases h64 : 64 < x.evs.length
        · have s4 : decide (64 < (x.evs.length : Int)) = true := decide_eq_true (by omega)
          have hR : R = 5 := by rw [HR.out, if_pos h64]
          subst hR
          go_wp2_with fail
          go_ret
          exact Ret.mk rfl (HX0.out.trans HH.out.2)
        · have s4 : decide (64 < (x.evs.length : Int)) = false := decide_eq_false (by omega)
          have hR : R = 0 := by rw [HR.out, if_neg h64]
          subst hR
          go_wp2_with fail
          go_ret
          exact Ret.mk rfl (HX0.out.trans HH.out.2)
end Go.Proofs.YtpmponafjhnegaaGreatDoor
