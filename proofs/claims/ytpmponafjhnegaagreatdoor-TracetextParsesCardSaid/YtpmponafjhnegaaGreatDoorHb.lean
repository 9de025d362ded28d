/-
  The reference's head, walked.
  Conditions: as each theorem says.
-/
import Derived.Test.YtpmponafjhnegaaGreatDoorYc
import Derived.BigQuiet
namespace Go.Proofs.YtpmponafjhnegaaGreatDoor
open Go.RowKit
theorem any_false {α : Type} (q : α → Bool) (l : List α) (k : Nat) : (l.take k).any q = false ↔ ∀ j x, j < k → l[j]? = some x → q x = false := by
  rw [List.any_eq_false]
  constructor
  · intro h j x hj hx
    have hm : x ∈ l.take k := List.mem_of_getElem? (i := j) (by rw [List.getElem?_take, if_pos hj]; exact hx)
    have := h x hm
    simpa using this
  · intro h x hx
    obtain ⟨j, hj⟩ := List.getElem?_of_mem hx
    rw [List.getElem?_take] at hj
    split at hj
    · rename_i hlt
      rw [h j x hlt hj]; simp
    · cases hj
theorem any_true {α : Type} {q : α → Bool} {l : List α} {k j : Nat} {x : α} (hj : j < k) (hx : l[j]? = some x) (hq : q x = true) : (l.take k).any q = true := by
  rw [List.any_eq_true]
  exact ⟨x, List.mem_of_getElem? (i := j) (by rw [List.getElem?_take, if_pos hj]; exact hx), hq⟩
theorem str_beq (s u : ByteArray) : (s.toList == u.toList) = decide (s = u) := by
  rw [Lib.toList_data, Lib.toList_data, Bool.eq_iff_iff, beq_iff_eq, decide_eq_true_eq]
  constructor
  · intro h
    cases s; cases u
    simp only [ByteArray.mk.injEq]
    exact Array.toList_inj.1 h
  · rintro rfl; rfl
set_option maxRecDepth 20000 in
set_option maxHeartbeats 1600000 in
theorem rHead_c (t : List Pr) (A : Option Addr) (c p : Nat) (w : World) (hT : TcC w A t) (hs : TSm t) (hp : p < t.length) :
    Calls Tryz.prog 73 #[.agg #[.slice A t.length c], .int .i64 p] w (Ret w (.int .i64 (headE t p : Nat))) := by
  obtain ⟨x, hpx⟩ : ∃ x, t[p]? = some x := ⟨_, List.getElem?_eq_getElem hp⟩
  have HR := Lib.hid (headE_at hpx)
  have HN := Lib.hid (fun s w h => rName_c s w h)
  have HV := Lib.hid (fun x w => rValue_c x w)
  have hl := hs.procs
  obtain ⟨hx1, hx2, hx3, hx4, -⟩ := hs.each x (List.mem_of_getElem? hpx)
  have HX4 := Lib.hid hx4
  have HT : Hid (∀ w', Ex w w' → TcC w' A t) := fun w' hx => hT.ex hx
  obtain ⟨b, o, hA, hbl, V, vc, E, ec, g0, g1, g2, ⟨hV, -⟩, -⟩ := hT p x hpx
  have HVr : Hid (∀ w', Ex w w' → Row w' V (varV x.vars)) := fun w' hx => hV.ex hx
  have m0 : (0 : Int) ≤ (p : Int) := by omega
  have m1 : (p : Int) < (t.length : Int) := by omega
  clear hT hs hV hx4
  generalize headE t p = R at *
  obtain ⟨W0, hW0⟩ : ∃ W0, W0 = (w.alloc (.cells #[.slice A t.length c] 24)).alloc (.cells #[.string x.name, .slice V x.vars.length vc, .slice E x.evs.length ec] 35) := ⟨_, rfl⟩
  have HX0 : Hid (Ex w W0) := by rw [hW0]; exact ((Ex.refl w).alloc _).alloc _
  have HB0 : Hid (∀ w', Ex W0 w' → Blk w' w.heap.size 24 [.slice A t.length c]) := fun w' hx => by
    have : Blk W0 w.heap.size 24 [.slice A t.length c] := by rw [hW0]; exact (Blk.new w _ _).alloc _
    exact this.ex hx
  have HB1 : Hid (∀ w', Ex W0 w' → Blk w' (w.heap.size + 1) 35 [.string x.name, .slice V x.vars.length vc, .slice E x.evs.length ec]) := fun w' hx => by
    have : Blk W0 (w.heap.size + 1) 35 [.string x.name, .slice V x.vars.length vc, .slice E x.evs.length ec] := by
      rw [hW0, show w.heap.size + 1 = (w.alloc (.cells #[.slice A t.length c] 24)).heap.size by simp]
      exact Blk.new _ _ _
    exact this.ex hx
  have HW0 := Lib.hid hW0
  clear hW0
  subst hA
  have HN0 := Lib.hid (fun w => HN.out x.name w (by unfold maxLen; omega))
  go_enter Tryz.func73, Tryz.ntmps73
  go_wp2_with fail
  rw [← HW0.out]
  refine (HN0.out _).mono ?_
  rintro e9 w' ⟨rfl, z, rfl⟩
  generalize hz : ext W0 z = W1
  have HX1 : Hid (Ex W0 W1) := by rw [← hz]; exact ⟨z, rfl⟩
  clear hz z
  have c1 := (HB1.out _ HX1.out).cell 0
  have c2 := (HB1.out _ HX1.out).cell 1
  have c3 := (HB1.out _ HX1.out).cell 2
  cases hn : nameB x.name
  · have hR : R = 13 := by rw [HR.out, hn]; rfl
    subst hR
    clear hn
    go_wp2_with fail
    go_ret
    exact Ret.mk rfl (HX0.out.trans HX1.out)
  rw [hn] at HR
  clear hn
  go_wp2_with fail
  clear c1 c2 c3
  go_loopw [6] (fun i wr => ∃ k : Nat, i = .int .i64 k ∧ k ≤ p ∧ Hid ((∀ j y, j < k → t[j]? = some y → y.name ≠ x.name) ∧ Ex W0 wr)) (fun i _ => p - (intOf i).toNat)
  case atStart => exact ⟨0, rfl, Nat.zero_le _, Lib.hid ⟨fun j y h => absurd h (Nat.not_lt_zero _), HX1.out⟩⟩
  case round =>
    obtain ⟨k, rfl, hk, HH⟩ := hrel
    have hB0 := HB0.out _ HH.out.2
    have hB1 := HB1.out _ HH.out.2
    have b0 := hB0.cell 0
    have l0 := hB0.lt
    have l1 := hB1.lt
    have c0 := hB1.cell 0
    have c1 := hB1.cell 1
    have c2 := hB1.cell 2
    clear hB0 hB1
    by_cases hkp : k < p
    · obtain ⟨y, hy⟩ : ∃ y, t[k]? = some y := ⟨_, List.getElem?_eq_getElem (by omega)⟩
      obtain ⟨b', o', hA', hbl', V', vc', E', ec', g0', -⟩ := HT.out _ (HX0.out.trans HH.out.2) k y hy
      cases hA'
      have m2 : (0 : Int) ≤ (k : Int) := by omega
      have m3 : (k : Int) < (p : Int) := by omega
      have m4 : (k : Int) < (t.length : Int) := by omega
      by_cases he : y.name = x.name
      · have s1 : (y.name.toList == x.name.toList) = true := by rw [str_beq]; exact decide_eq_true he
        have hR : R = 13 := by rw [HR.out, any_true (j := k) hkp hy (by exact decide_eq_true he)]; rfl
        subst hR
        clear hy he
        go_wp2_with fail
        go_quiet (fail)
        go_wp2_with fail
        go_ret
        exact Ret.mk rfl ((HX0.out.trans HH.out.2).drewN _)
      · have s1 : (y.name.toList == x.name.toList) = false := by rw [str_beq]; exact decide_eq_false he
        have HH3 : Hid ((∀ j y, j < k + 1 → t[j]? = some y → y.name ≠ x.name) ∧ Ex W0 wr) := ⟨fun j z hj hz => by
          by_cases hjk : j = k
          · subst hjk; rw [hy] at hz; cases hz; exact he
          · exact HH.out.1 j z (by omega) hz, HH.out.2⟩
        clear hy he
        go_wp2_with fail
        go_quiet (fail)
        go_wp2_with fail
        refine ⟨⟨k + 1, by go_num, by omega, Lib.hid ⟨HH3.out.1, HH3.out.2.drewN _⟩⟩, by simp [intOf]; omega⟩
    · obtain rfl : k = p := by omega
      have hany : (t.take k).any (fun y => decide (y.name = x.name)) = false := (any_false _ _ _).2 fun j y hj hy => decide_eq_false (HH.out.1 j y hj hy)
      rw [hany] at HR
      clear hany
      simp only [Bool.not_true, Bool.or_false, Bool.false_eq_true, if_false] at HR
      by_cases h8 : 8 < x.vars.length
      · have s1 : decide (8 < (x.vars.length : Int)) = true := decide_eq_true (by omega)
        have hR : R = 5 := by rw [HR.out, if_pos h8]
        subst hR
        have s2 : decide ((k : Int) < (k : Int)) = false := decide_eq_false (by omega)
        go_wp2_with fail
        go_ret
        exact Ret.mk rfl (HX0.out.trans HH.out.2)
      have s1 : decide (8 < (x.vars.length : Int)) = false := decide_eq_false (by omega)
      rw [if_neg h8] at HR
      have s2 : decide ((k : Int) < (k : Int)) = false := decide_eq_false (by omega)
      go_wp2_with fail
      have HXr := HH.out.2
      clear c0 c1 c2 b0 l0 l1
      go_loopw [7] (fun i wr => ∃ q : Nat, i = .int .i64 q ∧ q ≤ x.vars.length ∧ Hid ((∀ j, j < q → varE x.vars j = 0) ∧ Ex W0 wr)) (fun i _ => x.vars.length - (intOf i).toNat)
      case atStart => exact ⟨0, rfl, Nat.zero_le _, Lib.hid ⟨fun j h => absurd h (Nat.not_lt_zero _), HXr⟩⟩
      case round =>
        clear HXr HH
        obtain ⟨q, rfl, hq, HH⟩ := hrel
        have hB0 := HB0.out _ HH.out.2
        have hB1 := HB1.out _ HH.out.2
        have b0 := hB0.cell 0
        have l0 := hB0.lt
        have l1 := hB1.lt
        have c0 := hB1.cell 0
        have c1 := hB1.cell 1
        have c2 := hB1.cell 2
        clear hB0 hB1
        by_cases hql : q < x.vars.length
        · obtain ⟨v, hv⟩ : ∃ v, x.vars[q]? = some v := ⟨_, List.getElem?_eq_getElem hql⟩
          have HE := Lib.hid (varE_at hv)
          have HF : Hid (varE x.vars q ≠ 0 → R = varE x.vars q) := fun h => by
            have hf := firstN_some (f := varE x.vars) hql h HH.out.1
            rw [HR.out, if_pos (by rw [hf]; exact h), hf]
          have HG : Hid (varE x.vars q = 0 → ∀ j, j < q + 1 → varE x.vars j = 0) := fun h j hj => by
            by_cases hjq : j = q
            · rw [hjq]; exact h
            · exact HH.out.1 j (by omega)
          have hvs := HX4.out v (List.mem_of_getElem? hv)
          have HN1 := Lib.hid (fun w => HN.out v.1 w (by unfold maxLen; omega))
          have HV1 := Lib.hid (fun w => HV.out v.2 w)
          obtain ⟨b5, o5, hV5, hb5, k0, k1⟩ := (HVr.out _ (HX0.out.trans HH.out.2)).var hv
          subst hV5
          have m2 : (0 : Int) ≤ (q : Int) := by omega
          have m3 : (q : Int) < (x.vars.length : Int) := by omega
          generalize hvE : varE x.vars q = D at *
          have Hv := Lib.hid hv
          clear hvE hv
          go_wp2_with fail
          refine (HN1.out _).mono ?_
          rintro e9 w' ⟨rfl, z, rfl⟩
          generalize hz : ext wr z = W3
          have HX3 : Hid (Ex W0 W3) := by rw [← hz]; exact HH.out.2.ext z
          clear hz z
          cases hn : nameB v.1
          · have hD : D = 13 := by rw [HE.out, hn]; rfl
            have hR : R = 13 := by rw [HF.out (by rw [hD]; decide), hD]
            subst hR
            clear hn hD
            go_wp2_with fail
            go_ret
            exact Ret.mk rfl (HX0.out.trans HX3.out)
          rw [hn] at HE
          clear hn c0 c1 c2 b0 l0 l1 k0 k1
          go_wp2_with fail
          go_loopw [8] (fun i wr => ∃ r : Nat, i = .int .i64 r ∧ r ≤ q ∧ Hid ((∀ j y, j < r → x.vars[j]? = some y → y.1 ≠ v.1) ∧ Ex W0 wr)) (fun i _ => q - (intOf i).toNat)
          case atStart => exact ⟨0, rfl, Nat.zero_le _, Lib.hid ⟨fun j y h => absurd h (Nat.not_lt_zero _), HX3.out⟩⟩
          case round =>
            clear HX3 HH
            obtain ⟨r, rfl, hr, HH⟩ := hrel
            have hB1 := HB1.out _ HH.out.2
            have l1 := hB1.lt
            have c0 := hB1.cell 0
            have c1 := hB1.cell 1
            have c2 := hB1.cell 2
            clear hB1
            obtain ⟨b6, o6, hV6, hb6, k0, k1⟩ := (HVr.out _ (HX0.out.trans HH.out.2)).var Hv.out
            cases hV6
            by_cases hrq : r < q
            · obtain ⟨y, hy⟩ : ∃ y, x.vars[r]? = some y := ⟨_, List.getElem?_eq_getElem (by omega)⟩
              obtain ⟨b7, o7, hV7, hb7, k2, -⟩ := (HVr.out _ (HX0.out.trans HH.out.2)).var hy
              cases hV7
              have m4 : (0 : Int) ≤ (r : Int) := by omega
              have m5 : (r : Int) < (q : Int) := by omega
              have m6 : (r : Int) < (x.vars.length : Int) := by omega
              by_cases he : y.1 = v.1
              · have s1 : (y.1.toList == v.1.toList) = true := by rw [str_beq]; exact decide_eq_true he
                have hD : D = 13 := by rw [HE.out, any_true (j := r) hrq hy (by exact decide_eq_true he)]; rfl
                have hR : R = 13 := by rw [HF.out (by rw [hD]; decide), hD]
                subst hR
                clear hy he hD
                go_wp2_with fail
                go_quiet (fail)
                go_wp2_with fail
                go_ret
                exact Ret.mk rfl ((HX0.out.trans HH.out.2).drewN _)
              · have s1 : (y.1.toList == v.1.toList) = false := by rw [str_beq]; exact decide_eq_false he
                have HH3 : Hid ((∀ j y, j < r + 1 → x.vars[j]? = some y → y.1 ≠ v.1) ∧ Ex W0 wr) := ⟨fun j z hj hz => by
                  by_cases hjk : j = r
                  · subst hjk; rw [hy] at hz; cases hz; exact he
                  · exact HH.out.1 j z (by omega) hz, HH.out.2⟩
                clear hy he
                go_wp2_with fail
                go_quiet (fail)
                go_wp2_with fail
                refine ⟨⟨r + 1, by go_num, by omega, Lib.hid ⟨HH3.out.1, HH3.out.2.drewN _⟩⟩, by simp [intOf]; omega⟩
            · obtain rfl : r = q := by omega
              have hany : (x.vars.take r).any (fun y => decide (y.1 = v.1)) = false := (any_false _ _ _).2 fun j y hj hy => decide_eq_false (HH.out.1 j y hj hy)
              rw [hany] at HE
              simp only [Bool.not_true, Bool.or_false, Bool.false_eq_true, if_false] at HE
              have s3 : decide ((r : Int) < (r : Int)) = false := decide_eq_false (by omega)
              clear hany
              go_wp2_with fail
              refine (HV1.out _).mono ?_
              rintro e9 w' ⟨rfl, z, rfl⟩
              generalize hz : ext wr z = W4
              have HX4 : Hid (Ex W0 W4) := by rw [← hz]; exact HH.out.2.ext z
              clear hz z
              cases hvb : valB v.2
              · have hD : D = 2 := by rw [HE.out, hvb]; rfl
                have hR : R = 2 := by rw [HF.out (by rw [hD]; decide), hD]
                subst hR
                clear hvb hD
                go_wp2_with fail
                go_ret
                exact Ret.mk rfl (HX0.out.trans HX4.out)
              · have hD : D = 0 := by rw [HE.out, hvb]; rfl
                have HG2 := Lib.hid (HG.out hD)
                clear hvb hD
                go_wp2_with fail
                refine ⟨⟨r + 1, by go_num, by omega, Lib.hid ⟨HG2.out, HX4.out⟩⟩, by simp [intOf]; omega⟩
        · obtain rfl : q = x.vars.length := by omega
          have h0 := firstN_none HH.out.1
          rw [h0, if_neg (by simp)] at HR
          have s3 : decide ((x.vars.length : Int) < (x.vars.length : Int)) = false := decide_eq_false (by omega)
          clear h0
          by_cases h64 : 64 < x.evs.length
          · have s4 : decide (64 < (x.evs.length : Int)) = true := decide_eq_true (by omega)
            have hR : R = 5 := by rw [HR.out, if_pos h64]
            subst hR
            go_wp2_with fail
            go_ret
            exact Ret.mk rfl (HX0.out.trans HH.out.2)
          · have s4 : decide (64 < (x.evs.length : Int)) = false := decide_eq_false (by omega)
            have hR : R = 0 := by rw [HR.out, if_neg h64]
            subst hR
            go_wp2_with fail
            go_ret
            exact Ret.mk rfl (HX0.out.trans HH.out.2)
end Go.Proofs.YtpmponafjhnegaaGreatDoor
