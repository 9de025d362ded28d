/-
  Numbers: the binomial coefficient of the program, and that of the reference.
  Conditions: as each theorem says.
-/
import Derived.Test.YtjbfoanboidkbaaDoorNc
import Derived.Laws.AppendOwn
namespace Go.Proofs.YtjbfoanboidkbaaDoor
open Go.RowKit Bn
theorem choose_ok (n k : Nat) (w : World) (hn : n ≤ 1000) (hk : k ≤ n) : Calls Tryd.prog 13 #[.int .i64 n, .int .i64 k] w (Ret w (Two (choV n k) (choE n k))) := by
  have hs := bin_sym n k hk
  by_cases h : 2 * k ≤ n
  · exact choose_at n k k _ _ w hn h (by omega) (by omega) (.inl ⟨rfl, by omega⟩) rfl rfl
  · refine choose_at n (n - k) k _ _ w hn (by omega) (by omega) (by omega) (.inr ⟨by omega, by omega⟩) ?_ ?_
    · unfold choV; rw [hs]
    · unfold choE; rw [hs]
theorem info3 : (Tryd.prog.info? 3).map (fun i => (i.zero, i.size, i.bytes)) = some (some (.int .i64 0), 1, 8) := by kernel_rfl
/-- a row of numbers, by a function -/
def natF (K : Nat) (f : Nat → Nat) : List Value := (List.range (K + 1)).map fun t => Value.int .i64 (f t : Nat)
theorem natF_get {K j : Nat} (f : Nat → Nat) (h : j ≤ K) : (natF K f)[j]? = some (.int .i64 (f j : Nat)) := by
  unfold natF
  rw [List.getElem?_map, List.getElem?_range (by omega)]; rfl
theorem natF_congr {K : Nat} {f g : Nat → Nat} (h : ∀ t, t ≤ K → f t = g t) : natF K f = natF K g := by
  unfold natF
  apply List.map_congr_left
  intro t ht
  rw [List.mem_range] at ht
  rw [h t (by omega)]
theorem natF_set {K j : Nat} (f : Nat → Nat) (v : Nat) : (natF K f).set j (.int .i64 (v : Nat)) = natF K fun t => if t = j then v else f t := by
  unfold natF
  apply List.ext_getElem?
  intro i
  rw [List.getElem?_set, List.getElem?_map, List.getElem?_map]
  by_cases hi : i < K + 1
  · rw [List.getElem?_range hi]
    by_cases e : j = i
    · subst e
      simp [hi]
    · rw [if_neg e]
      have : ¬ i = j := fun h => e h.symm
      simp [this]
  · rw [List.getElem?_eq_none (by simpa using hi)]
    by_cases e : j = i
    · subst e
      simp [hi]
    · rw [if_neg e]; rfl
def zrow (m : Nat) : Array Value := (natF m fun _ => 0).toArray
theorem zrow_eq (m : Nat) : madeCells #[.int .i64 0] ((m + 1) * 1) = zrow m := by
  unfold madeCells zrow natF
  apply Array.ext
  · simp
  · intro i h1 h2
    simp [Nat.mod_one]
theorem mk_row (L : Int) (m : Nat) (hL : L = m + 1) (hm : m ≤ 1000) (W : World) :
    (Instr.makeSlice 42 (.int .i64 L) (.int .i64 L)).run Tryd.prog W = .ok (.slice (some ⟨W.heap.size, 0, none⟩) (m + 1) (m + 1)) (W.alloc (.cells (zrow m) 3)) := by
  obtain ⟨i, hi, hz, hs, hb⟩ := info_parts info3
  have h := run_make (P := Tryd.prog) W 42 3 i (.int .i64 0) Tryd.underlying42 hi hz .i64 .i64 L L (by omega) (Int.le_refl _) (by rw [hb]; omega) (by omega)
  rw [h, hs]
  subst hL
  rw [show ((m : Int) + 1).toNat = m + 1 by omega]
  have e := zrow_eq m
  simp only [Value.cells]
  rw [e]
def mid (p j : Nat) (t : Nat) : Nat := if j < t then cap (bin (p + 1) t) else cap (bin p t)
theorem mid_step (p j : Nat) (t : Nat) (hj : 1 ≤ j) : (if t = j then cap (cap (bin p j) + cap (bin p (j - 1))) else mid p j t) = mid p (j - 1) t := by
  unfold mid
  by_cases h : t = j
  · subst h
    rw [if_pos rfl, if_pos (by omega), cap_add]
    obtain ⟨k, rfl⟩ : ∃ k, t = k + 1 := ⟨t - 1, by omega⟩
    rw [bin_succ, Nat.add_sub_cancel, Nat.add_comm]
  · rw [if_neg h]
    by_cases h2 : j < t
    · rw [if_pos h2, if_pos (by omega)]
    · rw [if_neg h2, if_neg (by omega)]
theorem mid_end (p t : Nat) : mid p 0 t = cap (bin (p + 1) t) := by
  unfold mid
  cases t with
  | zero => rw [if_neg (by omega), bin_zero, bin_zero]
  | succ t => rw [if_pos (by omega)]
theorem Blk.new' (X : World) {g : Nat} (hg : g = X.heap.size) (t : Nat) (cs : List Value) : Blk (X.alloc (.cells cs.toArray t)) g t cs := by rw [hg]; exact Blk.new X t cs
theorem start_row (w : World) (m : Nat) : Blk (w.alloc (.cells ((zrow m).setIfInBounds 0 (.int .i64 1)) 3)) w.heap.size 3 (natF m fun t => cap (bin 0 t)) := by
  have h := Blk.new' w (g := w.heap.size) rfl 3 ((natF m fun _ => 0).set 0 (.int .i64 ((1 : Nat) : Int)))
  rw [natF_set] at h
  have e : natF m (fun t => if t = 0 then 1 else 0) = natF m fun t => cap (bin 0 t) := natF_congr fun t _ => by
    cases t with
    | zero => rw [if_pos rfl, bin_zero]; decide
    | succ t => rw [if_neg (by omega)]; rfl
  rw [e] at h
  have e2 : (zrow m).setIfInBounds 0 (.int .i64 1) = (natF m fun t => cap (bin 0 t)).toArray := by
    rw [← e, ← natF_set (fun _ => 0) 1]
    unfold zrow
    rw [List.setIfInBounds_toArray]
    rfl
  rw [e2]
  exact h
def rcB (n m : Nat) : Bool := decide (bin n m ≤ 1125899906842624)
set_option maxHeartbeats 1600000 in
theorem rChoose_at (n m : Nat) (k : Int) (V : Int) (b : Bool) (w : World) (hn : n ≤ 1000) (hm : 2 * m ≤ n) (h1 : 0 ≤ k) (h2 : k ≤ n) (hk : (k = m ∧ ¬ n - k < k) ∨ (n - k = (m : Int) ∧ n - k < k)) (hV : V = choV n m) (hb : b = rcB n m) : Calls Tryd.prog 17 #[.int .i64 n, .int .i64 k] w (Ret w (Twb V b)) := by
  have HV := Lib.hid hV
  have HB := Lib.hid hb
  have hmk := mk_row ((m : Int) + 1) m rfl (by omega)
  have HS := Lib.hid mid_step
  have HE := Lib.hid mid_end
  unfold Twb
  clear hV hb
  have hM : m ≤ 500 := by omega
  have hB := Blk.new' w (g := w.heap.size) rfl 3 (natF m fun _ => 0)
  have f0 : (w.alloc (.cells (zrow m) 3)).cell? ⟨w.heap.size, 0, none⟩ = some (.int .i64 0) := (hB.cell 0).trans (natF_get _ (by omega))
  have f1 : (w.alloc (.cells (zrow m) 3)).frozen? ⟨w.heap.size, 0, none⟩ = false := hB.frozen 0
  have HB0 := Lib.hid (start_row w m)
  have HX0 : Hid (Ex w (w.alloc (.cells ((zrow m).setIfInBounds 0 (.int .i64 1)) 3))) := (Ex.refl w).alloc _
  have lg : w.heap.size < (w.alloc (.cells ((zrow m).setIfInBounds 0 (.int .i64 1)) 3)).heap.size := by simp
  clear hB
  rcases hk with ⟨rfl, hk⟩ | ⟨e, hk⟩
  · have d5 : decide (n < m) = false := by simp; omega
    have d6 : decide ((n : Int) - (m : Int) < (m : Int)) = false := by simp; omega
    go_enter Tryd.func17, Tryd.ntmps17
    go_wp2_with fail
    clear f0 f1 hmk
    generalize w.alloc (.cells ((zrow m).setIfInBounds 0 (.int .i64 1)) 3) = X at *
    have hg : w.heap.size ≤ w.heap.size := Nat.le_refl _
    go_loopw [7, 8] (fun i _ wr => ∃ p : Nat, i = .int .i64 ((p + 1 : Nat) : Int) ∧ p ≤ n ∧ Blk wr w.heap.size 3 (natF m fun t => cap (bin p t)) ∧ Ex w wr) (fun i _ _ => n + 1 - (intOf i).toNat)
    case atStart => exact ⟨0, rfl, by omega, HB0.out, HX0.out⟩
    case round =>
      obtain ⟨p, rfl, hp, hr, hx⟩ := hrel
      obtain ⟨wo, rfl⟩ : ∃ wo : World, wo = wr := ⟨_, rfl⟩
      have HR := Lib.hid hr
      have HXx := Lib.hid hx
      by_cases hlt : p < n
      · clear hr hx
        go_wp2_with fail
        go_loopw [8] (fun q wi => ∃ j : Nat, q = .int .i64 (j : Int) ∧ j ≤ m ∧ Blk wi w.heap.size 3 (natF m (mid p j)) ∧ Ex w wi) (fun q _ => (intOf q).toNat)
        case atStart => exact ⟨m, rfl, Nat.le_refl _, by rw [natF_congr (g := fun t => cap (bin p t)) (fun t ht => by unfold mid; rw [if_neg (by omega)])]; exact HR.out, HXx.out⟩
        case round =>
          obtain ⟨j, rfl, hj, hi, hxi⟩ := hrel
          have HI := Lib.hid hi
          have HXi := Lib.hid hxi
          have lgi := hi.lt
          by_cases h0 : 1 ≤ j
          · have g1 : wr.cell? ⟨w.heap.size, j, none⟩ = some (.int .i64 (cap (bin p j) : Nat)) := by
              rw [hi.cell, natF_get _ hj]; unfold mid; rw [if_neg (by omega)]
            have g2 : wr.cell? ⟨w.heap.size, j - 1, none⟩ = some (.int .i64 (cap (bin p (j - 1)) : Nat)) := by
              rw [hi.cell, natF_get _ (by omega)]; unfold mid; rw [if_neg (by omega)]
            have g3 : wr.frozen? ⟨w.heap.size, j, none⟩ = false := hi.frozen _
            have c1 := cap_le (bin p j)
            have c2 := cap_le (bin p (j - 1))
            have HS' := Lib.hid (fun t => HS.out p j t h0)
            clear hi hxi
            generalize cap (bin p j) = x at *
            generalize cap (bin p (j - 1)) = y at *
            have i1 : (j : Int) < (m : Int) + 1 := by omega
            have i2 : (j : Int) - 1 < (m : Int) + 1 := by omega
            have i3 : 0 ≤ (j : Int) - 1 := by omega
            go_wp2_with fail
            refine wp_region_tail 13 (by kernel_rfl) (by kernel_rfl) ?_
            simp only [List.take_succ_cons, List.take_zero, List.drop_succ_cons, List.drop_zero]
            repeat (go_big_quiet_step (fail))
            refine wpQuiet_on ?_
            by_cases hbig : 1125899906842625 < (x : Int) + (y : Int)
            · have hd : decide (1125899906842625 < (x : Int) + (y : Int)) = true := decide_eq_true hbig
              go_wp2_with fail
              have hb := ((HI.out.set_ j (.int .i64 ((x : Int) + (y : Int)))).set_ j (.int .i64 ((1125899906842625 : Nat) : Int))).drew
              rw [List.set_set, natF_set] at hb
              have hc : cap (x + y) = 1125899906842625 := by unfold cap; omega
              rw [natF_congr (g := mid p (j - 1)) (fun t _ => by rw [← HS'.out t, hc])] at hb
              refine ⟨⟨j - 1, int_eq (by omega), by omega, ?_, ?_⟩, by simp [intOf]; omega⟩
              · exact hb
              · exact ((HXi.out.setCell (Nat.le_refl _) _).setCell (Nat.le_refl _) _).drew
            · have hd : decide (1125899906842625 < (x : Int) + (y : Int)) = false := decide_eq_false hbig
              go_wp2_with fail
              have hb := (HI.out.set_ j (.int .i64 ((x + y : Nat) : Int))).drew
              rw [natF_set] at hb
              have hc : cap (x + y) = x + y := by unfold cap; omega
              rw [natF_congr (g := mid p (j - 1)) (fun t _ => by rw [← HS'.out t, hc])] at hb
              refine ⟨⟨j - 1, int_eq (by omega), by omega, ?_, ?_⟩, by simp [intOf]; omega⟩
              · exact_mod_cast hb
              · exact (HXi.out.setCell (Nat.le_refl _) _).drew
          · obtain rfl : j = 0 := by omega
            clear hi hxi
            go_wp2_with fail
            refine ⟨⟨p + 1, int_eq (by omega), by omega, ?_, HXi.out⟩, by simp [intOf]; omega⟩
            rw [natF_congr (g := mid p 0) (fun t _ => (HE.out p t).symm)]
            exact HI.out
      · obtain rfl : p = n := by omega
        have g1 : wo.cell? ⟨w.heap.size, m, none⟩ = some (.int .i64 (cap (bin p m) : Nat)) := by
          rw [hr.cell, natF_get _ (Nat.le_refl _)]
        have lgr := hr.lt
        clear hr hx
        have i1 : (m : Int) < (m : Int) + 1 := by omega
        by_cases hbig : bin p m ≤ 1125899906842624
        · have hv : V = (bin p m : Nat) := by rw [HV.out]; unfold choV; rw [if_pos hbig]
          have hb : b = true := by rw [HB.out]; unfold rcB; rw [decide_eq_true hbig]
          have hc : cap (bin p m) = bin p m := by unfold cap; omega
          rw [hc] at g1
          have HV2 := Lib.hid hv
          have HB2 := Lib.hid hb
          have hd : decide (1125899906842624 < ((bin p m : Nat) : Int)) = false := by simp; omega
          clear hv hb hc
          generalize bin p m = x at *
          go_wp2_with fail
          go_ret2
          exact Ret.mk (by rw [HV2.out, HB2.out]; rfl) HXx.out
        · have hv : V = 0 := by rw [HV.out]; unfold choV; rw [if_neg hbig]
          have hb : b = false := by rw [HB.out]; unfold rcB; rw [decide_eq_false hbig]
          have hc : cap (bin p m) = 1125899906842625 := by unfold cap; omega
          rw [hc] at g1
          have HV2 := Lib.hid hv
          have HB2 := Lib.hid hb
          clear hv hb hc
          go_wp2_with fail
          go_ret2
          exact Ret.mk (by rw [HV2.out, HB2.out]; rfl) HXx.out
  · have d6 : decide ((m : Int) < k) = true := by simp; omega
    go_enter Tryd.func17, Tryd.ntmps17
    go_wp2_with fail
    clear f0 f1 hmk
    generalize w.alloc (.cells ((zrow m).setIfInBounds 0 (.int .i64 1)) 3) = X at *
    have hg : w.heap.size ≤ w.heap.size := Nat.le_refl _
    go_loopw [7, 8] (fun i _ wr => ∃ p : Nat, i = .int .i64 ((p + 1 : Nat) : Int) ∧ p ≤ n ∧ Blk wr w.heap.size 3 (natF m fun t => cap (bin p t)) ∧ Ex w wr) (fun i _ _ => n + 1 - (intOf i).toNat)
    case atStart => exact ⟨0, rfl, by omega, HB0.out, HX0.out⟩
    case round =>
      obtain ⟨p, rfl, hp, hr, hx⟩ := hrel
      obtain ⟨wo, rfl⟩ : ∃ wo : World, wo = wr := ⟨_, rfl⟩
      have HR := Lib.hid hr
      have HXx := Lib.hid hx
      by_cases hlt : p < n
      · clear hr hx
        go_wp2_with fail
        go_loopw [8] (fun q wi => ∃ j : Nat, q = .int .i64 (j : Int) ∧ j ≤ m ∧ Blk wi w.heap.size 3 (natF m (mid p j)) ∧ Ex w wi) (fun q _ => (intOf q).toNat)
        case atStart => exact ⟨m, rfl, Nat.le_refl _, by rw [natF_congr (g := fun t => cap (bin p t)) (fun t ht => by unfold mid; rw [if_neg (by omega)])]; exact HR.out, HXx.out⟩
        case round =>
          obtain ⟨j, rfl, hj, hi, hxi⟩ := hrel
          have HI := Lib.hid hi
          have HXi := Lib.hid hxi
          have lgi := hi.lt
          by_cases h0 : 1 ≤ j
          · have g1 : wr.cell? ⟨w.heap.size, j, none⟩ = some (.int .i64 (cap (bin p j) : Nat)) := by
              rw [hi.cell, natF_get _ hj]; unfold mid; rw [if_neg (by omega)]
            have g2 : wr.cell? ⟨w.heap.size, j - 1, none⟩ = some (.int .i64 (cap (bin p (j - 1)) : Nat)) := by
              rw [hi.cell, natF_get _ (by omega)]; unfold mid; rw [if_neg (by omega)]
            have g3 : wr.frozen? ⟨w.heap.size, j, none⟩ = false := hi.frozen _
            have c1 := cap_le (bin p j)
            have c2 := cap_le (bin p (j - 1))
            have HS' := Lib.hid (fun t => HS.out p j t h0)
            clear hi hxi
            generalize cap (bin p j) = x at *
            generalize cap (bin p (j - 1)) = y at *
            have i1 : (j : Int) < (m : Int) + 1 := by omega
            have i2 : (j : Int) - 1 < (m : Int) + 1 := by omega
            have i3 : 0 ≤ (j : Int) - 1 := by omega
            go_wp2_with fail
            refine wp_region_tail 13 (by kernel_rfl) (by kernel_rfl) ?_
            simp only [List.take_succ_cons, List.take_zero, List.drop_succ_cons, List.drop_zero]
            repeat (go_big_quiet_step (fail))
            refine wpQuiet_on ?_
            by_cases hbig : 1125899906842625 < (x : Int) + (y : Int)
            · have hd : decide (1125899906842625 < (x : Int) + (y : Int)) = true := decide_eq_true hbig
              go_wp2_with fail
              have hb := ((HI.out.set_ j (.int .i64 ((x : Int) + (y : Int)))).set_ j (.int .i64 ((1125899906842625 : Nat) : Int))).drew
              rw [List.set_set, natF_set] at hb
              have hc : cap (x + y) = 1125899906842625 := by unfold cap; omega
              rw [natF_congr (g := mid p (j - 1)) (fun t _ => by rw [← HS'.out t, hc])] at hb
              refine ⟨⟨j - 1, int_eq (by omega), by omega, ?_, ?_⟩, by simp [intOf]; omega⟩
              · exact hb
              · exact ((HXi.out.setCell (Nat.le_refl _) _).setCell (Nat.le_refl _) _).drew
            · have hd : decide (1125899906842625 < (x : Int) + (y : Int)) = false := decide_eq_false hbig
              go_wp2_with fail
              have hb := (HI.out.set_ j (.int .i64 ((x + y : Nat) : Int))).drew
              rw [natF_set] at hb
              have hc : cap (x + y) = x + y := by unfold cap; omega
              rw [natF_congr (g := mid p (j - 1)) (fun t _ => by rw [← HS'.out t, hc])] at hb
              refine ⟨⟨j - 1, int_eq (by omega), by omega, ?_, ?_⟩, by simp [intOf]; omega⟩
              · exact_mod_cast hb
              · exact (HXi.out.setCell (Nat.le_refl _) _).drew
          · obtain rfl : j = 0 := by omega
            clear hi hxi
            go_wp2_with fail
            refine ⟨⟨p + 1, int_eq (by omega), by omega, ?_, HXi.out⟩, by simp [intOf]; omega⟩
            rw [natF_congr (g := mid p 0) (fun t _ => (HE.out p t).symm)]
            exact HI.out
      · obtain rfl : p = n := by omega
        have g1 : wo.cell? ⟨w.heap.size, m, none⟩ = some (.int .i64 (cap (bin p m) : Nat)) := by
          rw [hr.cell, natF_get _ (Nat.le_refl _)]
        have lgr := hr.lt
        clear hr hx
        have i1 : (m : Int) < (m : Int) + 1 := by omega
        by_cases hbig : bin p m ≤ 1125899906842624
        · have hv : V = (bin p m : Nat) := by rw [HV.out]; unfold choV; rw [if_pos hbig]
          have hb : b = true := by rw [HB.out]; unfold rcB; rw [decide_eq_true hbig]
          have hc : cap (bin p m) = bin p m := by unfold cap; omega
          rw [hc] at g1
          have HV2 := Lib.hid hv
          have HB2 := Lib.hid hb
          have hd : decide (1125899906842624 < ((bin p m : Nat) : Int)) = false := by simp; omega
          clear hv hb hc
          generalize bin p m = x at *
          go_wp2_with fail
          go_ret2
          exact Ret.mk (by rw [HV2.out, HB2.out]; rfl) HXx.out
        · have hv : V = 0 := by rw [HV.out]; unfold choV; rw [if_neg hbig]
          have hb : b = false := by rw [HB.out]; unfold rcB; rw [decide_eq_false hbig]
          have hc : cap (bin p m) = 1125899906842625 := by unfold cap; omega
          rw [hc] at g1
          have HV2 := Lib.hid hv
          have HB2 := Lib.hid hb
          clear hv hb hc
          go_wp2_with fail
          go_ret2
          exact Ret.mk (by rw [HV2.out, HB2.out]; rfl) HXx.out
theorem rChoose_ok (n k : Nat) (w : World) (hn : n ≤ 1000) (hk : k ≤ n) : Calls Tryd.prog 17 #[.int .i64 n, .int .i64 k] w (Ret w (Twb (choV n k) (rcB n k))) := by
  have hs := bin_sym n k hk
  by_cases h : 2 * k ≤ n
  · exact rChoose_at n k k _ _ w hn h (by omega) (by omega) (.inl ⟨rfl, by omega⟩) rfl rfl
  · refine rChoose_at n (n - k) k _ _ w hn (by omega) (by omega) (by omega) (.inr ⟨by omega, by omega⟩) ?_ ?_
    · unfold choV; rw [hs]
    · unfold rcB; rw [hs]
end Go.Proofs.YtjbfoanboidkbaaDoor
