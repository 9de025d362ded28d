/-
  The reference's Forced, walked.
  Conditions: as each theorem says.
-/
import Derived.Test.YtdenojfbdkdpiaaGreatPi
namespace Go.Proofs.YtdenojfbdkdpiaaGreat
open Go.RowKit Go.Shelf
/-- what is still to come -/
def rstF (r : List Int) (es : List Ev) (k : Nat) (s : Bool) : List Int := if k ≤ es.length then frc r (es.drop k) k s else []
theorem rst_step {r : List Int} {es : List Ev} {k : Nat} {e : Ev} (h : es[k]? = some e) (s : Bool) : rstF r es k s = (if (k : Int) ∈ r ∨ (s = true ∧ e.kind = 3) then [(k : Int)] else []) ++ rstF r es (k + 1) (nxS r k s e) := by
  have hk := (List.getElem?_eq_some_iff.1 h).1
  have h1 : k ≤ es.length := by omega
  have h2 : k + 1 ≤ es.length := hk
  simp only [rstF, if_pos h1, if_pos h2]
  exact frc_step h s
theorem rst_last (r : List Int) (es : List Ev) (s s' : Bool) : rstF r es es.length s = (if ((es.length : Nat) : Int) ∈ r then [((es.length : Nat) : Int)] else []) ++ rstF r es (es.length + 1) s' := by
  have h1 : ¬ (es.length + 1 ≤ es.length) := by omega
  simp only [rstF, if_pos (Nat.le_refl es.length), if_neg h1, List.drop_length, List.append_nil]
  rfl
/-- what the reference's Forced hands back -/
def RFrcR (t : List Pr) (l : List (List Int)) (w : World) (e : Ending) (w' : World) : Prop :=
  ∃ A c, e = .returned (.slice A l.length c) ∧ LlC w' A (frcL t l) ∧ l.length ≤ c ∧ Ex w w'
set_option maxRecDepth 100000 in
set_option maxHeartbeats 6400000 in
theorem rForced_c (t : List Pr) (A : Option Addr) (c : Nat) (l : List (List Int)) (B : Option Addr) (lc : Nat) (w : World) (hT : TcC w A t) (hs : TSm t) (hV : cpB t l = true) (hL : LlC w B l) (hls : LSm l) :
    Calls Tryz.prog 13 #[.agg #[.slice A t.length c], .slice B l.length lc] w (RFrcR t l w) := by
  have HT : Hid (∀ w', Ex w w' → TcC w' A t) := fun w' hx => hT.ex hx
  have HL : Hid (∀ w', Ex w w' → LlC w' B l) := fun w' hx => hL.ex hx
  have HEl : Hid (∀ (p : Nat) (x : Pr), t[p]? = some x → x.evs.length ≤ 100000) := fun p x hx => (hs.each x (List.mem_of_getElem? hx)).2.2.1
  obtain ⟨i0, hi0, hz0, hz1, hz2⟩ := info_parts infoInt
  obtain ⟨j0, hj0, jz0, jz1, jz2⟩ := info_parts infoRow
  obtain ⟨W0, hW0⟩ : ∃ W0, W0 = w.alloc (.cells #[.slice A t.length c] 24) := ⟨_, rfl⟩
  have HX0 : Hid (Ex w W0) := by rw [hW0]; exact (Ex.refl w).alloc _
  have HB0 : Hid (∀ w', Ex W0 w' → Blk w' w.heap.size 24 [.slice A t.length c]) := fun w' hx => by
    have : Blk W0 w.heap.size 24 [.slice A t.length c] := by rw [hW0]; exact Blk.new w _ _
    exact this.ex hx
  have HW0 := Lib.hid hW0
  have hcp := (cp_of hV).2
  have hlt : l.length ≤ t.length := Nat.le_of_eq hcp.1
  have htl := hs.procs
  have HRl : Hid (∀ (p : Nat) (r : List Int), l[p]? = some r → r.length ≤ 100000) := fun p r hr => hls.each r (List.mem_of_getElem? hr)
  unfold RFrcR
  clear hW0 hT hL hs hls hcp
  go_enter Tryz.func13, Tryz.ntmps13
  go_wp2_with fail
  rw [← HW0.out]
  go_wp2_with fail
  go_loopw [5, 6] (fun ov q wr => ∃ (p : Nat) (A2 : Option Addr) (c2 : Nat) (f : Nat → Option Addr × Nat), q = .int .i64 p ∧ p ≤ l.length ∧ ov = .slice A2 p c2 ∧ Hid (FrO t l W0.heap.size p f A2 c2 wr ∧ Ex W0 wr)) (fun _ q _ => l.length - (intOf q).toNat)
  case atStart => exact ⟨0, none, 0, fun _ => (none, 0), rfl, Nat.zero_le _, rfl, Lib.hid ⟨⟨by simpa using OwnO.nil _ _ _ _, fun p h => absurd h (Nat.not_lt_zero _)⟩, Ex.refl _⟩⟩
  case round =>
    obtain ⟨p, A2, c2, f, rfl, hp, rfl, HH⟩ := hrel
    by_cases hpl : p < l.length
    · have m0 : (0 : Int) ≤ (p : Int) := by omega
      have m1 : (p : Int) < (l.length : Int) := by omega
      have m2 : (p : Int) < (t.length : Int) := by omega
      obtain ⟨x, hx⟩ := get_at (show p < t.length by omega)
      obtain ⟨r, hr⟩ := get_at hpl
      have hel := HEl.out p x hx
      have hrl := HRl.out p r hr
      have HFp : Hid (frcP t l p = frc r x.evs 0 false) := frcP_at hx hr
      have hXw := HX0.out.trans HH.out.2
      obtain ⟨b, o, hA, hbl, V, vc, E, ec, k0, k1, k2, -, kE⟩ := HT.out _ hXw p x hx
      subst hA
      obtain ⟨bb, oo, hBB, hbb, A7, c7, r0, hc7, hrow⟩ := HL.out _ hXw p r hr
      subst hBB
      have HPx : Hid (∀ w', Ex wr w' → b < w'.heap.size ∧ w'.cell? ⟨b, o + p * 3 + 2, none⟩ = some (.slice E x.evs.length ec)) := fun w' h => ⟨Nat.lt_of_lt_of_le hbl h.below.size, (h.below.cell hbl).trans k2⟩
      have HPr : Hid (∀ w', Ex wr w' → bb < w'.heap.size ∧ w'.cell? ⟨bb, oo + p, none⟩ = some (.slice A7 r.length c7)) := fun w' h => ⟨Nat.lt_of_lt_of_le hbb h.below.size, (h.below.cell hbb).trans r0⟩
      have HXe : Hid (∀ w', Ex wr w' → EvsC w' E x.evs) := fun w' h => kE.ex h
      have HBw := Lib.hid (fun w' (h : Ex wr w') => HB0.out w' (HH.out.2.trans h))
      have HHs := Lib.hid (fun n w' (h : Ex wr w') => rHas_c r A7 c7 n w' (hrow.ex h) hrl)
      have y0 := (HBw.out _ (Ex.refl _)).cell 0
      have yl := (HBw.out _ (Ex.refl _)).lt
      have HbsW := Lib.hid HH.out.2.below.size
      clear hx hr k0 k1 kE hrow hXw r0 hbb
      go_wp2_with fail
      clear y0 yl k2 hbl
      go_loopw [7, 8, 10] (fun mv sv q w3 => ∃ (k : Nat) (s : Bool) (own : List Int) (am : Option Addr) (cm : Nat), q = .int .i64 k ∧ k ≤ x.evs.length + 1 ∧ sv = .bool s ∧ own.length ≤ k ∧ mv = .slice am own.length cm ∧ Hid (own ++ rstF r x.evs k s = frc r x.evs 0 false ∧ OwnO w3 wr.heap.size 3 1 (.slice am own.length cm) own.length (intsV own) ∧ Ex wr w3)) (fun _ _ q _ => x.evs.length + 1 - (intOf q).toNat)
      case atStart => exact ⟨0, false, [], none, 0, rfl, Nat.zero_le _, rfl, Nat.le_refl _, rfl, Lib.hid ⟨by unfold rstF; simp, OwnO.nil _ _ _ _, Ex.refl _⟩⟩
      case round =>
        obtain ⟨k, s, own, am, cm, rfl, hk, rfl, hac, rfl, HJ⟩ := hrel
        by_cases hkl : k ≤ x.evs.length
        · have n0 : (0 : Int) ≤ (k : Int) := by omega
          have nle : decide ((k : Int) ≤ (x.evs.length : Int)) = true := decide_eq_true (by omega)
          obtain ⟨p1, p2⟩ := HPr.out _ HJ.out.2.2
          obtain ⟨q1, q2⟩ := HPx.out _ HJ.out.2.2
          have y0 := (HBw.out _ HJ.out.2.2).cell 0
          have yl := (HBw.out _ HJ.out.2.2).lt
          have HHk := Lib.hid (HHs.out (k : Int) _ HJ.out.2.2)
          have hbase := HJ.out.2.2.below.size
          by_cases hkn : k < x.evs.length
          · have n1 : (k : Int) < (x.evs.length : Int) := by omega
            obtain ⟨e, he⟩ := get_at hkn
            obtain ⟨be, oe, hE, hbe, Bs, bs, e0, -, -, -, -, -⟩ := HXe.out _ HJ.out.2.2 k e he
            subst hE
            have HEe : Hid (∀ w', Ex wr w' → be < w'.heap.size ∧ w'.cell? ⟨be, oe + k * 5, none⟩ = some (.int .i64 e.kind)) := fun w' h => ⟨Nat.lt_of_lt_of_le hbe h.below.size, (h.below.cell hbe).trans e0⟩
            have HSt := Lib.hid (fun s => rst_step (r := r) he s)
            have hk2 : decide (e.kind = 2) = (e.kind == 2) := by rw [Bool.eq_iff_iff]; simp
            have HK2 := Lib.hid hk2
            have HEk := Lib.hid he
            clear hk2 he e0 hbe
            by_cases hr1 : (k : Int) ∈ r
            · rw [decide_eq_true hr1] at HHk
              have HNx : Hid (nxS r k s e = (e.kind == 2)) := by
                unfold nxS
                rw [decide_eq_true (.inl hr1), HK2.out]
                exact Lib.hid (by simp)
              have HAd : Hid ((own ++ [(k : Int)]) ++ rstF r x.evs (k + 1) (e.kind == 2) = frc r x.evs 0 false) := by
                have := HJ.out.1
                rw [HSt.out s, if_pos (.inl hr1), HNx.out] at this
                rw [List.append_assoc]
                exact this
              clear hr1
              go_wp2_with fail
              refine (HHk.out).mono ?_
              rintro e9 w5 ⟨rfl, hx5⟩
              have HX5 := Lib.hid hx5
              have hxj := HJ.out.2.2.trans hx5
              have hXs : Ex w5 (w5.alloc (.cells #[.int .i64 (k : Nat)] 3)) := (Ex.refl _).alloc _
              have HOs := Lib.hid (HJ.out.2.1.ex (hx5.trans hXs))
              have HXs := Lib.hid (hxj.trans hXs)
              have HXt := Lib.hid (hx5.trans hXs)
              have hb5 := hxj.below.size
              clear y0 yl p1 p2 q1 q2 hx5 hxj hXs
              go_wp2_with (at_builtin; refine wpList_append_one _ rfl _ _ 39 rfl _ 3 i0 _ 1 8 Tryz.underlying39 hi0 hz0 hz1 hz2 rfl (.slice am own.length cm) own.length (intsV own) rfl HOs.out w5.heap.size [.int .i64 (k : Nat)] rfl rfl ?c1 ?c2 ?c3 ?c4 ?c5 ?_)
              case c1 => exact news_new rfl (by simp)
              case c2 => exact one_ints (by simp)
              case c3 => omega
              case c4 => omega
              case c5 => simp; omega
              intro A7' c7' w7 ho hg hat hEx
              have HX7 := Lib.hid (hEx _ HXs.out (Nat.le_refl _))
              have ho7 := ho
              rw [show own.length + 1 = (own ++ [((k : Nat) : Int)]).length by simp, ← intsV_snoc] at ho7
              have HO7 := Lib.hid ho7
              have hlen7 : (own ++ [((k : Nat) : Int)]).length = own.length + 1 := by simp
              have HE7 : Hid (be < w7.heap.size ∧ w7.cell? ⟨be, oe + k * 5, none⟩ = some (.int .i64 e.kind)) := by
                obtain ⟨b9, o9, h9, hb9, c9, c9', z0, -⟩ := HXe.out _ HX7.out k e HEk.out
                cases h9
                exact ⟨hb9, z0⟩
              obtain ⟨u1, u2⟩ := HE7.out
              obtain ⟨u3, u4⟩ := HPx.out _ HX7.out
              have z0 := (HBw.out _ HX7.out).cell 0
              have zl := (HBw.out _ HX7.out).lt
              clear ho hg hat hEx ho7
              cases h2 : (e.kind == 2) with
              | false =>
                rw [h2] at HAd
                go_wp2_with fail
                refine ⟨⟨k + 1, false, own ++ [((k : Nat) : Int)], A7', c7', by go_num, by omega, rfl, by omega, by rw [hlen7], Lib.hid ⟨HAd.out, HO7.out, HX7.out⟩⟩, by simp [intOf]; omega⟩
              | true =>
                rw [h2] at HAd
                go_wp2_with fail
                refine ⟨⟨k + 1, true, own ++ [((k : Nat) : Int)], A7', c7', by go_num, by omega, rfl, by omega, by rw [hlen7], Lib.hid ⟨HAd.out, HO7.out, HX7.out⟩⟩, by simp [intOf]; omega⟩
            · rw [decide_eq_false hr1] at HHk
              cases s with
              | false =>
                have HNx : Hid (nxS r k false e = (e.kind == 2)) := by
                  unfold nxS
                  rw [HK2.out]
                  exact Lib.hid (by simp)
                have HAd : Hid (own ++ rstF r x.evs (k + 1) (e.kind == 2) = frc r x.evs 0 false) := by
                  have := HJ.out.1
                  rw [HSt.out false, if_neg (fun h => h.elim hr1 fun h => by cases h.1), HNx.out] at this
                  exact this
                clear hr1
                cases h2 : (e.kind == 2) with
                | false =>
                  rw [h2] at HAd
                  go_wp2_with fail
                  refine (HHk.out).mono ?_
                  rintro e9 w5 ⟨rfl, hx5⟩
                  have HX5 := Lib.hid hx5
                  have hxj := HJ.out.2.2.trans hx5
                  obtain ⟨q1', q2'⟩ := HPx.out _ hxj
                  obtain ⟨q3', q4'⟩ := HEe.out _ hx5
                  have y0' := (HBw.out _ hxj).cell 0
                  have yl' := (HBw.out _ hxj).lt
                  clear y0 yl p1 p2 q1 q2 hx5 hxj
                  go_wp2_with fail
                  refine ⟨⟨k + 1, false, own, am, cm, by go_num, by omega, rfl, by omega, rfl, Lib.hid ⟨HAd.out, HJ.out.2.1.ex HX5.out, HJ.out.2.2.trans HX5.out⟩⟩, by simp [intOf]; omega⟩
                | true =>
                  rw [h2] at HAd
                  go_wp2_with fail
                  refine (HHk.out).mono ?_
                  rintro e9 w5 ⟨rfl, hx5⟩
                  have HX5 := Lib.hid hx5
                  have hxj := HJ.out.2.2.trans hx5
                  obtain ⟨q1', q2'⟩ := HPx.out _ hxj
                  obtain ⟨q3', q4'⟩ := HEe.out _ hx5
                  have y0' := (HBw.out _ hxj).cell 0
                  have yl' := (HBw.out _ hxj).lt
                  clear y0 yl p1 p2 q1 q2 hx5 hxj
                  go_wp2_with fail
                  refine ⟨⟨k + 1, true, own, am, cm, by go_num, by omega, rfl, by omega, rfl, Lib.hid ⟨HAd.out, HJ.out.2.1.ex HX5.out, HJ.out.2.2.trans HX5.out⟩⟩, by simp [intOf]; omega⟩
              | true =>
                by_cases h3 : e.kind = 3
                · have s3 : (e.kind == 3) = true := by simp [h3]
                  have s2 : (e.kind == 2) = false := by simp [h3]
                  have HNx : Hid (nxS r k true e = false) := by
                    unfold nxS
                    rw [HK2.out, s2, decide_eq_true (.inr ⟨rfl, h3⟩)]
                    exact Lib.hid rfl
                  have HAd : Hid ((own ++ [(k : Int)]) ++ rstF r x.evs (k + 1) (e.kind == 2) = frc r x.evs 0 false) := by
                    have := HJ.out.1
                    rw [HSt.out true, if_pos (.inr ⟨rfl, h3⟩), HNx.out] at this
                    rw [List.append_assoc, s2]
                    exact this
                  obtain ⟨q3, q4⟩ := HEe.out _ (Ex.refl _)
                  clear hr1 h3 s2
                  go_wp2_with fail
                  refine (HHk.out).mono ?_
                  rintro e9 w5 ⟨rfl, hx5⟩
                  have HX5 := Lib.hid hx5
                  have hxj := HJ.out.2.2.trans hx5
                  obtain ⟨q1', q2'⟩ := HPx.out _ hxj
                  obtain ⟨q3', q4'⟩ := HEe.out _ hx5
                  have y0' := (HBw.out _ hxj).cell 0
                  have yl' := (HBw.out _ hxj).lt
                  clear q3 q4
                  have hXs : Ex w5 (w5.alloc (.cells #[.int .i64 (k : Nat)] 3)) := (Ex.refl _).alloc _
                  have HOs := Lib.hid (HJ.out.2.1.ex (hx5.trans hXs))
                  have HXs := Lib.hid (hxj.trans hXs)
                  have HXt := Lib.hid (hx5.trans hXs)
                  have hb5 := hxj.below.size
                  clear y0 yl p1 p2 q1 q2 hx5 hxj hXs
                  go_wp2_with (at_builtin; refine wpList_append_one _ rfl _ _ 39 rfl _ 3 i0 _ 1 8 Tryz.underlying39 hi0 hz0 hz1 hz2 rfl (.slice am own.length cm) own.length (intsV own) rfl HOs.out w5.heap.size [.int .i64 (k : Nat)] rfl rfl ?c1 ?c2 ?c3 ?c4 ?c5 ?_)
                  case c1 => exact news_new rfl (by simp)
                  case c2 => exact one_ints (by simp)
                  case c3 => omega
                  case c4 => omega
                  case c5 => simp; omega
                  intro A7' c7' w7 ho hg hat hEx
                  have HX7 := Lib.hid (hEx _ HXs.out (Nat.le_refl _))
                  have ho7 := ho
                  rw [show own.length + 1 = (own ++ [((k : Nat) : Int)]).length by simp, ← intsV_snoc] at ho7
                  have HO7 := Lib.hid ho7
                  have hlen7 : (own ++ [((k : Nat) : Int)]).length = own.length + 1 := by simp
                  have HE7 : Hid (be < w7.heap.size ∧ w7.cell? ⟨be, oe + k * 5, none⟩ = some (.int .i64 e.kind)) := by
                    obtain ⟨b9, o9, h9, hb9, c9, c9', z0, -⟩ := HXe.out _ HX7.out k e HEk.out
                    cases h9
                    exact ⟨hb9, z0⟩
                  obtain ⟨u1, u2⟩ := HE7.out
                  obtain ⟨u3, u4⟩ := HPx.out _ HX7.out
                  have z0 := (HBw.out _ HX7.out).cell 0
                  have zl := (HBw.out _ HX7.out).lt
                  clear ho hg hat hEx ho7
                  cases h2 : (e.kind == 2) with
                  | false =>
                    rw [h2] at HAd
                    go_wp2_with fail
                    refine ⟨⟨k + 1, false, own ++ [((k : Nat) : Int)], A7', c7', by go_num, by omega, rfl, by omega, by rw [hlen7], Lib.hid ⟨HAd.out, HO7.out, HX7.out⟩⟩, by simp [intOf]; omega⟩
                  | true =>
                    rw [h2] at HAd
                    go_wp2_with fail
                    refine ⟨⟨k + 1, true, own ++ [((k : Nat) : Int)], A7', c7', by go_num, by omega, rfl, by omega, by rw [hlen7], Lib.hid ⟨HAd.out, HO7.out, HX7.out⟩⟩, by simp [intOf]; omega⟩
                · have s3 : (e.kind == 3) = false := by simp [h3]
                  have HNx : Hid (nxS r k true e = true) := by
                    unfold nxS
                    rw [decide_eq_false (fun h => h.elim hr1 fun h => h3 h.2)]
                    exact Lib.hid (by simp)
                  have HAd : Hid (own ++ rstF r x.evs (k + 1) true = frc r x.evs 0 false) := by
                    have := HJ.out.1
                    rw [HSt.out true, if_neg (fun h => h.elim hr1 fun h => h3 h.2), HNx.out] at this
                    exact this
                  clear hr1 h3
                  cases h2 : (e.kind == 2) with
                  | false =>
                    go_wp2_with fail
                    refine (HHk.out).mono ?_
                    rintro e9 w5 ⟨rfl, hx5⟩
                    have HX5 := Lib.hid hx5
                    have hxj := HJ.out.2.2.trans hx5
                    obtain ⟨q1', q2'⟩ := HPx.out _ hxj
                    obtain ⟨q3', q4'⟩ := HEe.out _ hx5
                    have y0' := (HBw.out _ hxj).cell 0
                    have yl' := (HBw.out _ hxj).lt
                    clear y0 yl p1 p2 q1 q2 hx5 hxj
                    go_wp2_with fail
                    refine ⟨⟨k + 1, true, own, am, cm, by go_num, by omega, rfl, by omega, rfl, Lib.hid ⟨HAd.out, HJ.out.2.1.ex HX5.out, HJ.out.2.2.trans HX5.out⟩⟩, by simp [intOf]; omega⟩
                  | true =>
                    go_wp2_with fail
                    refine (HHk.out).mono ?_
                    rintro e9 w5 ⟨rfl, hx5⟩
                    have HX5 := Lib.hid hx5
                    have hxj := HJ.out.2.2.trans hx5
                    obtain ⟨q1', q2'⟩ := HPx.out _ hxj
                    obtain ⟨q3', q4'⟩ := HEe.out _ hx5
                    have y0' := (HBw.out _ hxj).cell 0
                    have yl' := (HBw.out _ hxj).lt
                    clear y0 yl p1 p2 q1 q2 hx5 hxj
                    go_wp2_with fail
                    refine ⟨⟨k + 1, true, own, am, cm, by go_num, by omega, rfl, by omega, rfl, Lib.hid ⟨HAd.out, HJ.out.2.1.ex HX5.out, HJ.out.2.2.trans HX5.out⟩⟩, by simp [intOf]; omega⟩
          · obtain rfl : k = x.evs.length := by omega
            have n1 : decide ((x.evs.length : Int) < (x.evs.length : Int)) = false := decide_eq_false (by omega)
            by_cases hr1 : ((x.evs.length : Nat) : Int) ∈ r
            · rw [decide_eq_true hr1] at HHk
              have HAd : Hid ((own ++ [((x.evs.length : Nat) : Int)]) ++ rstF r x.evs (x.evs.length + 1) false = frc r x.evs 0 false) := by
                have := HJ.out.1
                rw [rst_last r x.evs s false, if_pos hr1] at this
                rw [List.append_assoc]
                exact this
              clear hr1
              go_wp2_with fail
              refine (HHk.out).mono ?_
              rintro e9 w5 ⟨rfl, hx5⟩
              have HX5 := Lib.hid hx5
              have hxj := HJ.out.2.2.trans hx5
              have hXs : Ex w5 (w5.alloc (.cells #[.int .i64 (x.evs.length : Nat)] 3)) := (Ex.refl _).alloc _
              have HOs := Lib.hid (HJ.out.2.1.ex (hx5.trans hXs))
              have HXs := Lib.hid (hxj.trans hXs)
              have HXt := Lib.hid (hx5.trans hXs)
              have hb5 := hxj.below.size
              clear y0 yl p1 p2 q1 q2 hx5 hxj hXs
              go_wp2_with (at_builtin; refine wpList_append_one _ rfl _ _ 39 rfl _ 3 i0 _ 1 8 Tryz.underlying39 hi0 hz0 hz1 hz2 rfl (.slice am own.length cm) own.length (intsV own) rfl HOs.out w5.heap.size [.int .i64 (x.evs.length : Nat)] rfl rfl ?c1 ?c2 ?c3 ?c4 ?c5 ?_)
              case c1 => exact news_new rfl (by simp)
              case c2 => exact one_ints (by simp)
              case c3 => omega
              case c4 => omega
              case c5 => simp; omega
              intro A7' c7' w7 ho hg hat hEx
              have HX7 := Lib.hid (hEx _ HXs.out (Nat.le_refl _))
              have ho7 := ho
              rw [show own.length + 1 = (own ++ [((x.evs.length : Nat) : Int)]).length by simp, ← intsV_snoc] at ho7
              have HO7 := Lib.hid ho7
              have hlen7 : (own ++ [((x.evs.length : Nat) : Int)]).length = own.length + 1 := by simp
              clear ho hg hat hEx ho7
              go_wp2_with fail
              refine ⟨⟨x.evs.length + 1, false, own ++ [((x.evs.length : Nat) : Int)], A7', c7', by go_num, by omega, rfl, by omega, by rw [hlen7], Lib.hid ⟨HAd.out, HO7.out, HX7.out⟩⟩, by simp [intOf] <;> omega⟩
            · rw [decide_eq_false hr1] at HHk
              have HAd : Hid (own ++ rstF r x.evs (x.evs.length + 1) s = frc r x.evs 0 false) := by
                have := HJ.out.1
                rw [rst_last r x.evs s s, if_neg hr1] at this
                exact this
              clear hr1
              go_wp2_with fail
              refine (HHk.out).mono ?_
              rintro e9 w5 ⟨rfl, hx5⟩
              have HX5 := Lib.hid hx5
              clear y0 yl p1 p2 q1 q2 hx5
              go_wp2_with fail
              refine ⟨⟨x.evs.length + 1, s, own, am, cm, by go_num, by omega, rfl, by omega, rfl, Lib.hid ⟨HAd.out, HJ.out.2.1.ex HX5.out, HJ.out.2.2.trans HX5.out⟩⟩, by simp [intOf] <;> omega⟩
        · obtain rfl : k = x.evs.length + 1 := by omega
          have nle : decide (((x.evs.length : Int) + 1) ≤ (x.evs.length : Int)) = false := decide_eq_false (by omega)
          have hown : own = frc r x.evs 0 false := by
            have := HJ.out.1
            unfold rstF at this
            rw [if_neg (by omega), List.append_nil] at this
            exact this
          have HOw := Lib.hid hown
          have HR8 : Hid (OwnO wr W0.heap.size 3 1 (.slice am (frcP t l p).length cm) (frcP t l p).length (intsV (frcP t l p))) := by
            rw [HFp.out, ← hown]
            exact HJ.out.2.1.mono HbsW.out
          have HX8w := Lib.hid (HH.out.2.trans HJ.out.2.2)
          have HF8 := Lib.hid ((HH.out.1.ex HJ.out.2.2).ex ((Ex.refl _).alloc (.cells #[.slice am own.length cm] 39)))
          have HR8a := Lib.hid (HR8.out.ex ((Ex.refl _).alloc (.cells #[.slice am own.length cm] 39)))
          have hbase : W0.heap.size ≤ wr.heap.size := HX8w.out.below.size
          clear hown
          go_wp2_with (at_builtin; refine wpList_append_one _ rfl _ _ 25 rfl W0.heap.size 39 j0 _ 1 24 Tryz.underlying25 hj0 jz0 jz1 jz2 rfl (.slice A2 p c2) p ((List.range p).map fun p => .slice (f p).1 (frcP t l p).length (f p).2) rfl HF8.out.out wr.heap.size [.slice am own.length cm] rfl rfl ?c1 ?c2 ?c3 ?c4 ?c5 ?_)
          case c1 => exact news_new rfl (by simp)
          case c2 => simp; rfl
          case c3 => omega
          case c4 => omega
          case c5 => simp; omega
          intro A9 c9 w9 ho hg hat hEx
          have HX9 := Lib.hid (hEx W0 (HX8w.out.alloc _) (Nat.le_refl _))
          have HN : Hid (FrO t l W0.heap.size (p + 1) (fun q => if q = p then (am, cm) else f q) A9 c9 w9) := by
            have hmap : ((List.range (p + 1)).map fun q => Value.slice ((if q = p then (am, cm) else f q) : Option Addr × Nat).1 (frcP t l q).length ((if q = p then (am, cm) else f q) : Option Addr × Nat).2) = ((List.range p).map fun q => Value.slice (f q).1 (frcP t l q).length (f q).2) ++ [.slice am own.length cm] := by
              rw [List.range_succ, List.map_append]
              congr 1
              · refine List.map_congr_left fun q hq => ?_
                have := List.mem_range.1 hq
                rw [if_neg (by omega)]
              · simp [HFp.out, HOw.out]
            refine ⟨by rw [hmap]; exact ho, fun q hq => ?_⟩
            by_cases he : q = p
            · subst he
              rw [if_pos rfl]
              exact HR8a.out.kept hg (HR8a.out.ne2 HF8.out.out (by decide))
            · rw [if_neg he]
              have h9 := HF8.out.rows q (by omega)
              exact h9.kept hg (h9.ne2 HF8.out.out (by decide))
          clear ho hg hat hEx
          go_wp2_with fail
          refine ⟨⟨p + 1, A9, c9, _, by go_num, by omega, rfl, Lib.hid ⟨HN.out, HX9.out⟩⟩, by simp [intOf]; omega⟩
    · obtain rfl : p = l.length := by omega
      have s1 : decide ((l.length : Int) < (l.length : Int)) = false := decide_eq_false (by omega)
      obtain ⟨a9, c9, h9, hle, -⟩ := HH.out.1.out.len
      cases h9
      go_wp2_with fail
      go_ret
      exact ⟨A2, c2, rfl, HH.out.1.lists, hle, HX0.out.trans HH.out.2⟩
end Go.Proofs.YtdenojfbdkdpiaaGreat
