/-
  The law Trees, walked.
  Conditions: the world's tables are as laid (Envw).
-/
import Derived.Test.YthjalkonlcjhnaaGreatDoorRd
import Derived.Test.YthjalkonlcjhnaaGreatDoorTa
import Derived.Test.YthjalkonlcjhnaaGreatDoorTb
import Derived.Test.YthjalkonlcjhnaaGreatDoorVe
namespace Go.Proofs.YthjalkonlcjhnaaGreatDoor
open Go.RowKit
theorem add_pl (b j : Nat) : (⟨b, 0, none⟩ : Addr).add j = ⟨b, 0 + j, none⟩ := by
  unfold Addr.add
  split
  · rename_i h; rw [h]
  · rfl
theorem own_get {w : World} {base : Nat} {g cap : Nat} {zs : List Int} (h : Owns w base (.slice (some ⟨g, 0, none⟩) zs.length cap) zs) : ∀ j, j < zs.length → w.cell? ⟨g, 0 + j, none⟩ = some (.int .i64 (zs.getD j 0)) := fun j hj => by
  have h1 := World.ownsRow.cells h (g := g) rfl j (.int .i64 (zs.getD j 0)) (by unfold ints; rw [List.getElem?_map, List.getElem?_eq_getElem hj, List.getD_eq_getElem?_getD, List.getElem?_eq_getElem hj]; rfl)
  rwa [add_pl] at h1
theorem eq_own (w : World) (b1 b2 : Nat) (v1 v2 : Value) (zs : List Int) (h1 : Owns w b1 v1 zs) (h2 : Owns w b2 v2 zs) (hl : zs.length ≤ 1000000) : Calls Tryz.prog 17 #[v1, v2] w (Ret w (.bool true)) := by
  obtain ⟨-, a1, c1, e1⟩ := own_len h1
  obtain ⟨-, a2, c2, e2⟩ := own_len h2
  by_cases hz : zs.length = 0
  · rw [e1, e2, hz]
    refine (Tryz.slices_Equal_int_empty a1 a2 c1 0 c2 w (by omega)).mono ?_
    rintro e w' ⟨rfl, rfl⟩
    exact Ret.mk rfl (Ex.refl _)
  · rcases h1.2 with ⟨-, h⟩ | ⟨g1, cap1, cur1, f1, -⟩
    · exact absurd h hz
    rcases h2.2 with ⟨-, h⟩ | ⟨g2, cap2, cur2, f2, -⟩
    · exact absurd h hz
    subst f1 f2
    refine (Tryz.slices_Equal_int g1 0 zs.length cap1 g2 0 zs.length cap2 zs zs w (Nat.le_refl _) (Nat.le_refl _) (by omega) (by omega) (own_get h1) (own_get h2)).mono ?_
    rintro e w' ⟨rfl, q, rfl⟩
    exact Ret.mk (by simp) ((Ex.refl _).drewN _)
set_option maxRecDepth 40000 in
set_option maxHeartbeats 4000000 in
theorem trees_good (t u : Tr) (Q Q' : Nat → Prop) (w : World) (k n p q k' n' p' q' : Int) (s s' : ByteArray) (A A' : Option Addr) (m m' c c' : Nat) (hE : Envw w) (hn : LnOk t) (hn' : LnOk u) (hm : NmOk t) (ht : TrC Q w t (c6 k n p q s A m c)) (ht' : TrC Q' w u (c6 k' n' p' q' s' A' m' c')) :
    Calls Tryz.prog 3 #[.agg #[.int .i64 k, .int .i64 n, .int .i64 p, .int .i64 q, .string s, .slice A m c], .agg #[.int .i64 k', .int .i64 n', .int .i64 p', .int .i64 q', .string s', .slice A' m' c']] w (Ret w (.bool true)) := by
  have HG := Lib.hid (fun w' (hx : Ex w w') => great_c t Q w' k n p q s A m c hn (ht.ex hx))
  have HG' := Lib.hid (fun w' (hx : Ex w w') => great_c u Q' w' k' n' p' q' s' A' m' c' hn' (ht'.ex hx))
  unfold GreatR at HG HG'
  have HT := Lib.hid ht
  have HT' := Lib.hid ht'
  have HM := Lib.hid hm
  have HA := Lib.hid (fun w' (hx : Ex w w') => awake_c w' (hE.ex hx))
  have BP0 : Hid (Blk ((w.alloc (.cells #[.int .i64 k, .int .i64 n, .int .i64 p, .int .i64 q, .string s, .slice A m c] 24)).alloc (.cells #[.int .i64 k', .int .i64 n', .int .i64 p', .int .i64 q', .string s', .slice A' m' c'] 24)) w.heap.size 24 (c6 k n p q s A m c)) := (Blk.new w _ _).alloc _
  have BQ0 : Hid (Blk ((w.alloc (.cells #[.int .i64 k, .int .i64 n, .int .i64 p, .int .i64 q, .string s, .slice A m c] 24)).alloc (.cells #[.int .i64 k', .int .i64 n', .int .i64 p', .int .i64 q', .string s', .slice A' m' c'] 24)) (w.heap.size + 1) 24 (c6 k' n' p' q' s' A' m' c')) := Blk.new' _ (by simp) _ _
  clear hE hn hn' ht ht' hm
  go_enter Tryz.func3, Tryz.ntmps3
  go_wp2_with fail
  generalize w.heap.size + 1 = nb at *
  refine (HA.out _ (((Ex.refl _).alloc _).alloc _)).mono ?_
  rintro e w1 ⟨rfl, hx1⟩
  have BP1 := Lib.hid (BP0.out.ex hx1)
  have BQ1 := Lib.hid (BQ0.out.ex hx1)
  have HX1 : Hid (Ex w w1) := (((Ex.refl w).alloc _).alloc _).trans hx1
  clear hx1
  have la := BP1.out.lt
  have a0 := BP1.out.cell 0
  have a1 := BP1.out.cell 1
  have a2 := BP1.out.cell 2
  have a3 := BP1.out.cell 3
  have a4 := BP1.out.cell 4
  have a5 := BP1.out.cell 5
  simp only [List.getElem?_cons_zero, List.getElem?_cons_succ] at a0 a1 a2 a3 a4 a5
  have lb := BQ1.out.lt
  have b0 := BQ1.out.cell 0
  have b1 := BQ1.out.cell 1
  have b2 := BQ1.out.cell 2
  have b3 := BQ1.out.cell 3
  have b4 := BQ1.out.cell 4
  have b5 := BQ1.out.cell 5
  simp only [List.getElem?_cons_zero, List.getElem?_cons_succ] at b0 b1 b2 b3 b4 b5
  go_wp2_with fail
  refine (HG.out _ HX1.out).mono ?_
  rintro e w2 ⟨g1, rfl, hg1, -, hx2⟩
  have Hg1 := Lib.hid hg1
  clear hg1
  have BP2 := Lib.hid (BP1.out.ex hx2)
  have BQ2 := Lib.hid (BQ1.out.ex hx2)
  have HX2 : Hid (Ex w w2) := HX1.out.trans hx2
  clear hx2
  clear la a0 a1 a2 a3 a4 a5 lb b0 b1 b2 b3 b4 b5
  have la := BP2.out.lt
  have a0 := BP2.out.cell 0
  have a1 := BP2.out.cell 1
  have a2 := BP2.out.cell 2
  have a3 := BP2.out.cell 3
  have a4 := BP2.out.cell 4
  have a5 := BP2.out.cell 5
  simp only [List.getElem?_cons_zero, List.getElem?_cons_succ] at a0 a1 a2 a3 a4 a5
  have lb := BQ2.out.lt
  have b0 := BQ2.out.cell 0
  have b1 := BQ2.out.cell 1
  have b2 := BQ2.out.cell 2
  have b3 := BQ2.out.cell 3
  have b4 := BQ2.out.cell 4
  have b5 := BQ2.out.cell 5
  simp only [List.getElem?_cons_zero, List.getElem?_cons_succ] at b0 b1 b2 b3 b4 b5
  cases g1 with
  | true =>
    go_wp2_with fail
    go_ret
    exact Ret.mk rfl HX2.out
  | false =>
    go_wp2_with fail
    refine (HG'.out _ HX2.out).mono ?_
    rintro e w3 ⟨g2, rfl, hg2, -, hx3⟩
    have Hg2 := Lib.hid hg2
    clear hg2
    have BP3 := Lib.hid (BP2.out.ex hx3)
    have BQ3 := Lib.hid (BQ2.out.ex hx3)
    have HX3 : Hid (Ex w w3) := HX2.out.trans hx3
    clear hx3
    clear la a0 a1 a2 a3 a4 a5 lb b0 b1 b2 b3 b4 b5
    have la := BP3.out.lt
    have a0 := BP3.out.cell 0
    have a1 := BP3.out.cell 1
    have a2 := BP3.out.cell 2
    have a3 := BP3.out.cell 3
    have a4 := BP3.out.cell 4
    have a5 := BP3.out.cell 5
    simp only [List.getElem?_cons_zero, List.getElem?_cons_succ] at a0 a1 a2 a3 a4 a5
    have lb := BQ3.out.lt
    have b0 := BQ3.out.cell 0
    have b1 := BQ3.out.cell 1
    have b2 := BQ3.out.cell 2
    have b3 := BQ3.out.cell 3
    have b4 := BQ3.out.cell 4
    have b5 := BQ3.out.cell 5
    simp only [List.getElem?_cons_zero, List.getElem?_cons_succ] at b0 b1 b2 b3 b4 b5
    cases g2 with
    | true =>
      go_wp2_with fail
      go_ret
      exact Ret.mk rfl HX3.out
    | false =>
      have hsz := Hg1.out (by simp)
      have hsz' := Hg2.out (by simp)
      clear Hg1 Hg2 HG HG' HA BP0 BQ0 BP1 BQ1 BP2 BQ2 HX1 HX2
      have HT3 := Lib.hid (HT.out.ex HX3.out)
      have HT3' := Lib.hid (HT'.out.ex HX3.out)
      have HE : Hid (∀ w', Ex w3 w' → Calls Tryz.prog 9 #[.agg #[.int .i64 k, .int .i64 n, .int .i64 p, .int .i64 q, .string s, .slice A m c], .agg #[.int .i64 k', .int .i64 n', .int .i64 p', .int .i64 q', .string s', .slice A' m' c']] w' (Ret w' (.bool (sameB t u)))) := fun w' hx => equal_c t.size t u Q Q' w' k n p q k' n' p' q' s s' A A' m m' c c' (Nat.le_refl _) (by omega) (HT3.out.ex hx) (HT3'.out.ex hx)
      have HF : Hid (∀ w', Ex w3 w' → Calls Tryz.prog 10 #[.agg #[.int .i64 k, .int .i64 n, .int .i64 p, .int .i64 q, .string s, .slice A m c], .agg #[.int .i64 k', .int .i64 n', .int .i64 p', .int .i64 q', .string s', .slice A' m' c']] w' (Ret w' (.bool (sameB t u)))) := fun w' hx => same_c t.size t u Q Q' w' k n p q k' n' p' q' s s' A A' m m' c c' (Nat.le_refl _) (by omega) (by omega) (HT3.out.ex hx) (HT3'.out.ex hx)
      have HEp : Hid (∀ w', Ex w3 w' → Calls Tryz.prog 9 #[.agg #[.int .i64 k, .int .i64 n, .int .i64 p, .int .i64 q, .string s, .slice A m c], .agg #[.int .i64 k, .int .i64 n, .int .i64 p, .int .i64 q, .string s, .slice A m c]] w' (Ret w' (.bool true))) := fun w' hx => by
        have h9 := equal_c t.size t t Q Q w' k n p q k n p q s s A A m m c c (Nat.le_refl _) (by omega) (HT3.out.ex hx) (HT3.out.ex hx)
        rw [same_eq] at h9
        exact h9
      have HS : Hid (∀ w', Ex w3 w' → Calls Tryz.prog 11 #[.agg #[.int .i64 k, .int .i64 n, .int .i64 p, .int .i64 q, .string s, .slice A m c]] w' (Ret w' (.int .i64 (t.size : Nat)))) := fun w' hx => size_c t.size t Q w' k n p q s A m c (Nat.le_refl _) (by omega) (HT3.out.ex hx)
      have HRS : Hid (∀ w', Ex w3 w' → Calls Tryz.prog 12 #[.agg #[.int .i64 k, .int .i64 n, .int .i64 p, .int .i64 q, .string s, .slice A m c]] w' (Ret w' (.int .i64 (t.size : Nat)))) := fun w' hx => rSize_c t.size t Q w' k n p q s A m c (Nat.le_refl _) (by omega) (HT3.out.ex hx)
      have HD : Hid (∀ w', Ex w3 w' → Calls Tryz.prog 13 #[.agg #[.int .i64 k, .int .i64 n, .int .i64 p, .int .i64 q, .string s, .slice A m c]] w' (Ret w' (.int .i64 (t.depth : Nat)))) := fun w' hx => depth_c t.size t Q w' k n p q s A m c (Nat.le_refl _) (by omega) (HT3.out.ex hx)
      have HRD : Hid (∀ w', Ex w3 w' → Calls Tryz.prog 14 #[.agg #[.int .i64 k, .int .i64 n, .int .i64 p, .int .i64 q, .string s, .slice A m c]] w' (Ret w' (.int .i64 (t.depth : Nat)))) := fun w' hx => rDepth_c t.size t Q w' k n p q s A m c (Nat.le_refl _) (by omega) (HT3.out.ex hx)
      have HPr := Lib.hid (fun w' (hx : Ex w3 w') => procs_c t Q w' k n p q s A m c (by omega) HM.out (HT3.out.ex hx))
      have HRs := Lib.hid (fun w' (hx : Ex w3 w') => rResolved_c t Q w' k n p q s A m c (by omega) HM.out (HT3.out.ex hx))
      rw [Bool.and_assoc, ← formed_res t.size t (Nat.le_refl _)] at HRs
      have HRp : Hid (formedB nodeR t = true → ∀ w', Ex w3 w' → Calls Tryz.prog 18 #[.agg #[.int .i64 k, .int .i64 n, .int .i64 p, .int .i64 q, .string s, .slice A m c]] w' (fun e w'' => ∃ v, e = .returned v ∧ Owns w'' w'.heap.size v (prF (prL t)) ∧ Ex w' w'')) := fun h w' hx => rProcs_c t Q w' k n p q s A m c (by omega) (okp_of t h).1 (HT3.out.ex hx)
      have HLn : Hid ((prF (prL t)).length ≤ 1000000) := by
        have := List.length_filter_le (memB (prL t)) (List.range 8)
        unfold prF Hid
        simp at this ⊢
        omega
      generalize prF (prL t) = PS at *
      obtain ⟨bs, hbs⟩ : ∃ bs, smallB t = bs := ⟨_, rfl⟩
      obtain ⟨bf, hbf⟩ : ∃ bf, formedB nodeR t = bf := ⟨_, rfl⟩
      rw [hbs, hbf] at HPr HRs
      rw [hbf] at HRp
      clear hbs hbf
      generalize sameB t u = sb at *
      generalize t.size = tz at *
      generalize t.depth = td at *
      clear HT HT' HT3 HT3' HM hsz hsz'
      have n0 : (sb != sb) = false := by cases sb <;> rfl
      have n1 : ((tz : Int) != (tz : Int)) = false := by simp
      have n2 : ((td : Int) != (td : Int)) = false := by simp
      go_wp2_with fail
      refine wp_region_ext (by kernel_rfl) (by kernel_rfl) ?_
      repeat (go_big_quiet_step (first | (go_at_call 9; with_reducible exact quiet_ext (HE.out _ ((Ex.refl _).ext _))) | (go_at_call 9; with_reducible exact quiet_ext (HEp.out _ ((Ex.refl _).ext _))) | (go_at_call 10; with_reducible exact quiet_ext (HF.out _ ((Ex.refl _).ext _))) | (go_at_call 11; with_reducible exact quiet_ext (HS.out _ ((Ex.refl _).ext _))) | (go_at_call 12; with_reducible exact quiet_ext (HRS.out _ ((Ex.refl _).ext _))) | (go_at_call 13; with_reducible exact quiet_ext (HD.out _ ((Ex.refl _).ext _))) | (go_at_call 14; with_reducible exact quiet_ext (HRD.out _ ((Ex.refl _).ext _)))))
      refine wpQuiet_end (fun z => ?_)
      go_wp2_with fail
      refine (HPr.out _ ((Ex.refl _).ext _)).mono ?_
      intro e w5 hR
      cases hcb : (bs && bf) with
      | false =>
        rw [hcb] at hR HRs
        obtain ⟨rfl, hx5⟩ := hR
        have HX5 : Hid (Ex w3 w5) := ((Ex.refl _).ext z).trans hx5
        clear hx5 hcb
        have BP5 := Lib.hid (BP3.out.ex HX5.out)
        have BQ5 := Lib.hid (BQ3.out.ex HX5.out)
        clear la a0 a1 a2 a3 a4 a5 lb b0 b1 b2 b3 b4 b5
        have la := BP5.out.lt
        have a0 := BP5.out.cell 0
        have a1 := BP5.out.cell 1
        have a2 := BP5.out.cell 2
        have a3 := BP5.out.cell 3
        have a4 := BP5.out.cell 4
        have a5 := BP5.out.cell 5
        simp only [List.getElem?_cons_zero, List.getElem?_cons_succ] at a0 a1 a2 a3 a4 a5
        have lb := BQ5.out.lt
        have b0 := BQ5.out.cell 0
        have b1 := BQ5.out.cell 1
        have b2 := BQ5.out.cell 2
        have b3 := BQ5.out.cell 3
        have b4 := BQ5.out.cell 4
        have b5 := BQ5.out.cell 5
        simp only [List.getElem?_cons_zero, List.getElem?_cons_succ] at b0 b1 b2 b3 b4 b5
        go_wp2_with fail
        refine (HRs.out _ HX5.out).mono ?_
        rintro e w6 ⟨rfl, z6, rfl⟩
        go_wp2_with fail
        go_ret
        exact Ret.mk (by first | rfl | simp) ((HX3.out.trans HX5.out).ext _)
      | true =>
        rw [hcb] at hR HRs
        have hbf : bf = true := by cases bf <;> simp_all
        obtain ⟨v, rfl, ho, hx5⟩ := hR
        have HX5 : Hid (Ex w3 w5) := ((Ex.refl _).ext z).trans hx5
        have HO5 := Lib.hid ho
        have HRq := Lib.hid (HRp.out hbf)
        clear hx5 hcb ho hbf HRp
        have BP5 := Lib.hid (BP3.out.ex HX5.out)
        have BQ5 := Lib.hid (BQ3.out.ex HX5.out)
        clear la a0 a1 a2 a3 a4 a5 lb b0 b1 b2 b3 b4 b5
        have la := BP5.out.lt
        have a0 := BP5.out.cell 0
        have a1 := BP5.out.cell 1
        have a2 := BP5.out.cell 2
        have a3 := BP5.out.cell 3
        have a4 := BP5.out.cell 4
        have a5 := BP5.out.cell 5
        simp only [List.getElem?_cons_zero, List.getElem?_cons_succ] at a0 a1 a2 a3 a4 a5
        have lb := BQ5.out.lt
        have b0 := BQ5.out.cell 0
        have b1 := BQ5.out.cell 1
        have b2 := BQ5.out.cell 2
        have b3 := BQ5.out.cell 3
        have b4 := BQ5.out.cell 4
        have b5 := BQ5.out.cell 5
        simp only [List.getElem?_cons_zero, List.getElem?_cons_succ] at b0 b1 b2 b3 b4 b5
        go_wp2_with fail
        refine (HRs.out _ HX5.out).mono ?_
        rintro e w6 ⟨rfl, z6, rfl⟩
        go_wp2_with fail
        refine (HRq.out _ (HX5.out.ext _)).mono ?_
        rintro e w7 ⟨v2, rfl, ho2, hx7⟩
        have HQ := Lib.hid (eq_own w7 _ _ v v2 PS (HO5.out.ex (((Ex.refl _).ext z6).trans hx7)) ho2 HLn.out)
        have HX7 : Hid (Ex w w7) := (HX3.out.trans (HX5.out.ext z6)).trans hx7
        clear ho2 hx7
        go_wp2_with fail
        refine HQ.out.mono ?_
        rintro e w8 ⟨rfl, hx8⟩
        have HX8 := Lib.hid (HX7.out.trans hx8)
        clear hx8
        go_wp2_with fail
        go_ret
        exact Ret.mk (by first | rfl | simp) HX8.out
end Go.Proofs.YthjalkonlcjhnaaGreatDoor
