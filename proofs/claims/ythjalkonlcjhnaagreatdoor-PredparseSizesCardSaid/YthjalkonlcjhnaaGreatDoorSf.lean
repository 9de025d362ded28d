/-
  The law Sizes, walked.
  Conditions: the world's tables are as laid (Envw).
-/
import Derived.Test.YthjalkonlcjhnaaGreatDoorRd
import Derived.Test.YthjalkonlcjhnaaGreatDoorTa
import Derived.Test.YthjalkonlcjhnaaGreatDoorTb
namespace Go.Proofs.YthjalkonlcjhnaaGreatDoor
open Go.RowKit
set_option maxRecDepth 20000 in
set_option maxHeartbeats 4000000 in
theorem sizes_good (t u : Tr) (Q Q' : Nat → Prop) (w : World) (k n p q k' n' p' q' : Int) (s s' : ByteArray) (A A' : Option Addr) (m m' c c' : Nat) (hE : Envw w) (hn : LnOk t) (hn' : LnOk u) (ht : TrC Q w t (c6 k n p q s A m c)) (ht' : TrC Q' w u (c6 k' n' p' q' s' A' m' c')) :
    Calls Tryz.prog 6 #[.agg #[.int .i64 k, .int .i64 n, .int .i64 p, .int .i64 q, .string s, .slice A m c], .agg #[.int .i64 k', .int .i64 n', .int .i64 p', .int .i64 q', .string s', .slice A' m' c']] w (Ret w (.bool true)) := by
  have HG := Lib.hid (fun w' (hx : Ex w w') => great_c t Q w' k n p q s A m c hn (ht.ex hx))
  have HG' := Lib.hid (fun w' (hx : Ex w w') => great_c u Q' w' k' n' p' q' s' A' m' c' hn' (ht'.ex hx))
  unfold GreatR at HG HG'
  have HT := Lib.hid ht
  have HT' := Lib.hid ht'
  have HA := Lib.hid (fun w' (hx : Ex w w') => awake_c w' (hE.ex hx))
  have BP : Hid (Blk ((w.alloc (.cells #[.int .i64 k, .int .i64 n, .int .i64 p, .int .i64 q, .string s, .slice A m c] 24)).alloc (.cells #[.int .i64 k', .int .i64 n', .int .i64 p', .int .i64 q', .string s', .slice A' m' c'] 24)) w.heap.size 24 (c6 k n p q s A m c)) := (Blk.new w _ _).alloc _
  have BQ : Hid (Blk ((w.alloc (.cells #[.int .i64 k, .int .i64 n, .int .i64 p, .int .i64 q, .string s, .slice A m c] 24)).alloc (.cells #[.int .i64 k', .int .i64 n', .int .i64 p', .int .i64 q', .string s', .slice A' m' c'] 24)) (w.heap.size + 1) 24 (c6 k' n' p' q' s' A' m' c')) := Blk.new' _ (by simp) _ _
  clear hE hn hn' ht ht'
  go_enter Tryz.func6, Tryz.ntmps6
  go_wp2_with fail
  generalize w.heap.size + 1 = nb at *
  refine (HA.out _ (((Ex.refl _).alloc _).alloc _)).mono ?_
  rintro e w1 ⟨rfl, hx1⟩
  have BP1 := Lib.hid (BP.out.ex hx1)
  have BQ1 := Lib.hid (BQ.out.ex hx1)
  have HX1 : Hid (Ex w w1) := (((Ex.refl w).alloc _).alloc _).trans hx1
  have lp := BP1.out.lt
  have a0 := BP1.out.cell 0
  have a1 := BP1.out.cell 1
  have a2 := BP1.out.cell 2
  have a3 := BP1.out.cell 3
  have a4 := BP1.out.cell 4
  have a5 := BP1.out.cell 5
  simp only [List.getElem?_cons_zero, List.getElem?_cons_succ] at a0 a1 a2 a3 a4 a5
  have lq := BQ1.out.lt
  have b0 := BQ1.out.cell 0
  have b1 := BQ1.out.cell 1
  have b2 := BQ1.out.cell 2
  have b3 := BQ1.out.cell 3
  have b4 := BQ1.out.cell 4
  have b5 := BQ1.out.cell 5
  simp only [List.getElem?_cons_zero, List.getElem?_cons_succ] at b0 b1 b2 b3 b4 b5
  clear hx1
  go_wp2_with fail
  refine (HG.out _ HX1.out).mono ?_
  rintro e w2 ⟨g1, rfl, hg1, -, hx2⟩
  have BP2 := Lib.hid (BP1.out.ex hx2)
  have BQ2 := Lib.hid (BQ1.out.ex hx2)
  have HX2 : Hid (Ex w w2) := HX1.out.trans hx2
  have Hg1 := Lib.hid hg1
  clear lp a0 a1 a2 a3 a4 a5 lq b0 b1 b2 b3 b4 b5 hx2 hg1 BP BQ BP1 BQ1 HA
  have lp := BP2.out.lt
  have a0 := BP2.out.cell 0
  have a1 := BP2.out.cell 1
  have a2 := BP2.out.cell 2
  have a3 := BP2.out.cell 3
  have a4 := BP2.out.cell 4
  have a5 := BP2.out.cell 5
  simp only [List.getElem?_cons_zero, List.getElem?_cons_succ] at a0 a1 a2 a3 a4 a5
  have lq := BQ2.out.lt
  have b0 := BQ2.out.cell 0
  have b1 := BQ2.out.cell 1
  have b2 := BQ2.out.cell 2
  have b3 := BQ2.out.cell 3
  have b4 := BQ2.out.cell 4
  have b5 := BQ2.out.cell 5
  simp only [List.getElem?_cons_zero, List.getElem?_cons_succ] at b0 b1 b2 b3 b4 b5
  cases g1 with
  | true =>
    go_wp2_with fail
    go_ret
    exact Ret.mk rfl HX2.out
  | false =>
    go_wp2_with fail
    refine (HG'.out _ HX2.out).mono ?_
    rintro e w3 ⟨g2, rfl, hg2, -, hx3⟩
    have BP3 := Lib.hid (BP2.out.ex hx3)
    have BQ3 := Lib.hid (BQ2.out.ex hx3)
    have HX3 : Hid (Ex w w3) := HX2.out.trans hx3
    have Hg2 := Lib.hid hg2
    clear lp a0 a1 a2 a3 a4 a5 lq b0 b1 b2 b3 b4 b5 hx3 hg2 BP2 BQ2 HG HG'
    have lp := BP3.out.lt
    have a0 := BP3.out.cell 0
    have a1 := BP3.out.cell 1
    have a2 := BP3.out.cell 2
    have a3 := BP3.out.cell 3
    have a4 := BP3.out.cell 4
    have a5 := BP3.out.cell 5
    simp only [List.getElem?_cons_zero, List.getElem?_cons_succ] at a0 a1 a2 a3 a4 a5
    have lq := BQ3.out.lt
    have b0 := BQ3.out.cell 0
    have b1 := BQ3.out.cell 1
    have b2 := BQ3.out.cell 2
    have b3 := BQ3.out.cell 3
    have b4 := BQ3.out.cell 4
    have b5 := BQ3.out.cell 5
    simp only [List.getElem?_cons_zero, List.getElem?_cons_succ] at b0 b1 b2 b3 b4 b5
    cases g2 with
    | true =>
      go_wp2_with fail
      go_ret
      exact Ret.mk rfl HX3.out
    | false =>
      have hsz := Hg1.out (by simp)
      have hsz' := Hg2.out (by simp)
      clear Hg1 Hg2
      have HT3 := Lib.hid (HT.out.ex HX3.out)
      have HT3' := Lib.hid (HT'.out.ex HX3.out)
      have HS : Hid (∀ w', Ex w3 w' → Calls Tryz.prog 11 #[.agg #[.int .i64 k, .int .i64 n, .int .i64 p, .int .i64 q, .string s, .slice A m c]] w' (Ret w' (.int .i64 (t.size : Nat)))) := fun w' hx => size_c t.size t Q w' k n p q s A m c (Nat.le_refl _) (by omega) (HT3.out.ex hx)
      have HS' : Hid (∀ w', Ex w3 w' → Calls Tryz.prog 11 #[.agg #[.int .i64 k', .int .i64 n', .int .i64 p', .int .i64 q', .string s', .slice A' m' c']] w' (Ret w' (.int .i64 (u.size : Nat)))) := fun w' hx => size_c u.size u Q' w' k' n' p' q' s' A' m' c' (Nat.le_refl _) (by omega) (HT3'.out.ex hx)
      have HD : Hid (∀ w', Ex w3 w' → Calls Tryz.prog 13 #[.agg #[.int .i64 k, .int .i64 n, .int .i64 p, .int .i64 q, .string s, .slice A m c]] w' (Ret w' (.int .i64 (t.depth : Nat)))) := fun w' hx => depth_c t.size t Q w' k n p q s A m c (Nat.le_refl _) (by omega) (HT3.out.ex hx)
      have HD' : Hid (∀ w', Ex w3 w' → Calls Tryz.prog 13 #[.agg #[.int .i64 k', .int .i64 n', .int .i64 p', .int .i64 q', .string s', .slice A' m' c']] w' (Ret w' (.int .i64 (u.depth : Nat)))) := fun w' hx => depth_c u.size u Q' w' k' n' p' q' s' A' m' c' (Nat.le_refl _) (by omega) (HT3'.out.ex hx)
      have HE : Hid (∀ w', Ex w3 w' → Calls Tryz.prog 9 #[.agg #[.int .i64 k, .int .i64 n, .int .i64 p, .int .i64 q, .string s, .slice A m c], .agg #[.int .i64 k', .int .i64 n', .int .i64 p', .int .i64 q', .string s', .slice A' m' c']] w' (Ret w' (.bool (sameB t u)))) := fun w' hx => equal_c t.size t u Q Q' w' k n p q k' n' p' q' s s' A A' m m' c c' (Nat.le_refl _) (by omega) (HT3.out.ex hx) (HT3'.out.ex hx)
      have HE' : Hid (∀ w', Ex w3 w' → Calls Tryz.prog 9 #[.agg #[.int .i64 k', .int .i64 n', .int .i64 p', .int .i64 q', .string s', .slice A' m' c'], .agg #[.int .i64 k, .int .i64 n, .int .i64 p, .int .i64 q, .string s, .slice A m c]] w' (Ret w' (.bool (sameB u t)))) := fun w' hx => equal_c u.size u t Q' Q w' k' n' p' q' k n p q s' s A' A m' m c' c (Nat.le_refl _) (by omega) (HT3'.out.ex hx) (HT3.out.ex hx)
      have hdp := t.depth_le
      have hdp' := u.depth_le
      have HTU : Hid (sameB t u = true → t = u) := same_true
      have HSym : Hid (t = u → sameB u t = true) := fun e => by rw [e]; exact same_eq _
      have HSz : Hid (t = u → t.size = u.size ∧ t.depth = u.depth) := fun e => by rw [e]; exact ⟨rfl, rfl⟩
      obtain ⟨k1, n1, p1, q1, s1, l⟩ := t
      obtain ⟨rfl, rfl, rfl, rfl, rfl, rfl, hk⟩ := HT3.out.kids
      have hlen := Tr.len_le (l := l)
      have hs0 := Tr.size_node k n p q s l
      have hd0 := Tr.depth_node k n p q s l
      have hl : l.length ≤ 1000 := by omega
      have HK := Lib.hid (fun w' (hx : Ex w3 w') j x (hj : l[j]? = some x) => (hk j x hj).ex hx)
      have HGt : Hid (∀ j, j < l.length → ∃ x, l[j]? = some x) := fun j hj => ⟨_, List.getElem?_eq_getElem hj⟩
      have HI : Hid (∀ (j : Nat) (x : Tr), l[j]? = some x → x.size ≤ 250 ∧ x.depth ≤ 250 ∧ (1 + ((l.take j).map Tr.size).sum) + x.size = 1 + ((l.take (j + 1)).map Tr.size).sum ∧ 1 + ((l.take (j + 1)).map Tr.size).sum ≤ 250 ∧ max (((l.take j).map Tr.depth).foldl max 0) x.depth = ((l.take (j + 1)).map Tr.depth).foldl max 0) := fun j x hj => by
        have h1 : (l.map Tr.size)[j]? = some x.size := by rw [List.getElem?_map, hj]; rfl
        have h2 := mem_le_sum _ _ (List.mem_of_getElem? h1)
        have h3 := x.depth_le
        have h6 := sum_le (l.map Tr.size) (j + 1)
        have h4 := sum_take _ _ _ h1
        rw [← List.map_take, ← List.map_take] at h4
        rw [← List.map_take] at h6
        have h5 : (l.map Tr.depth)[j]? = some x.depth := by rw [List.getElem?_map, hj]; rfl
        have h7 := max_take _ _ _ h5
        rw [← List.map_take, ← List.map_take] at h7
        exact ⟨by omega, by omega, by omega, by omega, h7.symm⟩
      have HN : Hid ((Tr.node k n p q s l).size = 1 + (l.map Tr.size).sum ∧ (Tr.node k n p q s l).depth = 1 + (l.map Tr.depth).foldl max 0) := ⟨hs0, hd0⟩
      generalize (Tr.node k n p q s l) = tt at *
      clear hs0 hd0 hlen hk HT HT' HT3 HT3'
      go_wp2_with fail
      go_loopw [5, 6, 20] (fun v d i wr => ∃ j sv dv : Nat, i = .int .i64 j ∧ v = .int .i64 sv ∧ d = .int .i64 dv ∧ j ≤ l.length ∧ sv ≤ 300 ∧ dv ≤ 300 ∧ Hid (sv = 1 + ((l.take j).map Tr.size).sum ∧ dv = ((l.take j).map Tr.depth).foldl max 0 ∧ Ex w3 wr)) (fun _ _ i _ => l.length - (intOf i).toNat)
      case atStart => exact ⟨0, 1, 0, rfl, rfl, rfl, Nat.zero_le _, by omega, by omega, Lib.hid ⟨rfl, rfl, Ex.refl _⟩⟩
      case round =>
        obtain ⟨j, sv, dv, rfl, rfl, rfl, hj, hsv, hdv, HH⟩ := hrel
        by_cases hlt : j < l.length
        · have m1 : (j : Int) < (l.length : Int) := by omega
          have m0 : (0 : Int) ≤ (j : Int) := by omega
          obtain ⟨x, hx⟩ := HGt.out j hlt
          obtain ⟨b, o, k2, n2, p2, q2, s2, B, m2, c2, rfl, hb, h0, h1, h2, h3, h4, h5, htx⟩ := HK.out _ HH.out.2.2 j x hx
          obtain ⟨i1, i2, i3, i4, i5⟩ := HI.out j x hx
          have HIx := Lib.hid (And.intro i3 i5)
          have HSx : Hid (∀ w', Ex wr w' → Calls Tryz.prog 11 #[.agg #[.int .i64 k2, .int .i64 n2, .int .i64 p2, .int .i64 q2, .string s2, .slice B m2 c2]] w' (Ret w' (.int .i64 (x.size : Nat)))) := fun w' hy => size_c x.size x Q w' k2 n2 p2 q2 s2 B m2 c2 (Nat.le_refl _) (by omega) (htx.ex hy)
          have HDx : Hid (∀ w', Ex wr w' → Calls Tryz.prog 13 #[.agg #[.int .i64 k2, .int .i64 n2, .int .i64 p2, .int .i64 q2, .string s2, .slice B m2 c2]] w' (Ret w' (.int .i64 (x.depth : Nat)))) := fun w' hy => depth_c x.size x Q w' k2 n2 p2 q2 s2 B m2 c2 (Nat.le_refl _) (by omega) (htx.ex hy)
          have hsum : sv + x.size ≤ 300 := by rw [HH.out.1, i3]; omega
          generalize x.size = xs at *
          generalize x.depth = xd at *
          clear htx hx i3 i4 i5
          go_wp2_with fail
          refine (HSx.out _ ((Ex.refl _).alloc _)).mono ?_
          rintro e w5 ⟨rfl, z5, rfl⟩
          have hB5 : Blk (ext (wr.alloc (.cells #[.int .i64 k2, .int .i64 n2, .int .i64 p2, .int .i64 q2, .string s2, .slice B m2 c2] 24)) z5) wr.heap.size 24 (c6 k2 n2 p2 q2 s2 B m2 c2) := (Blk.new wr _ _).ex ⟨z5, rfl⟩
          have l5 := hB5.lt
          have v0 := hB5.cell 0
          have v1 := hB5.cell 1
          have v2 := hB5.cell 2
          have v3 := hB5.cell 3
          have v4 := hB5.cell 4
          have v5 := hB5.cell 5
          simp only [List.getElem?_cons_zero, List.getElem?_cons_succ] at v0 v1 v2 v3 v4 v5
          clear hB5
          go_wp2_with fail
          refine (HDx.out _ (((Ex.refl _).alloc _).ext _)).mono ?_
          rintro e w6 ⟨rfl, z6, rfl⟩
          go_wp2_with fail
          refine ⟨⟨j + 1, sv + xs, max dv xd, by go_num, by go_num, by go_num, by omega, by omega, by omega, Lib.hid ⟨by rw [← HIx.out.1, ← HH.out.1], by rw [← HIx.out.2, ← HH.out.2.1], ?_⟩⟩, by simp [intOf]; omega⟩
          exact HH.out.2.2.trans ((((Ex.refl _).alloc _).ext _).ext _)
        · have hjl : j = l.length := by omega
          subst hjl
          have m1 : decide (((l.length : Nat) : Int) < (l.length : Int)) = false := decide_eq_false (by omega)
          have HS0 := HH.out
          rw [List.take_length] at HS0
          obtain ⟨r1, r2, r3⟩ := HS0
          have t1 : tt.size = sv := by rw [HN.out.1, r1]
          have t2 : tt.depth = dv + 1 := by rw [HN.out.2, r2]; omega
          have HXr := Lib.hid r3
          have BPr := BP3.out.ex r3
          have BQr := BQ3.out.ex r3
          clear lp a0 a1 a2 a3 a4 a5 lq b0 b1 b2 b3 b4 b5 hlt HH r1 r2 r3
          have lp := BPr.lt
          have a0 := BPr.cell 0
          have a1 := BPr.cell 1
          have a2 := BPr.cell 2
          have a3 := BPr.cell 3
          have a4 := BPr.cell 4
          have a5 := BPr.cell 5
          simp only [List.getElem?_cons_zero, List.getElem?_cons_succ] at a0 a1 a2 a3 a4 a5
          have lq := BQr.lt
          have b0 := BQr.cell 0
          have b1 := BQr.cell 1
          have b2 := BQr.cell 2
          have b3 := BQr.cell 3
          have b4 := BQr.cell 4
          have b5 := BQr.cell 5
          simp only [List.getElem?_cons_zero, List.getElem?_cons_succ] at b0 b1 b2 b3 b4 b5
          clear BPr BQr
          rw [t1] at HS
          rw [t2] at HD
          have HQ : Hid (tt = u → sv = u.size ∧ dv + 1 = u.depth) := fun e => by have := HSz.out e; omega
          have hdc : (((dv + 1 : Nat) : Int)) = (dv : Int) + 1 := by omega
          generalize tt.size = TS at *
          generalize tt.depth = TD at *
          clear t1 t2 HI HGt HK HSz
          have e1 : ((sv : Int) != (sv : Int)) = false := by simp
          have e2 : (((dv + 1 : Nat) : Int) != (dv : Int) + 1) = false := by rw [hdc]; simp
          have e3 : (((dv + 1 : Nat) : Int) == (dv : Int) + 1) = true := by rw [hdc]; simp
          clear hdc
          go_wp2_with fail
          refine (HS.out _ HXr.out).mono ?_
          rintro e w7 ⟨rfl, z7, rfl⟩
          go_wp2_with fail
          refine (HD.out _ (HXr.out.ext _)).mono ?_
          rintro e w8 ⟨rfl, hx8⟩
          have HX8 : Hid (Ex w3 w8) := (HXr.out.ext _).trans hx8
          have BP8 := BP3.out.ex HX8.out
          have BQ8 := BQ3.out.ex HX8.out
          clear lp a0 a1 a2 a3 a4 a5 lq b0 b1 b2 b3 b4 b5 hx8
          have lp := BP8.lt
          have a0 := BP8.cell 0
          have a1 := BP8.cell 1
          have a2 := BP8.cell 2
          have a3 := BP8.cell 3
          have a4 := BP8.cell 4
          have a5 := BP8.cell 5
          simp only [List.getElem?_cons_zero, List.getElem?_cons_succ] at a0 a1 a2 a3 a4 a5
          have lq := BQ8.lt
          have b0 := BQ8.cell 0
          have b1 := BQ8.cell 1
          have b2 := BQ8.cell 2
          have b3 := BQ8.cell 3
          have b4 := BQ8.cell 4
          have b5 := BQ8.cell 5
          simp only [List.getElem?_cons_zero, List.getElem?_cons_succ] at b0 b1 b2 b3 b4 b5
          clear BP8 BQ8
          go_upto_region 14 with fail
          obtain ⟨qq, hqq⟩ : ∃ qq, sameB tt u = qq := ⟨_, rfl⟩
          rw [hqq] at HE
          have HQQ := Lib.hid hqq
          clear hqq
          cases qq with
          | false =>
            refine wp_region_ext (by kernel_rfl) (by kernel_rfl) ?_
            repeat (go_big_quiet_step ((go_at_call 9; exact quiet_ext (HE.out _ (HX8.out.trans ⟨_, rfl⟩)))))
            refine wpQuiet_end (fun z => ?_)
            go_wp2_with fail
            go_ret
            exact Ret.mk rfl ((HX3.out.trans HX8.out).ext _)
          | true =>
            have htu := HTU.out HQQ.out
            have h9 := HQ.out htu
            have h10 := HSym.out htu
            rw [h10] at HE'
            rw [← h9.1] at HS'
            rw [← h9.2] at HD'
            clear htu h9 h10 HQ HTU HSym HQQ HN
            refine wp_region_ext (by kernel_rfl) (by kernel_rfl) ?_
            repeat (go_big_quiet_step (first | (go_at_call 9; with_reducible exact quiet_ext (HE.out _ (HX8.out.ext _))) | (go_at_call 9; with_reducible exact quiet_ext (HE'.out _ (HX8.out.ext _))) | (go_at_call 11; with_reducible exact quiet_ext (HS.out _ (HX8.out.ext _))) | (go_at_call 11; with_reducible exact quiet_ext (HS'.out _ (HX8.out.ext _))) | (go_at_call 13; with_reducible exact quiet_ext (HD.out _ (HX8.out.ext _))) | (go_at_call 13; with_reducible exact quiet_ext (HD'.out _ (HX8.out.ext _)))))
            refine wpQuiet_end (fun z => ?_)
            go_wp2_with fail
            go_ret
            exact Ret.mk (by first | rfl | simp) ((HX3.out.trans HX8.out).ext _)
end Go.Proofs.YthjalkonlcjhnaaGreatDoor
