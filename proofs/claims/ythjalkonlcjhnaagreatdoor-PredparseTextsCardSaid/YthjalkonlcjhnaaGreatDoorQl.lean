/-
  The parser's level prefix, walked: one of the comparisons that turn round.
  Conditions: as the theorem says.
-/
import Derived.Test.YthjalkonlcjhnaaGreatDoorQi
namespace Go.Proofs.YthjalkonlcjhnaaGreatDoor
open Go.RowKit
set_option maxRecDepth 20000 in
set_option maxHeartbeats 8000000 in
theorem prefix_B {f : Nat} (hsum : LvC 131 f 4) (g b : Nat) (s : St) (w : World) (h : Pst w g b s) (hm : 10 * mS s + 18 ≤ f + 2) (h0 : pickS prefs s = none) (kq : Int) (h1 : pickS cmp1 (lvS f 4 none s).2 = none) (h2 : pickS cmp2 (lvS f 4 none s).2 = some kq) :
    Calls Tryz.prog 109 #[.pointer (some ⟨g, 0, none⟩)] w (TreeR w g b (lvS (f + 1 + 1) 2 none s)) := by
  obtain ⟨hg, hbz, hbg⟩ := h.bounds
  rw [lv2_none h0, lv3_2 h1 h2]
  have HZ : Hid (Zero6 (w.alloc (.cells #[.int .i64 0, .int .i64 0, .int .i64 0, .int .i64 0, .string ⟨#[]⟩, .slice none 0 0] 24)) w.heap.size) := Blk.new w _ _
  have HB := Lib.hid (And.intro hg (And.intro hbz hbg))
  obtain ⟨W0, hW0⟩ : ∃ W0, W0 = (w.alloc (.cells #[.int .i64 0, .int .i64 0, .int .i64 0, .int .i64 0, .string ⟨#[]⟩, .slice none 0 0] 24)).alloc (.cells #[.string ⟨#[110, 111, 116]⟩, .int .i64 15, .string ⟨#[69, 70]⟩, .int .i64 18, .string ⟨#[65, 70]⟩, .int .i64 19, .string ⟨#[69, 71]⟩, .int .i64 20, .string ⟨#[65, 71]⟩, .int .i64 21] 87) := ⟨_, rfl⟩
  have hxw : Exg g w W0 := by rw [hW0]; exact ((Exg.refl g w).alloc _).alloc _
  have hz0 : Zero6 W0 w.heap.size := by rw [hW0]; exact HZ.out.alloc _
  have hp0 : Pst W0 g b s := by rw [hW0]; exact h.ex (((Ex.refl _).alloc _).alloc _)
  have hj0 : Blk W0 (w.heap.size + 1) 87 (jV js1) := by rw [hW0]; exact Blk.new' _ (by simp) _ _
  have hs0 : w.heap.size + 1 ≤ W0.heap.size := by rw [hW0]; simp
  have HW := Lib.hid (And.intro hxw (And.intro hz0 (And.intro hp0 (And.intro hj0 hs0))))
  have HWq := Lib.hid hW0
  have HS := Lib.hid (fun w' (hp : Pst w' g b s) => hsum g b s w' hp (by omega))
  have ham := (lv_aft f 4 none s).m
  have HS2 := Lib.hid (fun s' w' (hp : Pst w' g b s') (hm' : mS s' + 1 ≤ mS s) => hsum g b s' w' hp (by omega))
  obtain ⟨T0, S0, hR⟩ : ∃ T0 S0, lvS f 4 none s = (T0, S0) := ⟨_, _, rfl⟩
  rw [hR] at HS ham ⊢
  have HPk2 : Hid (pickS (jL js2) S0 = none) := by rw [hR] at h1; exact h1
  have HPk3 : Hid (pickS (jL js3) S0 = some kq) := by rw [hR] at h2; exact h2
  have hlv := (pickS_live HPk3.out).2
  dsimp only
  have HO := Lib.hid (fun w' (hp : Pst w' g b S0.tl) => hsum g b S0.tl w' hp (by dsimp only at ham; omega))
  obtain ⟨U0, U1, hU⟩ : ∃ U0 U1, lvS f 4 none S0.tl = (U0, U1) := ⟨_, _, rfl⟩
  rw [hU] at HO ⊢
  unfold TreeR at HO
  have HPk1 : Hid (pickS (jL js1) s = none) := h0
  have HRg : Hid (w.heap.size ≠ g) := Nat.ne_of_gt hg
  clear h hm h0 hR hsum hg hbz hbg hxw hz0 hp0 hj0 hs0 HZ hW0 hlv hU ham HS2 h1 h2
  go_enter Tryz.func109, Tryz.ntmps109
  go_wp2_with fail
  rw [← HWq.out]
  go_loopw [17] (fun i wr => ∃ j : Nat, i = .int .i64 j ∧ j ≤ 5 ∧ Hid (NoneTo js1 s j ∧ Pst wr g b s ∧ Exg g W0 wr)) (fun i _ => 5 - (intOf i).toNat)
  case atStart => exact ⟨0, rfl, Nat.zero_le _, Lib.hid ⟨(fun i S kk h => absurd h (by omega)), HW.out.2.2.1, Exg.refl _ _⟩⟩
  case round =>
    obtain ⟨j, rfl, hj, HH⟩ := hrel
    obtain ⟨hno, hps, hxg⟩ := HH.out
    by_cases hlt : j < 5
    · have n1 : (j : Int) < 5 := by omega
      have n0 : (0 : Int) ≤ (j : Int) := by omega
      obtain ⟨SJ, kk, hjk⟩ : ∃ S kk, js1[j]? = some (S, kk) := ⟨(js1[j]'hlt).1, (js1[j]'hlt).2, List.getElem?_eq_getElem hlt⟩
      have hbj := hxg.blk HW.out.2.2.2.1 (by have := HB.out.1; have := HW.out.2.2.2.2; omega)
      obtain ⟨g1, g2⟩ := jV_get js1 j SJ kk hjk
      have b0 := hbj.cell (j * 2)
      have b1 := hbj.cell (j * 2 + 1)
      rw [g1] at b0
      rw [g2] at b1
      have lj := hbj.lt
      have HK := Lib.hid hjk
      have HNo := Lib.hid hno
      have HPs := Lib.hid hps
      have HXg := Lib.hid hxg
      clear g1 g2 hbj hjk hno hps hxg HH
      cases hb : takeB s SJ.data.toList with
      | true =>
        have hkk := pick_at HNo.out HK.out hb
        rw [HPk1.out] at hkk
        cases hkk
      | false =>
        have HT := Lib.hid (fun w' (hp : Pst w' g b s) => take_f g b s SJ w' hp hb)
        have HN := Lib.hid (HNo.out.next HK.out hb)
        clear hb
        go_wp2_with fail
        refine (HT.out _ (HPs.out.ex ((Ex.refl _).alloc _))).mono ?_
        rintro e w3 ⟨rfl, hp, hx⟩
        have HP3 := Lib.hid hp
        have HX3 := Lib.hid ((HXg.out.alloc (.cells #[.string SJ, .int .i64 kk] 87)).trans hx)
        clear hp hx
        go_wp2_with fail
        refine ⟨⟨j + 1, by go_num, by omega, Lib.hid ⟨HN.out, HP3.out, HX3.out⟩⟩, by simp [intOf]; omega⟩
    · have hjn : j = 5 := by omega
      subst hjn
      try rw [show ((5 : Nat) : Int) = 5 from rfl]
      have HPe1 := Lib.hid hps
      have HXe1 := Lib.hid hxg
      clear hno hps hxg HH hlt
      obtain ⟨we1, hwe⟩ : ∃ we : World, we = wr := ⟨_, rfl⟩
      subst hwe
      go_wp2_with fail
      refine (HS.out _ HPe1.out).mono ?_
      rintro e w5 ⟨k, n, p, q, S, A, m, c, rfl, ht, hp, hx⟩
      go_wp2_with fail
      obtain ⟨W2, hW2⟩ : ∃ W2, W2 = (w5.alloc (.cells #[.int .i64 k, .int .i64 n, .int .i64 p, .int .i64 q, .string S, .slice A m c] 24)).alloc (.cells #[.string ⟨#[61]⟩, .int .i64 9, .string ⟨#[33, 61]⟩, .int .i64 10, .string ⟨#[60]⟩, .int .i64 11, .string ⟨#[60, 61]⟩, .int .i64 12] 87) := ⟨_, rfl⟩
      rw [← hW2]
      have hs5 : w.heap.size + 1 ≤ w5.heap.size := by have h1 := HXe1.out.size; have h2 := hx.size; have h3 := HW.out.2.2.2.2; omega
      have HV : Hid (Blk W2 w5.heap.size 24 (c6 k n p q S A m c) ∧ Blk W2 (w5.heap.size + 1) 87 (jV js2) ∧ Zero6 W2 w.heap.size ∧ Pst W2 g b S0 ∧ TrC (fun c => w.heap.size + 1 ≤ c) W2 T0 (c6 k n p q S A m c) ∧ Exg g w W2 ∧ w.heap.size + 1 ≤ w5.heap.size) := by
        rw [hW2]
        refine ⟨(Blk.new _ _ _).alloc _, Blk.new' _ (by simp) _ _, ((hx.blk (HXe1.out.blk HW.out.2.1 HRg.out) HRg.out).alloc _).alloc _, hp.ex (((Ex.refl _).alloc _).alloc _), (ht.ex (((Ex.refl _).alloc _).alloc _)).imp (fun c _ h => ?_), ((((HW.out.1.trans HXe1.out).trans hx).alloc _).alloc _), hs5⟩
        have h0 : we1.heap.size ≤ c := h
        have h1 := HXe1.out.size
        have h3 := HW.out.2.2.2.2
        omega
      clear ht hp hx hs5 hW2
      go_loopw [40] (fun i wr => ∃ j : Nat, i = .int .i64 j ∧ j ≤ 4 ∧ Hid (NoneTo js2 S0 j ∧ Pst wr g b S0 ∧ Exg g W2 wr)) (fun i _ => 4 - (intOf i).toNat)
      case atStart => exact ⟨0, rfl, Nat.zero_le _, Lib.hid ⟨(fun i S kk h => absurd h (by omega)), HV.out.2.2.2.1, Exg.refl _ _⟩⟩
      case round =>
        obtain ⟨j, rfl, hj, HH⟩ := hrel
        obtain ⟨hno, hps, hxg⟩ := HH.out
        by_cases hlt : j < 4
        · have n1 : (j : Int) < 4 := by omega
          have n0 : (0 : Int) ≤ (j : Int) := by omega
          obtain ⟨SJ, kk, hjk⟩ : ∃ S kk, js2[j]? = some (S, kk) := ⟨(js2[j]'hlt).1, (js2[j]'hlt).2, List.getElem?_eq_getElem hlt⟩
          have hbj := hxg.blk HV.out.2.1 (by have := HB.out.1; have := HV.out.2.2.2.2.2.2; omega)
          obtain ⟨g1, g2⟩ := jV_get js2 j SJ kk hjk
          have b0 := hbj.cell (j * 2)
          have b1 := hbj.cell (j * 2 + 1)
          rw [g1] at b0
          rw [g2] at b1
          have lj := hbj.lt
          have HK := Lib.hid hjk
          have HNo := Lib.hid hno
          have HPs := Lib.hid hps
          have HXg := Lib.hid hxg
          clear g1 g2 hbj hjk hno hps hxg HH
          cases hb : takeB S0 SJ.data.toList with
          | true =>
            have hkk := pick_at HNo.out HK.out hb
            rw [HPk2.out] at hkk
            cases hkk
          | false =>
            have HT := Lib.hid (fun w' (hp : Pst w' g b S0) => take_f g b S0 SJ w' hp hb)
            have HN := Lib.hid (HNo.out.next HK.out hb)
            clear hb
            go_wp2_with fail
            refine (HT.out _ (HPs.out.ex ((Ex.refl _).alloc _))).mono ?_
            rintro e w3 ⟨rfl, hp, hx⟩
            have HP3 := Lib.hid hp
            have HX3 := Lib.hid ((HXg.out.alloc (.cells #[.string SJ, .int .i64 kk] 87)).trans hx)
            clear hp hx
            go_wp2_with fail
            refine ⟨⟨j + 1, by go_num, by omega, Lib.hid ⟨HN.out, HP3.out, HX3.out⟩⟩, by simp [intOf]; omega⟩
        · have hjn : j = 4 := by omega
          subst hjn
          try rw [show ((4 : Nat) : Int) = 4 from rfl]
          have HPe2 := Lib.hid hps
          have HXe2 := Lib.hid hxg
          clear hno hps hxg HH hlt
          obtain ⟨we2, hwe⟩ : ∃ we : World, we = wr := ⟨_, rfl⟩
          subst hwe
          go_wp2_with fail
          try rw [show ((4 : Nat) : Int) = 4 from rfl]
          obtain ⟨W3, hW3⟩ : ∃ W3, W3 = we2.alloc (.cells #[.string ⟨#[62]⟩, .int .i64 11, .string ⟨#[62, 61]⟩, .int .i64 12] 87) := ⟨_, rfl⟩
          rw [← hW3]
          have hJ3 : Blk W3 we2.heap.size 87 (jV js3) := by rw [hW3]; exact Blk.new _ _ _
          have HJ3 := Lib.hid hJ3
          have HV3 : Hid (Blk W3 w5.heap.size 24 (c6 k n p q S A m c) ∧ Zero6 W3 w.heap.size ∧ Pst W3 g b S0 ∧ Exg g w W3 ∧ TrC (fun c => w.heap.size + 1 ≤ c) W3 T0 (c6 k n p q S A m c)) := by
            rw [hW3]
            exact ⟨(HXe2.out.blk HV.out.1 (by have := HB.out.1; have := HV.out.2.2.2.2.2.2; omega)).alloc _, (HXe2.out.blk HV.out.2.2.1 HRg.out).alloc _, HPe2.out.ex ((Ex.refl _).alloc _), (HV.out.2.2.2.2.2.1.trans HXe2.out).alloc _, (HV.out.2.2.2.2.1.exg (fun c h => by have := HB.out.1; omega) HXe2.out).ex ((Ex.refl _).alloc _)⟩
          have HSe : Hid (w.heap.size + 1 ≤ we2.heap.size) := by have h1 := HXe2.out.size; have h2 := HV.out.2.2.2.2.2.1.size; have h3 := HV.out.1.lt; have h4 := HV.out.2.2.2.2.2.2; show _ ≤ _; omega
          clear hJ3 hW3
          have HSz : Hid (w.heap.size + 1 ≤ W3.heap.size) := by have h1 := HV3.out.1.lt; have h2 := HV.out.2.2.2.2.2.2; show _ ≤ _; omega
          go_loopw [60] (fun i wr => ∃ j : Nat, i = .int .i64 j ∧ j ≤ 2 ∧ Hid (NoneTo js3 S0 j ∧ Pst wr g b S0 ∧ Exg g W3 wr)) (fun i _ => 2 - (intOf i).toNat)
          case atStart => exact ⟨0, rfl, Nat.zero_le _, Lib.hid ⟨(fun i S kk h => absurd h (by omega)), HV3.out.2.2.1, Exg.refl _ _⟩⟩
          case round =>
            obtain ⟨j, rfl, hj, HH⟩ := hrel
            obtain ⟨hno, hps, hxg⟩ := HH.out
            by_cases hlt : j < 2
            · have n1 : (j : Int) < 2 := by omega
              have n0 : (0 : Int) ≤ (j : Int) := by omega
              obtain ⟨SJ, kk, hjk⟩ : ∃ S kk, js3[j]? = some (S, kk) := ⟨(js3[j]'hlt).1, (js3[j]'hlt).2, List.getElem?_eq_getElem hlt⟩
              have hbj := hxg.blk HJ3.out (by have := HB.out.1; have := HSe.out; omega)
              obtain ⟨g1, g2⟩ := jV_get js3 j SJ kk hjk
              have b0 := hbj.cell (j * 2)
              have b1 := hbj.cell (j * 2 + 1)
              rw [g1] at b0
              rw [g2] at b1
              have lj := hbj.lt
              have HK := Lib.hid hjk
              have HNo := Lib.hid hno
              have HPs := Lib.hid hps
              have HXg := Lib.hid hxg
              clear g1 g2 hbj hjk hno hps hxg HH
              cases hb : takeB S0 SJ.data.toList with
              | false =>
                have HT := Lib.hid (fun w' (hp : Pst w' g b S0) => take_f g b S0 SJ w' hp hb)
                have HN := Lib.hid (HNo.out.next HK.out hb)
                clear hb
                go_wp2_with fail
                refine (HT.out _ (HPs.out.ex ((Ex.refl _).alloc _))).mono ?_
                rintro e w3 ⟨rfl, hp, hx⟩
                have HP3 := Lib.hid hp
                have HX3 := Lib.hid ((HXg.out.alloc (.cells #[.string SJ, .int .i64 kk] 87)).trans hx)
                clear hp hx
                go_wp2_with fail
                refine ⟨⟨j + 1, by go_num, by omega, Lib.hid ⟨HN.out, HP3.out, HX3.out⟩⟩, by simp [intOf]; omega⟩
              | true =>
                have HT := Lib.hid (fun w' (hp : Pst w' g b S0) => take_t g b S0 SJ w' hp hb)
                have hkk := pick_at HNo.out HK.out hb
                rw [HPk3.out] at hkk
                injection hkk with hkk
                subst hkk
                clear hb
                go_wp2_with fail
                refine (HT.out _ (HPs.out.ex ((Ex.refl _).alloc _))).mono ?_
                rintro e w3 ⟨rfl, hp, hx⟩
                have hgb := HB.out.1
                have hwb : w.heap.size ≤ W3.heap.size := (HV3.out.2.2.2.1).size
                have hgr : wr.heap.size ≠ g := by have h1 := HXg.out.size; omega
                have hq5 : w5.heap.size ≠ g := by have := HV.out.2.2.2.2.2.2; omega
                have hX0 : Blk w3 wr.heap.size 87 [.string SJ, .int .i64 kq] := hx.blk (Blk.new wr _ _) hgr
                have x0 : w3.cell? ⟨wr.heap.size, 1, none⟩ = some (.int .i64 kq) := hX0.cell 1
                have lX := hX0.lt
                have HX3 := Lib.hid ((HXg.out.alloc (.cells #[.string SJ, .int .i64 kq] 87)).trans hx)
                have HZ3 : Hid (Zero6 w3 w.heap.size) := HX3.out.blk HV3.out.2.1 HRg.out
                have HQ3 : Hid (Blk w3 w5.heap.size 24 (c6 k n p q S A m c)) := HX3.out.blk HV3.out.1 hq5
                have HQg : Hid (w5.heap.size ≠ g) := hq5
                have hq3 := HQ3.out
                have t0' := hq3.cell 0
                have t1 := hq3.cell 1
                have t2 := hq3.cell 2
                have t3 := hq3.cell 3
                have t4 := hq3.cell 4
                have t5 := hq3.cell 5
                simp only [List.getElem?_cons_zero, List.getElem?_cons_succ] at t0' t1 t2 t3 t4 t5
                have lt0 := hq3.lt
                have HP3 := Lib.hid hp
                have HX0 := Lib.hid hX0
                have HGX := Lib.hid hgr
                have HTr3 : Hid (TrC (fun c => w.heap.size + 1 ≤ c) w3 T0 (c6 k n p q S A m c)) := (HV3.out.2.2.2.2).exg (fun c h => by omega) HX3.out
                have HS3 : Hid (w.heap.size + 1 ≤ w3.heap.size) := by have h1 := HX3.out.size; have h2 := HXg.out.size; have h3 := HSz.out; show _ ≤ _; omega
                clear hp hx hX0 hgr hq5 hq3 hgb hwb
                go_upto_region 18 with fail
                go_region_with (refine (HO.out _ (by first | exact HP3.out | exact HP3.out.ex ((Ex.refl _).drew))).mono ?_; rintro e w4 ⟨k2, n2, p2, q2, S2, A2, m2, c2, rfl, ht4, hp4, hx4'⟩; have hx4 : Exg g w3 w4 := (by first | exact hx4' | exact ((Exg.refl g w3).drew).trans hx4'); have y0 : w4.cell? ⟨wr.heap.size, 1, none⟩ = some (.int .i64 kq) := (hx4.blk HX0.out HGX.out).cell 1; have l5 := (hx4.blk HX0.out HGX.out).lt; have hz4 := hx4.blk HZ3.out HRg.out; have r0 := hz4.cell 0; have r1 := hz4.cell 1; have r2 := hz4.cell 2; have r3 := hz4.cell 3; have r4 := hz4.cell 4; have r5 := hz4.cell 5; simp only [List.getElem?_cons_zero, List.getElem?_cons_succ] at r0 r1 r2 r3 r4 r5; have f0 := hz4.frozen 0; have f1 := hz4.frozen 1; have f2 := hz4.frozen 2; have f3 := hz4.frozen 3; have f4 := hz4.frozen 4; have f5 := hz4.frozen 5; have lz := hz4.lt; have hq4 := hx4.blk HQ3.out HQg.out; have z0 : w4.cell? ⟨w5.heap.size, 0, none⟩ = some (.int .i64 k) := hq4.cell 0; have z1 : w4.cell? ⟨w5.heap.size, 1, none⟩ = some (.int .i64 n) := hq4.cell 1; have z2 : w4.cell? ⟨w5.heap.size, 2, none⟩ = some (.int .i64 p) := hq4.cell 2; have z3 : w4.cell? ⟨w5.heap.size, 3, none⟩ = some (.int .i64 q) := hq4.cell 3; have z4 : w4.cell? ⟨w5.heap.size, 4, none⟩ = some (.string S) := hq4.cell 4; have z5 : w4.cell? ⟨w5.heap.size, 5, none⟩ = some (.slice A m c) := hq4.cell 5; have l4 := hq4.lt; have e0 := hq4.frozen 0; have e1 := hq4.frozen 1; have e2 := hq4.frozen 2; have e3 := hq4.frozen 3; have e4 := hq4.frozen 4; have e5 := hq4.frozen 5; have HZ4 := Lib.hid hz4; have HT4 := Lib.hid ht4; have HP4 := Lib.hid hp4; have HX4 := Lib.hid hx4; clear hz4 hq4 ht4 hp4 hx4 hx4')
                all_goals
                  have HTR4 : Hid (TrC (fun c => w.heap.size + 1 ≤ c) w4 T0 (c6 k n p q S A m c)) := HTr3.out.exg (fun c h => by have := HB.out.1; omega) HX4.out
                  have HTU4 : Hid (TrC (fun c => w.heap.size + 1 ≤ c) w4 U0 (c6 k2 n2 p2 q2 S2 A2 m2 c2)) := HT4.out.imp (fun c _ h => by have h0 : w3.heap.size ≤ c := h; have h1 := HS3.out; omega)
                  go_wp2_with fail
                  refine bodyPost_ret (results_pred rfl rfl ((blk6 HZ4.out _ _ _ _ _ _).alloc _)) rfl ?_
                  exact fin6two (Q := fun c => w.heap.size + 1 ≤ c) (Nat.le_refl _) (HTU4.out) (HTR4.out) (fun c h => ⟨by omega, by omega⟩) HP4.out HB.out.1 HB.out.2.1 (((HV3.out.2.2.2.1).trans HX3.out).trans HX4.out)
            · have hjn : j = 2 := by omega
              subst hjn
              have hall := hno.all
              rw [HPk3.out] at hall
              cases hall
end Go.Proofs.YthjalkonlcjhnaaGreatDoor
