/-
  The law RecoveryZigzags, walked.
  Conditions: as each theorem says.
-/
import Derived.Test.YtdenojfbdkdpiaaYn
namespace Go.Proofs.Ytdenojfbdkdpiaa
open Go.RowKit Go.Shelf
set_option maxRecDepth 20000 in
set_option maxHeartbeats 3200000 in
theorem zigzags_law (t : List Pr) (A : Option Addr) (c : Nat) (l : List (List Int)) (B : Option Addr) (lc : Nat) (xp xi yp yi : Int) (w : World) (hT : TcC w A t) (hcap : t.length ≤ c) (hL : LlC w B l) (htl : t.length ≤ 281474976710656) (hbig : ∀ x, x ∈ t → x.evs.length ≤ 281474976710656) :
    Calls Try.prog 3 #[.agg #[.slice A t.length c], .slice B l.length lc, .agg #[.int .i64 xp, .int .i64 xi], .agg #[.int .i64 yp, .int .i64 yi]] w (Ret w (.bool true)) := by
  have HAw := Lib.hid awake_c
  have HFw := Lib.hid (fun w' (h : Ex w w') => few_c t A c 30 w' (hT.ex h) (by decide) htl hbig)
  have HSh := Lib.hid (fun w' (h : Ex w w') => short_c l B lc w' (hL.ex h))
  obtain ⟨W0, hW0⟩ : ∃ W0, W0 = ((w.alloc (.cells #[.slice A t.length c] 24)).alloc (.cells #[.int .i64 xp, .int .i64 xi] 27)).alloc (.cells #[.int .i64 yp, .int .i64 yi] 27) := ⟨_, rfl⟩
  have HX0 : Hid (Ex w W0) := by rw [hW0]; exact (((Ex.refl w).alloc _).alloc _).alloc _
  have HB0 : Hid (∀ w', Ex W0 w' → Blk w' w.heap.size 24 [.slice A t.length c]) := fun w' hx => by
    have : Blk W0 w.heap.size 24 [.slice A t.length c] := by rw [hW0]; exact ((Blk.new w _ _).alloc _).alloc _
    exact this.ex hx
  have HB1 : Hid (∀ w', Ex W0 w' → Blk w' (w.heap.size + 1) 27 [.int .i64 xp, .int .i64 xi]) := fun w' hx => by
    have : Blk W0 (w.heap.size + 1) 27 [.int .i64 xp, .int .i64 xi] := by
      rw [hW0, show w.heap.size + 1 = (w.alloc (.cells #[.slice A t.length c] 24)).heap.size by simp]
      exact (Blk.new _ _ _).alloc _
    exact this.ex hx
  have HB2 : Hid (∀ w', Ex W0 w' → Blk w' (w.heap.size + 1 + 1) 27 [.int .i64 yp, .int .i64 yi]) := fun w' hx => by
    have : Blk W0 (w.heap.size + 1 + 1) 27 [.int .i64 yp, .int .i64 yi] := by
      rw [hW0, show w.heap.size + 1 + 1 = ((w.alloc (.cells #[.slice A t.length c] 24)).alloc (.cells #[.int .i64 xp, .int .i64 xi] 27)).heap.size by simp]
      exact Blk.new _ _ _
    exact this.ex hx
  have HW0 := Lib.hid hW0
  clear hW0
  cases hfw : fewB t 30 with
  | false =>
    rw [hfw] at HFw
    clear hT hcap hL htl hbig hfw
    go_enter Try.func3, Try.ntmps3
    go_wp2_with fail
    rw [← HW0.out]
    refine (HAw.out _).mono ?_
    rintro e9 w1 ⟨rfl, hx1⟩
    have HX1 := Lib.hid hx1
    have a0 := (HB0.out _ hx1).cell 0
    have al := (HB0.out _ hx1).lt
    clear hx1
    go_wp2_with fail
    refine (HFw.out _ (HX0.out.trans HX1.out)).mono ?_
    rintro e9 w2 ⟨rfl, hx2⟩
    have HX2 := Lib.hid (HX1.out.trans hx2)
    clear a0 al hx2
    go_wp2_with fail
    refine (HAw.out _).mono ?_
    rintro e9 w3 ⟨rfl, hx3⟩
    have HX3 := Lib.hid (HX2.out.trans hx3)
    clear hx3
    go_wp2_with fail
    go_ret
    exact Ret.mk rfl (HX0.out.trans HX3.out)
  | true =>
    rw [hfw] at HFw
    obtain ⟨hs, -, -⟩ := few_small (by decide) hfw
    cases hsh : shortB l with
    | false =>
      rw [hsh] at HSh
      clear hT hcap hL htl hbig hfw hsh hs
      go_enter Try.func3, Try.ntmps3
      go_wp2_with fail
      rw [← HW0.out]
      refine (HAw.out _).mono ?_
      rintro e9 w1 ⟨rfl, hx1⟩
      have HX1 := Lib.hid hx1
      have a0 := (HB0.out _ hx1).cell 0
      have al := (HB0.out _ hx1).lt
      clear hx1
      go_wp2_with fail
      refine (HFw.out _ (HX0.out.trans HX1.out)).mono ?_
      rintro e9 w2 ⟨rfl, hx2⟩
      have HX2 := Lib.hid (HX1.out.trans hx2)
      clear a0 al hx2
      go_wp2_with fail
      refine (HSh.out _ (HX0.out.trans HX2.out)).mono ?_
      rintro e9 w3 ⟨rfl, hx3⟩
      have HX3 := Lib.hid (HX2.out.trans hx3)
      clear hx3
      go_wp2_with fail
      refine (HAw.out _).mono ?_
      rintro e9 w4 ⟨rfl, hx4⟩
      have HX4 := Lib.hid (HX3.out.trans hx4)
      clear hx4
      go_wp2_with fail
      go_ret
      exact Ret.mk rfl (HX0.out.trans HX4.out)
    | true =>
      rw [hsh] at HSh
      have hls := short_small hsh
      have HZ := Lib.hid (fun w' (h : Ex w w') => pZigzag_c t A c l B lc xp xi yp yi w' (hT.ex h) hs hcap (hL.ex h) hls)
      have HV := Lib.hid (fun w' (h : Ex w w') => rCp_c t A c l B lc w' (hT.ex h) hs (hL.ex h) hls)
      have HKx := Lib.hid (fun w' (h : Ex w w') => rCheckpoint_c l B lc xp xi w' (hL.ex h))
      have HKy := Lib.hid (fun w' (h : Ex w w') => rCheckpoint_c l B lc yp yi w' (hL.ex h))
      have HRz : Hid (cpB t l = true → ckB l xp xi = true → ckB l yp yi = true → ∀ w', Ex w w' → Calls Try.prog 16 #[.agg #[.slice A t.length c], .slice B l.length lc, .agg #[.int .i64 xp, .int .i64 xi], .agg #[.int .i64 yp, .int .i64 yi]] w' (Ret w' (.bool (zzB l (msgs t) (xp.toNat, xi.toNat) (yp.toNat, yi.toNat))))) := fun hv hx hy w' h => by
        obtain ⟨h1, h2, h3⟩ := ck_p hx
        obtain ⟨g1, g2, g3⟩ := ck_p hy
        have := rZigzag_c t A c l B lc _ _ w' (hT.ex h) hs (hL.ex h) hls hv h1 g1
        unfold idV at this
        dsimp only at this
        rwa [← h2, ← h3, ← g2, ← g3] at this
      unfold zigO at HZ
      clear hT hcap hL htl hbig hfw hsh hs hls
      cases hv : cpB t l with
      | false =>
        rw [hv] at HZ HV
        simp only [if_true] at HZ
        clear HRz hv
        go_enter Try.func3, Try.ntmps3
        go_wp2_with fail
        rw [← HW0.out]
        refine (HAw.out _).mono ?_
        rintro e9 w1 ⟨rfl, hx1⟩
        have HX1 := Lib.hid hx1
        have a0 := (HB0.out _ hx1).cell 0
        have al := (HB0.out _ hx1).lt
        clear hx1
        go_wp2_with fail
        refine (HFw.out _ (HX0.out.trans HX1.out)).mono ?_
        rintro e9 w2 ⟨rfl, hx2⟩
        have HX2 := Lib.hid (HX1.out.trans hx2)
        clear a0 al hx2
        go_wp2_with fail
        refine (HSh.out _ (HX0.out.trans HX2.out)).mono ?_
        rintro e9 w3 ⟨rfl, hx3⟩
        have HX3 := Lib.hid (HX2.out.trans hx3)
        have a0 := (HB0.out _ HX3.out).cell 0
        have al := (HB0.out _ HX3.out).lt
        have b0 := (HB1.out _ HX3.out).cell 0
        have b1 := (HB1.out _ HX3.out).cell 1
        have d0 := (HB2.out _ HX3.out).cell 0
        have d1 := (HB2.out _ HX3.out).cell 1
        have bl := (HB1.out _ HX3.out).lt
        have dl := (HB2.out _ HX3.out).lt
        clear hx3
        go_wp2_with fail
        refine (HZ.out _ (HX0.out.trans HX3.out)).mono ?_
        rintro e9 w4 ⟨rfl, hx4⟩
        have HX4 := Lib.hid (HX3.out.trans hx4)
        clear hx4 a0 al b0 b1 bl d0 d1 dl
        have a0 := (HB0.out _ HX4.out).cell 0
        have al := (HB0.out _ HX4.out).lt
        go_wp2_with fail
        refine (HV.out _ (HX0.out.trans HX4.out)).mono ?_
        rintro e9 w5 ⟨rfl, hx5⟩
        have HX5 := Lib.hid (HX4.out.trans hx5)
        clear hx5
        go_wp2_with fail
        go_ret
        exact Ret.mk rfl (HX0.out.trans HX5.out)
      | true =>
        rw [hv] at HZ HV
        simp only [Bool.true_eq_false, if_false] at HZ
        cases hkx : ckB l xp xi with
        | false =>
          rw [hkx] at HZ HKx
          simp only [Bool.false_and, if_true] at HZ
          clear HRz hv hkx
          go_enter Try.func3, Try.ntmps3
          go_wp2_with fail
          rw [← HW0.out]
          refine (HAw.out _).mono ?_
          rintro e9 w1 ⟨rfl, hx1⟩
          have HX1 := Lib.hid hx1
          have a0 := (HB0.out _ hx1).cell 0
          have al := (HB0.out _ hx1).lt
          clear hx1
          go_wp2_with fail
          refine (HFw.out _ (HX0.out.trans HX1.out)).mono ?_
          rintro e9 w2 ⟨rfl, hx2⟩
          have HX2 := Lib.hid (HX1.out.trans hx2)
          clear a0 al hx2
          go_wp2_with fail
          refine (HSh.out _ (HX0.out.trans HX2.out)).mono ?_
          rintro e9 w3 ⟨rfl, hx3⟩
          have HX3 := Lib.hid (HX2.out.trans hx3)
          have a0 := (HB0.out _ HX3.out).cell 0
          have al := (HB0.out _ HX3.out).lt
          have b0 := (HB1.out _ HX3.out).cell 0
          have b1 := (HB1.out _ HX3.out).cell 1
          have d0 := (HB2.out _ HX3.out).cell 0
          have d1 := (HB2.out _ HX3.out).cell 1
          have bl := (HB1.out _ HX3.out).lt
          have dl := (HB2.out _ HX3.out).lt
          clear hx3
          go_wp2_with fail
          refine (HZ.out _ (HX0.out.trans HX3.out)).mono ?_
          rintro e9 w4 ⟨rfl, hx4⟩
          have HX4 := Lib.hid (HX3.out.trans hx4)
          clear hx4 a0 al b0 b1 bl d0 d1 dl
          have a0 := (HB0.out _ HX4.out).cell 0
          have al := (HB0.out _ HX4.out).lt
          go_wp2_with fail
          refine (HV.out _ (HX0.out.trans HX4.out)).mono ?_
          rintro e9 w5 ⟨rfl, hx5⟩
          have HX5 := Lib.hid (HX4.out.trans hx5)
          have b0 := (HB1.out _ HX5.out).cell 0
          have b1 := (HB1.out _ HX5.out).cell 1
          have bl := (HB1.out _ HX5.out).lt
          clear hx5
          go_wp2_with fail
          refine (HKx.out _ (HX0.out.trans HX5.out)).mono ?_
          rintro e9 w6 ⟨rfl, hx6⟩
          have HX6 := Lib.hid (HX5.out.trans hx6)
          clear hx6 b0 b1 bl
          go_wp2_with fail
          go_ret
          exact Ret.mk rfl (HX0.out.trans HX6.out)
        | true =>
          rw [hkx] at HZ HKx
          cases hky : ckB l yp yi with
          | false =>
            rw [hky] at HZ HKy
            simp only [Bool.and_false, if_true] at HZ
            clear HRz hv hkx hky
            go_enter Try.func3, Try.ntmps3
            go_wp2_with fail
            rw [← HW0.out]
            refine (HAw.out _).mono ?_
            rintro e9 w1 ⟨rfl, hx1⟩
            have HX1 := Lib.hid hx1
            have a0 := (HB0.out _ hx1).cell 0
            have al := (HB0.out _ hx1).lt
            clear hx1
            go_wp2_with fail
            refine (HFw.out _ (HX0.out.trans HX1.out)).mono ?_
            rintro e9 w2 ⟨rfl, hx2⟩
            have HX2 := Lib.hid (HX1.out.trans hx2)
            clear a0 al hx2
            go_wp2_with fail
            refine (HSh.out _ (HX0.out.trans HX2.out)).mono ?_
            rintro e9 w3 ⟨rfl, hx3⟩
            have HX3 := Lib.hid (HX2.out.trans hx3)
            have a0 := (HB0.out _ HX3.out).cell 0
            have al := (HB0.out _ HX3.out).lt
            have b0 := (HB1.out _ HX3.out).cell 0
            have b1 := (HB1.out _ HX3.out).cell 1
            have d0 := (HB2.out _ HX3.out).cell 0
            have d1 := (HB2.out _ HX3.out).cell 1
            have bl := (HB1.out _ HX3.out).lt
            have dl := (HB2.out _ HX3.out).lt
            clear hx3
            go_wp2_with fail
            refine (HZ.out _ (HX0.out.trans HX3.out)).mono ?_
            rintro e9 w4 ⟨rfl, hx4⟩
            have HX4 := Lib.hid (HX3.out.trans hx4)
            clear hx4 a0 al b0 b1 bl d0 d1 dl
            have a0 := (HB0.out _ HX4.out).cell 0
            have al := (HB0.out _ HX4.out).lt
            go_wp2_with fail
            refine (HV.out _ (HX0.out.trans HX4.out)).mono ?_
            rintro e9 w5 ⟨rfl, hx5⟩
            have HX5 := Lib.hid (HX4.out.trans hx5)
            have b0 := (HB1.out _ HX5.out).cell 0
            have b1 := (HB1.out _ HX5.out).cell 1
            have bl := (HB1.out _ HX5.out).lt
            clear hx5
            go_wp2_with fail
            refine (HKx.out _ (HX0.out.trans HX5.out)).mono ?_
            rintro e9 w6 ⟨rfl, hx6⟩
            have HX6 := Lib.hid (HX5.out.trans hx6)
            have d0 := (HB2.out _ HX6.out).cell 0
            have d1 := (HB2.out _ HX6.out).cell 1
            have dl := (HB2.out _ HX6.out).lt
            clear hx6 b0 b1 bl
            go_wp2_with fail
            refine (HKy.out _ (HX0.out.trans HX6.out)).mono ?_
            rintro e9 w7 ⟨rfl, hx7⟩
            have HX7 := Lib.hid (HX6.out.trans hx7)
            clear hx7 d0 d1 dl
            go_wp2_with fail
            go_ret
            exact Ret.mk rfl (HX0.out.trans HX7.out)
          | true =>
            rw [hky] at HZ HKy
            simp only [Bool.and_true, Bool.true_eq_false, if_false] at HZ
            have HR := Lib.hid (HRz.out hv hkx hky)
            generalize zzB l (msgs t) (xp.toNat, xi.toNat) (yp.toNat, yi.toNat) = zz at *
            clear HRz hv hkx hky
            go_enter Try.func3, Try.ntmps3
            go_wp2_with fail
            rw [← HW0.out]
            refine (HAw.out _).mono ?_
            rintro e9 w1 ⟨rfl, hx1⟩
            have HX1 := Lib.hid hx1
            have a0 := (HB0.out _ hx1).cell 0
            have al := (HB0.out _ hx1).lt
            clear hx1
            go_wp2_with fail
            refine (HFw.out _ (HX0.out.trans HX1.out)).mono ?_
            rintro e9 w2 ⟨rfl, hx2⟩
            have HX2 := Lib.hid (HX1.out.trans hx2)
            clear a0 al hx2
            go_wp2_with fail
            refine (HSh.out _ (HX0.out.trans HX2.out)).mono ?_
            rintro e9 w3 ⟨rfl, hx3⟩
            have HX3 := Lib.hid (HX2.out.trans hx3)
            have a0 := (HB0.out _ HX3.out).cell 0
            have al := (HB0.out _ HX3.out).lt
            have b0 := (HB1.out _ HX3.out).cell 0
            have b1 := (HB1.out _ HX3.out).cell 1
            have d0 := (HB2.out _ HX3.out).cell 0
            have d1 := (HB2.out _ HX3.out).cell 1
            have bl := (HB1.out _ HX3.out).lt
            have dl := (HB2.out _ HX3.out).lt
            clear hx3
            go_wp2_with fail
            refine (HZ.out _ (HX0.out.trans HX3.out)).mono ?_
            rintro e9 w4 ⟨rfl, hx4⟩
            have HX4 := Lib.hid (HX3.out.trans hx4)
            clear hx4 a0 al b0 b1 bl d0 d1 dl
            have a0 := (HB0.out _ HX4.out).cell 0
            have al := (HB0.out _ HX4.out).lt
            go_wp2_with fail
            refine (HV.out _ (HX0.out.trans HX4.out)).mono ?_
            rintro e9 w5 ⟨rfl, hx5⟩
            have HX5 := Lib.hid (HX4.out.trans hx5)
            have b0 := (HB1.out _ HX5.out).cell 0
            have b1 := (HB1.out _ HX5.out).cell 1
            have bl := (HB1.out _ HX5.out).lt
            clear hx5
            go_wp2_with fail
            refine (HKx.out _ (HX0.out.trans HX5.out)).mono ?_
            rintro e9 w6 ⟨rfl, hx6⟩
            have HX6 := Lib.hid (HX5.out.trans hx6)
            have d0 := (HB2.out _ HX6.out).cell 0
            have d1 := (HB2.out _ HX6.out).cell 1
            have dl := (HB2.out _ HX6.out).lt
            clear hx6 b0 b1 bl
            go_wp2_with fail
            refine (HKy.out _ (HX0.out.trans HX6.out)).mono ?_
            rintro e9 w7 ⟨rfl, hx7⟩
            have HX7 := Lib.hid (HX6.out.trans hx7)
            clear hx7 d0 d1 dl
            have a0 := (HB0.out _ HX7.out).cell 0
            have al := (HB0.out _ HX7.out).lt
            have b0 := (HB1.out _ HX7.out).cell 0
            have b1 := (HB1.out _ HX7.out).cell 1
            have d0 := (HB2.out _ HX7.out).cell 0
            have d1 := (HB2.out _ HX7.out).cell 1
            have bl := (HB1.out _ HX7.out).lt
            have dl := (HB2.out _ HX7.out).lt
            go_wp2_with fail
            refine (HR.out _ (HX0.out.trans HX7.out)).mono ?_
            rintro e9 w8 ⟨rfl, hx8⟩
            have HX8 := Lib.hid (HX7.out.trans hx8)
            clear hx8 a0 al b0 b1 bl d0 d1 dl
            have hzz : (zz == zz) = true := by simp
            go_wp2_with fail
            go_ret
            exact Ret.mk (by first | rfl | simp) (HX0.out.trans HX8.out)
end Go.Proofs.Ytdenojfbdkdpiaa
