/-
  The law RecoveryLosses, walked.
  Conditions: as each theorem says.
-/
import Derived.Test.YtdenojfbdkdpiaaGreatPj
import Derived.Test.YtdenojfbdkdpiaaGreatYn
namespace Go.Proofs.YtdenojfbdkdpiaaGreat
open Go.RowKit Go.Shelf
theorem evs_sum : ∀ (t : List Pr) (x : Pr), x ∈ t → x.evs.length ≤ sumN t
  | [], x, h => absurd h List.not_mem_nil
  | y :: t, x, h => by
    have e : sumN (y :: t) = y.evs.length + sumN t := rfl
    rcases List.mem_cons.1 h with rfl | h
    · omega
    · have := evs_sum t x h; omega
theorem frcL_small {t : List Pr} {l : List (List Int)} (hl : LSm l) (h : sumN t ≤ 80) : LSm (frcL t l) := by
  refine ⟨by rw [frcL_len]; exact hl.rows, fun r hr => ?_⟩
  obtain ⟨p, hp, rfl⟩ := List.mem_map.1 hr
  have h1 := frc_len (l.getD p []) (evsOf t p) 0 false
  have h2 : (evsOf t p).length ≤ 80 := by
    unfold evsOf
    cases hx : t[p]? with
    | none => simp
    | some x => have := evs_sum t x (List.mem_of_getElem? hx); simp only; omega
  unfold frcP
  omega
theorem sameN_c (xs ys : List (List Int)) (A B : Option Addr) (c d n m : Nat) (w : World) (hn : xs.length = n) (hm : ys.length = m) (hx : LlC w A xs) (hy : LlC w B ys) (lx : LSm xs) (ly : LSm ys) :
    Calls Tryz.prog 12 #[.slice A n c, .slice B m d] w (Ret w (.bool (decide (xs = ys)))) := by
  subst hn hm
  exact sameLists_c xs ys A B c d w hx hy lx ly
set_option maxRecDepth 100000 in
set_option maxHeartbeats 6400000 in
theorem losses_law (t : List Pr) (A : Option Addr) (c : Nat) (l : List (List Int)) (B : Option Addr) (lc : Nat) (w : World) (hT : TcC w A t) (hcap : t.length ≤ c) (hL : LlC w B l) (htl : t.length ≤ 281474976710656) (hbig : ∀ x, x ∈ t → x.evs.length ≤ 281474976710656) :
    Calls Tryz.prog 3 #[.agg #[.slice A t.length c], .slice B l.length lc] w (Ret w (.bool true)) := by
  have HAw := Lib.hid awake_c
  have HFw := Lib.hid (fun w' (h : Ex w w') => few_c t A c 80 w' (hT.ex h) (by decide) htl hbig)
  have HSh := Lib.hid (fun w' (h : Ex w w') => short_c l B lc w' (hL.ex h))
  obtain ⟨W0, hW0⟩ : ∃ W0, W0 = w.alloc (.cells #[.slice A t.length c] 24) := ⟨_, rfl⟩
  have HX0 : Hid (Ex w W0) := by rw [hW0]; exact (Ex.refl w).alloc _
  have HB0 : Hid (∀ w', Ex W0 w' → Blk w' w.heap.size 24 [.slice A t.length c]) := fun w' hx => by
    have : Blk W0 w.heap.size 24 [.slice A t.length c] := by rw [hW0]; exact Blk.new w _ _
    exact this.ex hx
  have HW0 := Lib.hid hW0
  clear hW0
  cases hfw : fewB t 80 with
  | false =>
    rw [hfw] at HFw
    clear hT hcap hL htl hbig hfw
    go_enter Tryz.func3, Tryz.ntmps3
    go_wp2_with fail
    rw [← HW0.out]
    refine (HAw.out _).mono ?_
    rintro e9 w1 ⟨rfl, hx1⟩
    have HX1 := Lib.hid (hx1)
    try clear a0 al
    clear hx1
    have a0 := (HB0.out _ HX1.out).cell 0
    have al := (HB0.out _ HX1.out).lt
    go_wp2_with fail
    refine (HFw.out _ (HX0.out.trans HX1.out)).mono ?_
    rintro e9 w2 ⟨rfl, hx2⟩
    have HX2 := Lib.hid (HX1.out.trans hx2)
    try clear a0 al
    clear hx2
    have a0 := (HB0.out _ HX2.out).cell 0
    have al := (HB0.out _ HX2.out).lt
    go_wp2_with fail
    refine (HAw.out _).mono ?_
    rintro e9 w3 ⟨rfl, hx3⟩
    have HX3 := Lib.hid (HX2.out.trans hx3)
    try clear a0 al
    clear hx3
    go_wp2_with fail
    go_ret
    exact Ret.mk (by first | rfl | simp) (HX0.out.trans HX3.out)
  | true =>
    rw [hfw] at HFw
    obtain ⟨hs, hsum, htl10⟩ := few_small (by decide) hfw
    cases hsh : shortB l with
    | false =>
      rw [hsh] at HSh
      clear hT hcap hL htl hbig hfw hsh hs htl10 hsum
      go_enter Tryz.func3, Tryz.ntmps3
      go_wp2_with fail
      rw [← HW0.out]
      refine (HAw.out _).mono ?_
      rintro e9 w1 ⟨rfl, hx1⟩
      have HX1 := Lib.hid (hx1)
      try clear a0 al
      clear hx1
      have a0 := (HB0.out _ HX1.out).cell 0
      have al := (HB0.out _ HX1.out).lt
      go_wp2_with fail
      refine (HFw.out _ (HX0.out.trans HX1.out)).mono ?_
      rintro e9 w2 ⟨rfl, hx2⟩
      have HX2 := Lib.hid (HX1.out.trans hx2)
      try clear a0 al
      clear hx2
      have a0 := (HB0.out _ HX2.out).cell 0
      have al := (HB0.out _ HX2.out).lt
      go_wp2_with fail
      refine (HSh.out _ (HX0.out.trans HX2.out)).mono ?_
      rintro e9 w3 ⟨rfl, hx3⟩
      have HX3 := Lib.hid (HX2.out.trans hx3)
      try clear a0 al
      clear hx3
      have a0 := (HB0.out _ HX3.out).cell 0
      have al := (HB0.out _ HX3.out).lt
      go_wp2_with fail
      refine (HAw.out _).mono ?_
      rintro e9 w4 ⟨rfl, hx4⟩
      have HX4 := Lib.hid (HX3.out.trans hx4)
      try clear a0 al
      clear hx4
      go_wp2_with fail
      go_ret
      exact Ret.mk (by first | rfl | simp) (HX0.out.trans HX4.out)
    | true =>
      rw [hsh] at HSh
      have hls := short_small hsh
      have HRb := Lib.hid (fun w' (h : Ex w w') => pRollback_c t A c l B lc w' (hT.ex h) hs hcap (hL.ex h) hls (by omega))
      have HFc := Lib.hid (fun w' (h : Ex w w') => pForced_c t A c l B lc w' (hT.ex h) hs hcap (hL.ex h) hls)
      have HV := Lib.hid (fun w' (h : Ex w w') => rCp_c t A c l B lc w' (hT.ex h) hs (hL.ex h) hls)
      have HRr := Lib.hid (fun (hV : cpB t l = true) w' (h : Ex w w') => rRollback_c t A c l B lc w' (hT.ex h) hs hV (hL.ex h) hls)
      have HRf := Lib.hid (fun (hV : cpB t l = true) w' (h : Ex w w') => rForced_c t A c l B lc w' (hT.ex h) hs hV (hL.ex h) hls)
      have HSm := Lib.hid (fun A1 A2 c1 c2 w' (h1 : LlC w' A1 (frcL t l)) (h2 : LlC w' A2 (frcL t l)) => sameN_c (frcL t l) (frcL t l) A1 A2 c1 c2 l.length l.length w' (frcL_len t l) (frcL_len t l) h1 h2 (frcL_small hls hsum) (frcL_small hls hsum))
      have HLt : Hid (cpB t l = true → l.length = t.length) := fun h => (cp_of h).2.1
      clear hT hcap hL htl hbig hfw hsh hs htl10 hls hsum
      unfold RbR at HRb
      unfold FrcR at HFc
      cases hv : cpB t l with
      | false =>
        rw [hv] at HV
        go_enter Tryz.func3, Tryz.ntmps3
        go_wp2_with fail
        rw [← HW0.out]
        refine (HAw.out _).mono ?_
        rintro e9 w1 ⟨rfl, hx1⟩
        have HX1 := Lib.hid (hx1)
        try clear a0 al
        clear hx1
        have a0 := (HB0.out _ HX1.out).cell 0
        have al := (HB0.out _ HX1.out).lt
        go_wp2_with fail
        refine (HFw.out _ (HX0.out.trans HX1.out)).mono ?_
        rintro e9 w2 ⟨rfl, hx2⟩
        have HX2 := Lib.hid (HX1.out.trans hx2)
        try clear a0 al
        clear hx2
        have a0 := (HB0.out _ HX2.out).cell 0
        have al := (HB0.out _ HX2.out).lt
        go_wp2_with fail
        refine (HSh.out _ (HX0.out.trans HX2.out)).mono ?_
        rintro e9 w3 ⟨rfl, hx3⟩
        have HX3 := Lib.hid (HX2.out.trans hx3)
        try clear a0 al
        clear hx3
        have a0 := (HB0.out _ HX3.out).cell 0
        have al := (HB0.out _ HX3.out).lt
        go_wp2_with fail
        refine (HRb.out _ (HX0.out.trans HX3.out)).mono ?_
        rintro e9 w4 h4
        obtain ⟨rfl, hx4⟩ : e9 = .returned (.tuple #[.int .i64 0, .int .i64 0, .int .i64 1]) ∧ Ex w3 w4 := by
          rcases h4 with ⟨-, h, h'⟩ | ⟨h, -⟩
          · exact ⟨h, h'⟩
          · rw [hv] at h; cases h
        have HX4 := Lib.hid (HX3.out.trans hx4)
        clear h4
        try clear a0 al
        clear hx4
        have a0 := (HB0.out _ HX4.out).cell 0
        have al := (HB0.out _ HX4.out).lt
        go_wp2_with fail
        refine (HFc.out _ (HX0.out.trans HX4.out)).mono ?_
        rintro e9 w5 h5
        obtain ⟨rfl, hx5⟩ : e9 = .returned (.tuple #[.slice none 0 0, .int .i64 1]) ∧ Ex w4 w5 := by
          rcases h5 with ⟨-, h, h'⟩ | ⟨h, -⟩
          · exact ⟨h, h'⟩
          · rw [hv] at h; cases h
        have HX5 := Lib.hid (HX4.out.trans hx5)
        clear h5
        try clear a0 al
        clear hx5
        have a0 := (HB0.out _ HX5.out).cell 0
        have al := (HB0.out _ HX5.out).lt
        go_wp2_with fail
        refine (HV.out _ (HX0.out.trans HX5.out)).mono ?_
        rintro e9 w6 ⟨rfl, hx6⟩
        have HX6 := Lib.hid (HX5.out.trans hx6)
        try clear a0 al
        clear hx6
        go_wp2_with fail
        go_ret
        exact Ret.mk (by first | rfl | simp) (HX0.out.trans HX6.out)
      | true =>
        rw [hv] at HV
        go_enter Tryz.func3, Tryz.ntmps3
        go_wp2_with fail
        rw [← HW0.out]
        refine (HAw.out _).mono ?_
        rintro e9 w1 ⟨rfl, hx1⟩
        have HX1 := Lib.hid (hx1)
        try clear a0 al
        clear hx1
        have a0 := (HB0.out _ HX1.out).cell 0
        have al := (HB0.out _ HX1.out).lt
        go_wp2_with fail
        refine (HFw.out _ (HX0.out.trans HX1.out)).mono ?_
        rintro e9 w2 ⟨rfl, hx2⟩
        have HX2 := Lib.hid (HX1.out.trans hx2)
        try clear a0 al
        clear hx2
        have a0 := (HB0.out _ HX2.out).cell 0
        have al := (HB0.out _ HX2.out).lt
        go_wp2_with fail
        refine (HSh.out _ (HX0.out.trans HX2.out)).mono ?_
        rintro e9 w3 ⟨rfl, hx3⟩
        have HX3 := Lib.hid (HX2.out.trans hx3)
        try clear a0 al
        clear hx3
        have a0 := (HB0.out _ HX3.out).cell 0
        have al := (HB0.out _ HX3.out).lt
        go_wp2_with fail
        refine (HRb.out _ (HX0.out.trans HX3.out)).mono ?_
        rintro e9 w4 h4
        obtain ⟨cs, hT1, rfl, hx4⟩ : ∃ cs, IsTop (msgs t) (permF l (allF t.length)) cs ∧ e9 = .returned (.tuple #[.int .i64 (rbE t cs l.length), .int .i64 (rbK l cs l.length : Nat), .int .i64 0]) ∧ Ex w3 w4 := by
          rcases h4 with ⟨h, -⟩ | ⟨-, h⟩
          · rw [hv] at h; cases h
          · exact h
        have HX4 := Lib.hid (HX3.out.trans hx4)
        have HT1 := Lib.hid hT1
        clear h4 hT1
        try clear a0 al
        clear hx4
        have a0 := (HB0.out _ HX4.out).cell 0
        have al := (HB0.out _ HX4.out).lt
        go_wp2_with fail
        refine (HFc.out _ (HX0.out.trans HX4.out)).mono ?_
        rintro e9 w5 h5
        obtain ⟨A5, c5, rfl, hL5, -, hx5⟩ : ∃ A c, e9 = .returned (.tuple #[.slice A l.length c, .int .i64 0]) ∧ LlC w5 A (frcL t l) ∧ l.length ≤ c ∧ Ex w4 w5 := by
          rcases h5 with ⟨h, -⟩ | ⟨-, h⟩
          · rw [hv] at h; cases h
          · exact h
        have HX5 := Lib.hid (HX4.out.trans hx5)
        have HL5 := Lib.hid hL5
        clear h5 hL5
        try clear a0 al
        clear hx5
        have a0 := (HB0.out _ HX5.out).cell 0
        have al := (HB0.out _ HX5.out).lt
        go_wp2_with fail
        refine (HV.out _ (HX0.out.trans HX5.out)).mono ?_
        rintro e9 w6 ⟨rfl, hx6⟩
        have HX6 := Lib.hid (HX5.out.trans hx6)
        have HS6 := Lib.hid hx6
        try clear a0 al
        clear hx6
        have a0 := (HB0.out _ HX6.out).cell 0
        have al := (HB0.out _ HX6.out).lt
        go_wp2_with fail
        refine (HRr.out hv _ (HX0.out.trans HX6.out)).mono ?_
        rintro e9 w7 ⟨cs2, hT2, rfl, hx7⟩
        rw [HLt.out hv] at hT2
        obtain rfl := top_eq hT2 HT1.out
        have HX7 := Lib.hid (HX6.out.trans hx7)
        have HS7 := Lib.hid hx7
        clear hT2
        have t1 : (rbE t cs2 l.length == rbE t cs2 l.length) = true := by simp
        have t2 : (rbK l cs2 l.length == rbK l cs2 l.length) = true := by simp
        try clear a0 al
        clear hx7
        have a0 := (HB0.out _ HX7.out).cell 0
        have al := (HB0.out _ HX7.out).lt
        go_wp2_with fail
        refine (HRf.out hv _ (HX0.out.trans HX7.out)).mono ?_
        rintro e9 w8 ⟨A6, c6, rfl, hL6, -, hx8⟩
        have HX8 := Lib.hid (HX7.out.trans hx8)
        have HSm2 := Lib.hid (HSm.out A5 A6 c5 c6 _ (HL5.out.ex (HS6.out.trans (HS7.out.trans hx8))) hL6)
        clear hL6
        try clear a0 al
        clear hx8
        have a0 := (HB0.out _ HX8.out).cell 0
        have al := (HB0.out _ HX8.out).lt
        go_wp2_with fail
        have hde : decide (frcL t l = frcL t l) = true := decide_eq_true rfl
        refine (HSm2.out).mono ?_
        rintro e9 w9 ⟨rfl, hx9⟩
        have HX9 := Lib.hid (HX8.out.trans hx9)
        try clear a0 al
        clear hx9
        go_wp2_with fail
        go_ret
        exact Ret.mk (by first | rfl | simp) (HX0.out.trans HX9.out)
end Go.Proofs.YtdenojfbdkdpiaaGreat
