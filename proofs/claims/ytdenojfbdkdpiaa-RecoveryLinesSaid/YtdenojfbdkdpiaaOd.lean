/-
  The law RecoveryLines, walked.
  Conditions: as each theorem says.
-/
import Derived.Test.YtdenojfbdkdpiaaOc
import Derived.Test.YtdenojfbdkdpiaaPc
namespace Go.Proofs.Ytdenojfbdkdpiaa
open Go.RowKit Go.Shelf
theorem equal_n (xs ys : List Int) (A B : Option Addr) (c d n m : Nat) (w : World) (hn : xs.length = n) (hm : ys.length = m) (hx : Row w A (intsV xs)) (hy : Row w B (intsV ys)) (lx : xs.length ≤ 1000000000) (ly : ys.length ≤ 1000000000) :
    Calls Try.prog 23 #[.slice A n c, .slice B m d] w (Ret w (.bool (decide (xs = ys)))) := by
  subst hn hm
  exact equal_c xs ys A B c d w hx hy lx ly
theorem lines1_c (n : Int) (nb : Nat) (B : Option Addr) (L lc : Nat) (w : World) (hc : w.cell? ⟨nb, 0, none⟩ = some (.slice B L lc)) :
    Calls Try.prog 26 #[.int .i64 n, .pointer (some ⟨nb, 0, none⟩)] w (Ret w (.bool (decide (n < 0) || decide ((L : Int) ≤ n)))) := by
  by_cases h : n < 0
  · have s1 : decide (n < 0) = true := decide_eq_true h
    go_enter Try.func26, Try.ntmps26
    go_wp2_with fail
    go_ret
    exact Ret.mk (by rw [s1]; rfl) (Ex.refl w)
  · have s1 : decide (n < 0) = false := decide_eq_false h
    go_enter Try.func26, Try.ntmps26
    go_wp2_with fail
    go_ret
    exact Ret.mk rfl (Ex.refl w)
theorem enters_l1 : ∀ args w, (callFunc 26 args).run Try.prog w = .ok (.enter 26 args) w := enters_of Try.func26 (by kernel_rfl) rfl
theorem anyP_c (B : Option Addr) (L lc nb : Nat) (F : List Int) (FA : Option Addr) (fc : Nat) (w : World) (hF : Row w FA (intsV F)) (hn : F.length ≤ 1000000000) (hb : nb < w.heap.size) (hc : w.cell? ⟨nb, 0, none⟩ = some (.slice B L lc)) :
    Calls Try.prog 25 #[.slice FA F.length fc, .func (.func 26) #[] #[.pointer (some ⟨nb, 0, none⟩)]] w (Ret w (.bool (F.any (fun n => decide (n < 0) || decide ((L : Int) ≤ n))))) := by
  have h := anyInt_c 26 #[.pointer (some ⟨nb, 0, none⟩)] enters_l1 FA F.length fc (fun j => .int .i64 (F[j]?.getD 0)) (fun j => (fun n => decide (n < 0) || decide ((L : Int) ≤ n)) (F[j]?.getD 0)) w hn
    (fun w' hx j hj => by
      obtain ⟨b, o, e, hb, hcs⟩ := row_at (hF.ex hx) (fun h => by rw [h] at hj; exact absurd hj (Nat.not_lt_zero _))
      refine ⟨b, o, e, hb, hcs j _ ?_⟩
      rw [List.getElem?_eq_getElem hj]
      rfl)
    (fun w' hx j hj => lines1_c _ nb B L lc w' ((hx.below.cell hb).trans hc))
  rw [any_range (fun n : Int => decide (n < 0) || decide ((L : Int) ≤ n)) F F.length (Nat.le_refl _) 0, List.take_length] at h
  exact h
set_option maxRecDepth 100000 in
set_option maxHeartbeats 6400000 in
theorem lines_law (t : List Pr) (A : Option Addr) (c : Nat) (l : List (List Int)) (B : Option Addr) (lc : Nat) (F : List Int) (FA : Option Addr) (fc : Nat) (w : World) (hT : TcC w A t) (hcap : t.length ≤ c) (hL : LlC w B l) (hF : Row w FA (intsV F)) (htl : t.length ≤ 281474976710656) (hbig : ∀ x, x ∈ t → x.evs.length ≤ 281474976710656) :
    Calls Try.prog 5 #[.agg #[.slice A t.length c], .slice B l.length lc, .slice FA F.length fc] w (Ret w (.bool true)) := by
  have HAw := Lib.hid awake_c
  have HFw := Lib.hid (fun w' (h : Ex w w') => few_c t A c 80 w' (hT.ex h) (by decide) htl hbig)
  have HSh := Lib.hid (fun w' (h : Ex w w') => short_c l B lc w' (hL.ex h))
  obtain ⟨W0, hW0⟩ : ∃ W0, W0 = w.alloc (.cells #[.slice A t.length c] 24) := ⟨_, rfl⟩
  have HX0 : Hid (Ex w W0) := by rw [hW0]; exact (Ex.refl w).alloc _
  have HB0 : Hid (∀ w', Ex W0 w' → Blk w' w.heap.size 24 [.slice A t.length c]) := fun w' hx => by
    have : Blk W0 w.heap.size 24 [.slice A t.length c] := by rw [hW0]; exact Blk.new w _ _
    exact this.ex hx
  have HW0 := Lib.hid hW0
  clear hW0
  cases hfw : fewB t 80 with
  | false =>
    rw [hfw] at HFw
    clear hT hcap hL hF htl hbig hfw
    go_enter Try.func5, Try.ntmps5
    go_wp2_with fail
    rw [← HW0.out]
    refine (HAw.out _).mono ?_
    rintro e9 w1 ⟨rfl, hx1⟩
    have HX1 := Lib.hid (hx1)
    try clear a0 al
    clear hx1
    have a0 := (HB0.out _ HX1.out).cell 0
    have al := (HB0.out _ HX1.out).lt
    go_wp2_with fail
    refine (HFw.out _ (HX0.out.trans HX1.out)).mono ?_
    rintro e9 w2 ⟨rfl, hx2⟩
    have HX2 := Lib.hid (HX1.out.trans hx2)
    try clear a0 al
    clear hx2
    have a0 := (HB0.out _ HX2.out).cell 0
    have al := (HB0.out _ HX2.out).lt
    go_wp2_with fail
    refine (HAw.out _).mono ?_
    rintro e9 w3 ⟨rfl, hx3⟩
    have HX3 := Lib.hid (HX2.out.trans hx3)
    try clear a0 al
    clear hx3
    go_wp2_with fail
    go_ret
    exact Ret.mk (by first | rfl | simp) (HX0.out.trans HX3.out)
  | true =>
    rw [hfw] at HFw
    obtain ⟨hs, -, htl10⟩ := few_small (by decide) hfw
    cases hsh : shortB l with
    | false =>
      rw [hsh] at HSh
      clear hT hcap hL hF htl hbig hfw hsh hs htl10
      go_enter Try.func5, Try.ntmps5
      go_wp2_with fail
      rw [← HW0.out]
      refine (HAw.out _).mono ?_
      rintro e9 w1 ⟨rfl, hx1⟩
      have HX1 := Lib.hid (hx1)
      try clear a0 al
      clear hx1
      have a0 := (HB0.out _ HX1.out).cell 0
      have al := (HB0.out _ HX1.out).lt
      go_wp2_with fail
      refine (HFw.out _ (HX0.out.trans HX1.out)).mono ?_
      rintro e9 w2 ⟨rfl, hx2⟩
      have HX2 := Lib.hid (HX1.out.trans hx2)
      try clear a0 al
      clear hx2
      have a0 := (HB0.out _ HX2.out).cell 0
      have al := (HB0.out _ HX2.out).lt
      go_wp2_with fail
      refine (HSh.out _ (HX0.out.trans HX2.out)).mono ?_
      rintro e9 w3 ⟨rfl, hx3⟩
      have HX3 := Lib.hid (HX2.out.trans hx3)
      try clear a0 al
      clear hx3
      have a0 := (HB0.out _ HX3.out).cell 0
      have al := (HB0.out _ HX3.out).lt
      go_wp2_with fail
      refine (HAw.out _).mono ?_
      rintro e9 w4 ⟨rfl, hx4⟩
      have HX4 := Lib.hid (HX3.out.trans hx4)
      try clear a0 al
      clear hx4
      go_wp2_with fail
      go_ret
      exact Ret.mk (by first | rfl | simp) (HX0.out.trans HX4.out)
    | true =>
      rw [hsh] at HSh
      have hls := short_small hsh
      have hll := hls.rows
      by_cases hA1 : 20 < F.length ∧ F.length ≤ 1000
      · have s20 : decide (20 < (F.length : Int)) = true := decide_eq_true (by omega)
        have s1000 : decide ((F.length : Int) ≤ 1000) = true := decide_eq_true (by omega)
        clear hT hcap hL hF htl hbig hfw hsh hs htl10 hls
        go_enter Try.func5, Try.ntmps5
        go_wp2_with fail
        rw [← HW0.out]
        refine (HAw.out _).mono ?_
        rintro e9 w1 ⟨rfl, hx1⟩
        have HX1 := Lib.hid (hx1)
        try clear a0 al
        clear hx1
        have a0 := (HB0.out _ HX1.out).cell 0
        have al := (HB0.out _ HX1.out).lt
        go_wp2_with fail
        refine (HFw.out _ (HX0.out.trans HX1.out)).mono ?_
        rintro e9 w2 ⟨rfl, hx2⟩
        have HX2 := Lib.hid (HX1.out.trans hx2)
        try clear a0 al
        clear hx2
        have a0 := (HB0.out _ HX2.out).cell 0
        have al := (HB0.out _ HX2.out).lt
        go_wp2_with fail
        refine (HSh.out _ (HX0.out.trans HX2.out)).mono ?_
        rintro e9 w3 ⟨rfl, hx3⟩
        have HX3 := Lib.hid (HX2.out.trans hx3)
        try clear a0 al
        clear hx3
        have a0 := (HB0.out _ HX3.out).cell 0
        have al := (HB0.out _ HX3.out).lt
        go_wp2_with fail
        refine (HAw.out _).mono ?_
        rintro e9 w4 ⟨rfl, hx4⟩
        have HX4 := Lib.hid (HX3.out.trans hx4)
        try clear a0 al
        clear hx4
        go_wp2_with fail
        go_ret
        exact Ret.mk (by first | rfl | simp) (HX0.out.trans HX4.out)
      by_cases hA2 : 1010 < F.length
      · have s20 : decide (20 < (F.length : Int)) = true := decide_eq_true (by omega)
        have s1000 : decide ((F.length : Int) ≤ 1000) = false := decide_eq_false (by omega)
        have s1010 : decide (1010 < (F.length : Int)) = true := decide_eq_true (by omega)
        clear hT hcap hL hF htl hbig hfw hsh hs htl10 hls
        go_enter Try.func5, Try.ntmps5
        go_wp2_with fail
        rw [← HW0.out]
        refine (HAw.out _).mono ?_
        rintro e9 w1 ⟨rfl, hx1⟩
        have HX1 := Lib.hid (hx1)
        try clear a0 al
        clear hx1
        have a0 := (HB0.out _ HX1.out).cell 0
        have al := (HB0.out _ HX1.out).lt
        go_wp2_with fail
        refine (HFw.out _ (HX0.out.trans HX1.out)).mono ?_
        rintro e9 w2 ⟨rfl, hx2⟩
        have HX2 := Lib.hid (HX1.out.trans hx2)
        try clear a0 al
        clear hx2
        have a0 := (HB0.out _ HX2.out).cell 0
        have al := (HB0.out _ HX2.out).lt
        go_wp2_with fail
        refine (HSh.out _ (HX0.out.trans HX2.out)).mono ?_
        rintro e9 w3 ⟨rfl, hx3⟩
        have HX3 := Lib.hid (HX2.out.trans hx3)
        try clear a0 al
        clear hx3
        have a0 := (HB0.out _ HX3.out).cell 0
        have al := (HB0.out _ HX3.out).lt
        go_wp2_with fail
        refine (HAw.out _).mono ?_
        rintro e9 w4 ⟨rfl, hx4⟩
        have HX4 := Lib.hid (HX3.out.trans hx4)
        try clear a0 al
        clear hx4
        go_wp2_with fail
        go_ret
        exact Ret.mk (by first | rfl | simp) (HX0.out.trans HX4.out)
      have HV := Lib.hid (fun w' (h : Ex w w') => rCp_c t A c l B lc w' (hT.ex h) hs (hL.ex h) hls)
      have HPv := Lib.hid (fun w' (h : Ex w w') => pCp_c t A c l B lc w' (hT.ex h) hs hcap (hL.ex h) hls)
      have HLn := Lib.hid (fun w' (h : Ex w w') => pLineA_c t A c l B lc w' (hT.ex h) hs hcap (hL.ex h) hls)
      have HAf := Lib.hid (fun w' (h : Ex w w') => pAfter_c t A c l B lc F FA fc w' (hT.ex h) hs hcap (hL.ex h) hls (hF.ex h) (by omega))
      have HRl := Lib.hid (fun (hV : cpB t l = true) w' (h : Ex w w') => rLine_c t A c l B lc w' (hT.ex h) hs hV (hL.ex h) hls)
      have HRa := Lib.hid (fun (hV : cpB t l = true) w' (h : Ex w w') => rAfter_c t A c l B lc F FA fc w' (hT.ex h) hs hV (hL.ex h) hls (hF.ex h) (by omega))
      have HAny := Lib.hid (fun w' (h : Ex W0 w') => anyP_c A t.length c w.heap.size F FA fc w' (hF.ex (HX0.out.trans h)) (by omega) (HB0.out _ h).lt ((HB0.out _ h).cell 0))
      have HEq := Lib.hid (fun (xs : List Int) A1 A2 k1 k2 w' (hn : xs.length = l.length) (h1 : Row w' A1 (intsV xs)) (h2 : Row w' A2 (intsV xs)) => equal_n xs xs A1 A2 k1 k2 l.length l.length w' hn hn h1 h2 (by omega) (by omega))
      have HLt : Hid (cpB t l = true → l.length = t.length) := fun h => (cp_of h).2.1
      have HAg : Hid (cpB t l = true → badF l (allF t.length) = false) := fun h => all_good h (by omega)
      have s1010 : decide (1010 < (F.length : Int)) = false := decide_eq_false (by omega)
      clear hT hcap hL hF htl hbig hfw hsh hs htl10 hls
      cases hv : cpB t l with
      | false =>
        rw [hv] at HV HPv
        by_cases hC : F.length ≤ 20
        · have s20 : decide (20 < (F.length : Int)) = false := decide_eq_false (by omega)
          have s1k : decide (1000 < (F.length : Int)) = false := decide_eq_false (by omega)
          go_enter Try.func5, Try.ntmps5
          go_wp2_with fail
          rw [← HW0.out]
          refine (HAw.out _).mono ?_
          rintro e9 w1 ⟨rfl, hx1⟩
          have HX1 := Lib.hid (hx1)
          try clear a0 al
          clear hx1
          have a0 := (HB0.out _ HX1.out).cell 0
          have al := (HB0.out _ HX1.out).lt
          go_wp2_with fail
          refine (HFw.out _ (HX0.out.trans HX1.out)).mono ?_
          rintro e9 w2 ⟨rfl, hx2⟩
          have HX2 := Lib.hid (HX1.out.trans hx2)
          try clear a0 al
          clear hx2
          have a0 := (HB0.out _ HX2.out).cell 0
          have al := (HB0.out _ HX2.out).lt
          go_wp2_with fail
          refine (HSh.out _ (HX0.out.trans HX2.out)).mono ?_
          rintro e9 w3 ⟨rfl, hx3⟩
          have HX3 := Lib.hid (HX2.out.trans hx3)
          try clear a0 al
          clear hx3
          have a0 := (HB0.out _ HX3.out).cell 0
          have al := (HB0.out _ HX3.out).lt
          go_wp2_with fail
          refine (HLn.out _ (HX0.out.trans HX3.out)).mono ?_
          rintro e9 w4 h4
          obtain ⟨rfl, hx4⟩ : e9 = .returned (.tuple #[.slice none 0 0, .int .i64 1]) ∧ Ex w3 w4 := by
            rcases h4 with ⟨-, h, h'⟩ | ⟨h, -⟩ | ⟨h, -⟩
            · exact ⟨h, h'⟩
            · rw [hv] at h; cases h
            · rw [hv] at h; cases h
          have HX4 := Lib.hid (HX3.out.trans hx4)
          have HS4 := Lib.hid hx4
          clear h4
          try clear a0 al
          clear hx4
          have a0 := (HB0.out _ HX4.out).cell 0
          have al := (HB0.out _ HX4.out).lt
          go_wp2_with fail
          refine (HAf.out _ (HX0.out.trans HX4.out)).mono ?_
          rintro e9 w5 h5
          obtain ⟨rfl, hx5⟩ : e9 = .returned (.tuple #[.slice none 0 0, .int .i64 1]) ∧ Ex w4 w5 := by
            rcases h5 with ⟨-, h, h'⟩ | ⟨h, -⟩ | ⟨h, -⟩
            · exact ⟨h, h'⟩
            · rw [hv] at h; cases h
            · rw [hv] at h; cases h
          have HX5 := Lib.hid (HX4.out.trans hx5)
          have HS5 := Lib.hid hx5
          clear h5
          try clear a0 al
          clear hx5
          have a0 := (HB0.out _ HX5.out).cell 0
          have al := (HB0.out _ HX5.out).lt
          go_wp2_with fail
          refine (HV.out _ (HX0.out.trans HX5.out)).mono ?_
          rintro e9 w6 ⟨rfl, hx6⟩
          have HX6 := Lib.hid (HX5.out.trans hx6)
          have HS6 := Lib.hid hx6
          try clear a0 al
          clear hx6
          have a0 := (HB0.out _ HX6.out).cell 0
          have al := (HB0.out _ HX6.out).lt
          go_wp2_with fail
          refine (HPv.out _ (HX0.out.trans HX6.out)).mono ?_
          rintro e9 w7 ⟨rfl, hx7⟩
          have HX7 := Lib.hid (HX6.out.trans hx7)
          have HS7 := Lib.hid hx7
          try clear a0 al
          clear hx7
          have a0 := (HB0.out _ HX7.out).cell 0
          have al := (HB0.out _ HX7.out).lt
          go_wp2_with fail
          go_ret
          exact Ret.mk (by first | rfl | simp) (HX0.out.trans HX7.out)
        · have s20 : decide (20 < (F.length : Int)) = true := decide_eq_true (by omega)
          have s1000 : decide ((F.length : Int) ≤ 1000) = false := decide_eq_false (by omega)
          have s1k : decide (1000 < (F.length : Int)) = true := decide_eq_true (by omega)
          go_enter Try.func5, Try.ntmps5
          go_wp2_with fail
          rw [← HW0.out]
          refine (HAw.out _).mono ?_
          rintro e9 w1 ⟨rfl, hx1⟩
          have HX1 := Lib.hid (hx1)
          try clear a0 al
          clear hx1
          have a0 := (HB0.out _ HX1.out).cell 0
          have al := (HB0.out _ HX1.out).lt
          go_wp2_with fail
          refine (HFw.out _ (HX0.out.trans HX1.out)).mono ?_
          rintro e9 w2 ⟨rfl, hx2⟩
          have HX2 := Lib.hid (HX1.out.trans hx2)
          try clear a0 al
          clear hx2
          have a0 := (HB0.out _ HX2.out).cell 0
          have al := (HB0.out _ HX2.out).lt
          go_wp2_with fail
          refine (HSh.out _ (HX0.out.trans HX2.out)).mono ?_
          rintro e9 w3 ⟨rfl, hx3⟩
          have HX3 := Lib.hid (HX2.out.trans hx3)
          try clear a0 al
          clear hx3
          have a0 := (HB0.out _ HX3.out).cell 0
          have al := (HB0.out _ HX3.out).lt
          go_wp2_with fail
          refine (HLn.out _ (HX0.out.trans HX3.out)).mono ?_
          rintro e9 w4 h4
          obtain ⟨rfl, hx4⟩ : e9 = .returned (.tuple #[.slice none 0 0, .int .i64 1]) ∧ Ex w3 w4 := by
            rcases h4 with ⟨-, h, h'⟩ | ⟨h, -⟩ | ⟨h, -⟩
            · exact ⟨h, h'⟩
            · rw [hv] at h; cases h
            · rw [hv] at h; cases h
          have HX4 := Lib.hid (HX3.out.trans hx4)
          have HS4 := Lib.hid hx4
          clear h4
          try clear a0 al
          clear hx4
          have a0 := (HB0.out _ HX4.out).cell 0
          have al := (HB0.out _ HX4.out).lt
          go_wp2_with fail
          refine (HAf.out _ (HX0.out.trans HX4.out)).mono ?_
          rintro e9 w5 h5
          obtain ⟨rfl, hx5⟩ : e9 = .returned (.tuple #[.slice none 0 0, .int .i64 1]) ∧ Ex w4 w5 := by
            rcases h5 with ⟨-, h, h'⟩ | ⟨h, -⟩ | ⟨h, -⟩
            · exact ⟨h, h'⟩
            · rw [hv] at h; cases h
            · rw [hv] at h; cases h
          have HX5 := Lib.hid (HX4.out.trans hx5)
          have HS5 := Lib.hid hx5
          clear h5
          try clear a0 al
          clear hx5
          have a0 := (HB0.out _ HX5.out).cell 0
          have al := (HB0.out _ HX5.out).lt
          go_wp2_with fail
          refine (HV.out _ (HX0.out.trans HX5.out)).mono ?_
          rintro e9 w6 ⟨rfl, hx6⟩
          have HX6 := Lib.hid (HX5.out.trans hx6)
          have HS6 := Lib.hid hx6
          try clear a0 al
          clear hx6
          have a0 := (HB0.out _ HX6.out).cell 0
          have al := (HB0.out _ HX6.out).lt
          go_wp2_with fail
          refine (HPv.out _ (HX0.out.trans HX6.out)).mono ?_
          rintro e9 w7 ⟨rfl, hx7⟩
          have HX7 := Lib.hid (HX6.out.trans hx7)
          have HS7 := Lib.hid hx7
          try clear a0 al
          clear hx7
          have a0 := (HB0.out _ HX7.out).cell 0
          have al := (HB0.out _ HX7.out).lt
          go_wp2_with fail
          go_ret
          exact Ret.mk (by first | rfl | simp) (HX0.out.trans HX7.out)
      | true =>
        rw [hv] at HV HPv
        by_cases hC : F.length ≤ 20
        · cases hany : F.any (fun n => decide (n < 0) || decide ((t.length : Int) ≤ n)) with
          | true =>
            rw [hany] at HAny
            have hbd : badF l F = true := by unfold badF; rw [HLt.out hv, hany]; simp
            have s20 : decide (20 < (F.length : Int)) = false := decide_eq_false (by omega)
            have s1k : decide (1000 < (F.length : Int)) = false := decide_eq_false (by omega)
            go_enter Try.func5, Try.ntmps5
            go_wp2_with fail
            rw [← HW0.out]
            refine (HAw.out _).mono ?_
            rintro e9 w1 ⟨rfl, hx1⟩
            have HX1 := Lib.hid (hx1)
            try clear a0 al
            clear hx1
            have a0 := (HB0.out _ HX1.out).cell 0
            have al := (HB0.out _ HX1.out).lt
            go_wp2_with fail
            refine (HFw.out _ (HX0.out.trans HX1.out)).mono ?_
            rintro e9 w2 ⟨rfl, hx2⟩
            have HX2 := Lib.hid (HX1.out.trans hx2)
            try clear a0 al
            clear hx2
            have a0 := (HB0.out _ HX2.out).cell 0
            have al := (HB0.out _ HX2.out).lt
            go_wp2_with fail
            refine (HSh.out _ (HX0.out.trans HX2.out)).mono ?_
            rintro e9 w3 ⟨rfl, hx3⟩
            have HX3 := Lib.hid (HX2.out.trans hx3)
            try clear a0 al
            clear hx3
            have a0 := (HB0.out _ HX3.out).cell 0
            have al := (HB0.out _ HX3.out).lt
            go_wp2_with fail
            refine (HLn.out _ (HX0.out.trans HX3.out)).mono ?_
            rintro e9 w4 h4
            obtain ⟨A1, k1, c1, rfl, ht1, ho1, hx4⟩ : ∃ A1 k1 c1, e9 = .returned (.tuple #[.slice A1 l.length k1, .int .i64 0]) ∧ IsTop (msgs t) (permF l (allF t.length)) c1 ∧ OwnO w4 w3.heap.size 3 1 (.slice A1 l.length k1) l.length (intsV c1) ∧ Ex w3 w4 := by
              rcases h4 with ⟨h, -⟩ | ⟨-, h, -⟩ | ⟨-, -, h⟩
              · rw [hv] at h; cases h
              · rw [HAg.out hv] at h; cases h
              · exact h
            have HT1 := Lib.hid ht1
            have HO1 := Lib.hid ho1
            clear ht1 ho1
            have HX4 := Lib.hid (HX3.out.trans hx4)
            have HS4 := Lib.hid hx4
            clear h4
            try clear a0 al
            clear hx4
            have a0 := (HB0.out _ HX4.out).cell 0
            have al := (HB0.out _ HX4.out).lt
            go_wp2_with fail
            refine (HAf.out _ (HX0.out.trans HX4.out)).mono ?_
            rintro e9 w5 h5
            obtain ⟨rfl, hx5⟩ : e9 = .returned (.tuple #[.slice none 0 0, .int .i64 2]) ∧ Ex w4 w5 := by
              rcases h5 with ⟨h, -⟩ | ⟨-, -, h, h'⟩ | ⟨-, h, -⟩
              · rw [hv] at h; cases h
              · exact ⟨h, h'⟩
              · rw [hbd] at h; cases h
            have HX5 := Lib.hid (HX4.out.trans hx5)
            have HS5 := Lib.hid hx5
            clear h5
            try clear a0 al
            clear hx5
            have a0 := (HB0.out _ HX5.out).cell 0
            have al := (HB0.out _ HX5.out).lt
            go_wp2_with fail
            refine (HV.out _ (HX0.out.trans HX5.out)).mono ?_
            rintro e9 w6 ⟨rfl, hx6⟩
            have HX6 := Lib.hid (HX5.out.trans hx6)
            have HS6 := Lib.hid hx6
            try clear a0 al
            clear hx6
            have a0 := (HB0.out _ HX6.out).cell 0
            have al := (HB0.out _ HX6.out).lt
            go_wp2_with fail
            refine (HPv.out _ (HX0.out.trans HX6.out)).mono ?_
            rintro e9 w7 ⟨rfl, hx7⟩
            have HX7 := Lib.hid (HX6.out.trans hx7)
            have HS7 := Lib.hid hx7
            try clear a0 al
            clear hx7
            have a0 := (HB0.out _ HX7.out).cell 0
            have al := (HB0.out _ HX7.out).lt
            go_wp2_with fail
            refine (HRl.out hv _ (HX0.out.trans HX7.out)).mono ?_
            rintro e9 w8 ⟨A3, k3, c3, rfl, ht3, ho3, hx8⟩
            rw [HLt.out hv] at ht3
            obtain rfl := top_eq ht3 HT1.out
            have HX8 := Lib.hid (HX7.out.trans hx8)
            have HS8 := Lib.hid hx8
            have HE3 := Lib.hid (HEq.out c3 A1 A3 k1 k3 _ ho3.line.1 (HO1.out.ex (((HS5.out.trans HS6.out).trans HS7.out).trans HS8.out)).line.2 ho3.line.2)
            clear ht3 ho3
            try clear a0 al
            clear hx8
            have a0 := (HB0.out _ HX8.out).cell 0
            have al := (HB0.out _ HX8.out).lt
            go_wp2_with fail
            refine (HE3.out).mono ?_
            rintro e9 w9 ⟨rfl, hx9⟩
            have HX9 := Lib.hid (HX8.out.trans hx9)
            have HS9 := Lib.hid hx9
            have hdc : decide (c3 = c3) = true := decide_eq_true rfl
            try clear a0 al
            clear hx9
            have a0 := (HB0.out _ HX9.out).cell 0
            have al := (HB0.out _ HX9.out).lt
            go_wp2_with fail
            refine (HAny.out _ HX9.out).mono ?_
            rintro e9 w10 ⟨rfl, hx10⟩
            have HX10 := Lib.hid (HX9.out.trans hx10)
            have HS10 := Lib.hid hx10
            try clear a0 al
            clear hx10
            have a0 := (HB0.out _ HX10.out).cell 0
            have al := (HB0.out _ HX10.out).lt
            go_wp2_with fail
            go_ret
            exact Ret.mk (by first | rfl | simp) (HX0.out.trans HX10.out)
          | false =>
            rw [hany] at HAny
            have hbd : badF l F = false := by unfold badF; rw [HLt.out hv, hany, decide_eq_false (by omega)]; rfl
            have s20 : decide (20 < (F.length : Int)) = false := decide_eq_false (by omega)
            have s1k : decide (1000 < (F.length : Int)) = false := decide_eq_false (by omega)
            go_enter Try.func5, Try.ntmps5
            go_wp2_with fail
            rw [← HW0.out]
            refine (HAw.out _).mono ?_
            rintro e9 w1 ⟨rfl, hx1⟩
            have HX1 := Lib.hid (hx1)
            try clear a0 al
            clear hx1
            have a0 := (HB0.out _ HX1.out).cell 0
            have al := (HB0.out _ HX1.out).lt
            go_wp2_with fail
            refine (HFw.out _ (HX0.out.trans HX1.out)).mono ?_
            rintro e9 w2 ⟨rfl, hx2⟩
            have HX2 := Lib.hid (HX1.out.trans hx2)
            try clear a0 al
            clear hx2
            have a0 := (HB0.out _ HX2.out).cell 0
            have al := (HB0.out _ HX2.out).lt
            go_wp2_with fail
            refine (HSh.out _ (HX0.out.trans HX2.out)).mono ?_
            rintro e9 w3 ⟨rfl, hx3⟩
            have HX3 := Lib.hid (HX2.out.trans hx3)
            try clear a0 al
            clear hx3
            have a0 := (HB0.out _ HX3.out).cell 0
            have al := (HB0.out _ HX3.out).lt
            go_wp2_with fail
            refine (HLn.out _ (HX0.out.trans HX3.out)).mono ?_
            rintro e9 w4 h4
            obtain ⟨A1, k1, c1, rfl, ht1, ho1, hx4⟩ : ∃ A1 k1 c1, e9 = .returned (.tuple #[.slice A1 l.length k1, .int .i64 0]) ∧ IsTop (msgs t) (permF l (allF t.length)) c1 ∧ OwnO w4 w3.heap.size 3 1 (.slice A1 l.length k1) l.length (intsV c1) ∧ Ex w3 w4 := by
              rcases h4 with ⟨h, -⟩ | ⟨-, h, -⟩ | ⟨-, -, h⟩
              · rw [hv] at h; cases h
              · rw [HAg.out hv] at h; cases h
              · exact h
            have HT1 := Lib.hid ht1
            have HO1 := Lib.hid ho1
            clear ht1 ho1
            have HX4 := Lib.hid (HX3.out.trans hx4)
            have HS4 := Lib.hid hx4
            clear h4
            try clear a0 al
            clear hx4
            have a0 := (HB0.out _ HX4.out).cell 0
            have al := (HB0.out _ HX4.out).lt
            go_wp2_with fail
            refine (HAf.out _ (HX0.out.trans HX4.out)).mono ?_
            rintro e9 w5 h5
            obtain ⟨A2, k2, c2, rfl, ht2, ho2, hx5⟩ : ∃ A1 k1 c1, e9 = .returned (.tuple #[.slice A1 l.length k1, .int .i64 0]) ∧ IsTop (msgs t) (permF l F) c1 ∧ OwnO w5 w4.heap.size 3 1 (.slice A1 l.length k1) l.length (intsV c1) ∧ Ex w4 w5 := by
              rcases h5 with ⟨h, -⟩ | ⟨-, h, -⟩ | ⟨-, -, h⟩
              · rw [hv] at h; cases h
              · rw [hbd] at h; cases h
              · exact h
            have HT2 := Lib.hid ht2
            have HO2 := Lib.hid ho2
            clear ht2 ho2
            have HX5 := Lib.hid (HX4.out.trans hx5)
            have HS5 := Lib.hid hx5
            clear h5
            try clear a0 al
            clear hx5
            have a0 := (HB0.out _ HX5.out).cell 0
            have al := (HB0.out _ HX5.out).lt
            go_wp2_with fail
            refine (HV.out _ (HX0.out.trans HX5.out)).mono ?_
            rintro e9 w6 ⟨rfl, hx6⟩
            have HX6 := Lib.hid (HX5.out.trans hx6)
            have HS6 := Lib.hid hx6
            try clear a0 al
            clear hx6
            have a0 := (HB0.out _ HX6.out).cell 0
            have al := (HB0.out _ HX6.out).lt
            go_wp2_with fail
            refine (HPv.out _ (HX0.out.trans HX6.out)).mono ?_
            rintro e9 w7 ⟨rfl, hx7⟩
            have HX7 := Lib.hid (HX6.out.trans hx7)
            have HS7 := Lib.hid hx7
            try clear a0 al
            clear hx7
            have a0 := (HB0.out _ HX7.out).cell 0
            have al := (HB0.out _ HX7.out).lt
            go_wp2_with fail
            refine (HRl.out hv _ (HX0.out.trans HX7.out)).mono ?_
            rintro e9 w8 ⟨A3, k3, c3, rfl, ht3, ho3, hx8⟩
            rw [HLt.out hv] at ht3
            obtain rfl := top_eq ht3 HT1.out
            have HX8 := Lib.hid (HX7.out.trans hx8)
            have HS8 := Lib.hid hx8
            have HE3 := Lib.hid (HEq.out c3 A1 A3 k1 k3 _ ho3.line.1 (HO1.out.ex (((HS5.out.trans HS6.out).trans HS7.out).trans HS8.out)).line.2 ho3.line.2)
            clear ht3 ho3
            try clear a0 al
            clear hx8
            have a0 := (HB0.out _ HX8.out).cell 0
            have al := (HB0.out _ HX8.out).lt
            go_wp2_with fail
            refine (HE3.out).mono ?_
            rintro e9 w9 ⟨rfl, hx9⟩
            have HX9 := Lib.hid (HX8.out.trans hx9)
            have HS9 := Lib.hid hx9
            have hdc : decide (c3 = c3) = true := decide_eq_true rfl
            try clear a0 al
            clear hx9
            have a0 := (HB0.out _ HX9.out).cell 0
            have al := (HB0.out _ HX9.out).lt
            go_wp2_with fail
            refine (HAny.out _ HX9.out).mono ?_
            rintro e9 w10 ⟨rfl, hx10⟩
            have HX10 := Lib.hid (HX9.out.trans hx10)
            have HS10 := Lib.hid hx10
            try clear a0 al
            clear hx10
            have a0 := (HB0.out _ HX10.out).cell 0
            have al := (HB0.out _ HX10.out).lt
            go_wp2_with fail
            refine (HRa.out hv _ (HX0.out.trans HX10.out)).mono ?_
            rintro e9 w11 ⟨A4, k4, c4, rfl, ht4, ho4, hx11⟩
            obtain rfl := top_eq ht4 HT2.out
            have HX11 := Lib.hid (HX10.out.trans hx11)
            have HS11 := Lib.hid hx11
            have HE4 := Lib.hid (HEq.out c4 A2 A4 k2 k4 _ ho4.line.1 (HO2.out.ex (((((HS6.out.trans HS7.out).trans HS8.out).trans HS9.out).trans HS10.out).trans HS11.out)).line.2 ho4.line.2)
            clear ht4 ho4
            try clear a0 al
            clear hx11
            have a0 := (HB0.out _ HX11.out).cell 0
            have al := (HB0.out _ HX11.out).lt
            go_wp2_with fail
            refine (HE4.out).mono ?_
            rintro e9 w12 ⟨rfl, hx12⟩
            have HX12 := Lib.hid (HX11.out.trans hx12)
            have HS12 := Lib.hid hx12
            have hdd : decide (c4 = c4) = true := decide_eq_true rfl
            try clear a0 al
            clear hx12
            go_wp2_with fail
            go_ret
            exact Ret.mk (by first | rfl | simp) (HX0.out.trans HX12.out)
        · have hbd : badF l F = true := by unfold badF; rw [decide_eq_true (show 1000 < F.length by omega)]; rfl
          have s20 : decide (20 < (F.length : Int)) = true := decide_eq_true (by omega)
          have s1000 : decide ((F.length : Int) ≤ 1000) = false := decide_eq_false (by omega)
          have s1k : decide (1000 < (F.length : Int)) = true := decide_eq_true (by omega)
          go_enter Try.func5, Try.ntmps5
          go_wp2_with fail
          rw [← HW0.out]
          refine (HAw.out _).mono ?_
          rintro e9 w1 ⟨rfl, hx1⟩
          have HX1 := Lib.hid (hx1)
          try clear a0 al
          clear hx1
          have a0 := (HB0.out _ HX1.out).cell 0
          have al := (HB0.out _ HX1.out).lt
          go_wp2_with fail
          refine (HFw.out _ (HX0.out.trans HX1.out)).mono ?_
          rintro e9 w2 ⟨rfl, hx2⟩
          have HX2 := Lib.hid (HX1.out.trans hx2)
          try clear a0 al
          clear hx2
          have a0 := (HB0.out _ HX2.out).cell 0
          have al := (HB0.out _ HX2.out).lt
          go_wp2_with fail
          refine (HSh.out _ (HX0.out.trans HX2.out)).mono ?_
          rintro e9 w3 ⟨rfl, hx3⟩
          have HX3 := Lib.hid (HX2.out.trans hx3)
          try clear a0 al
          clear hx3
          have a0 := (HB0.out _ HX3.out).cell 0
          have al := (HB0.out _ HX3.out).lt
          go_wp2_with fail
          refine (HLn.out _ (HX0.out.trans HX3.out)).mono ?_
          rintro e9 w4 h4
          obtain ⟨A1, k1, c1, rfl, ht1, ho1, hx4⟩ : ∃ A1 k1 c1, e9 = .returned (.tuple #[.slice A1 l.length k1, .int .i64 0]) ∧ IsTop (msgs t) (permF l (allF t.length)) c1 ∧ OwnO w4 w3.heap.size 3 1 (.slice A1 l.length k1) l.length (intsV c1) ∧ Ex w3 w4 := by
            rcases h4 with ⟨h, -⟩ | ⟨-, h, -⟩ | ⟨-, -, h⟩
            · rw [hv] at h; cases h
            · rw [HAg.out hv] at h; cases h
            · exact h
          have HT1 := Lib.hid ht1
          have HO1 := Lib.hid ho1
          clear ht1 ho1
          have HX4 := Lib.hid (HX3.out.trans hx4)
          have HS4 := Lib.hid hx4
          clear h4
          try clear a0 al
          clear hx4
          have a0 := (HB0.out _ HX4.out).cell 0
          have al := (HB0.out _ HX4.out).lt
          go_wp2_with fail
          refine (HAf.out _ (HX0.out.trans HX4.out)).mono ?_
          rintro e9 w5 h5
          obtain ⟨rfl, hx5⟩ : e9 = .returned (.tuple #[.slice none 0 0, .int .i64 2]) ∧ Ex w4 w5 := by
            rcases h5 with ⟨h, -⟩ | ⟨-, -, h, h'⟩ | ⟨-, h, -⟩
            · rw [hv] at h; cases h
            · exact ⟨h, h'⟩
            · rw [hbd] at h; cases h
          have HX5 := Lib.hid (HX4.out.trans hx5)
          have HS5 := Lib.hid hx5
          clear h5
          try clear a0 al
          clear hx5
          have a0 := (HB0.out _ HX5.out).cell 0
          have al := (HB0.out _ HX5.out).lt
          go_wp2_with fail
          refine (HV.out _ (HX0.out.trans HX5.out)).mono ?_
          rintro e9 w6 ⟨rfl, hx6⟩
          have HX6 := Lib.hid (HX5.out.trans hx6)
          have HS6 := Lib.hid hx6
          try clear a0 al
          clear hx6
          have a0 := (HB0.out _ HX6.out).cell 0
          have al := (HB0.out _ HX6.out).lt
          go_wp2_with fail
          refine (HPv.out _ (HX0.out.trans HX6.out)).mono ?_
          rintro e9 w7 ⟨rfl, hx7⟩
          have HX7 := Lib.hid (HX6.out.trans hx7)
          have HS7 := Lib.hid hx7
          try clear a0 al
          clear hx7
          have a0 := (HB0.out _ HX7.out).cell 0
          have al := (HB0.out _ HX7.out).lt
          go_wp2_with fail
          refine (HRl.out hv _ (HX0.out.trans HX7.out)).mono ?_
          rintro e9 w8 ⟨A3, k3, c3, rfl, ht3, ho3, hx8⟩
          rw [HLt.out hv] at ht3
          obtain rfl := top_eq ht3 HT1.out
          have HX8 := Lib.hid (HX7.out.trans hx8)
          have HS8 := Lib.hid hx8
          have HE3 := Lib.hid (HEq.out c3 A1 A3 k1 k3 _ ho3.line.1 (HO1.out.ex (((HS5.out.trans HS6.out).trans HS7.out).trans HS8.out)).line.2 ho3.line.2)
          clear ht3 ho3
          try clear a0 al
          clear hx8
          have a0 := (HB0.out _ HX8.out).cell 0
          have al := (HB0.out _ HX8.out).lt
          go_wp2_with fail
          refine (HE3.out).mono ?_
          rintro e9 w9 ⟨rfl, hx9⟩
          have HX9 := Lib.hid (HX8.out.trans hx9)
          have HS9 := Lib.hid hx9
          have hdc : decide (c3 = c3) = true := decide_eq_true rfl
          try clear a0 al
          clear hx9
          have a0 := (HB0.out _ HX9.out).cell 0
          have al := (HB0.out _ HX9.out).lt
          go_wp2_with fail
          go_ret
          exact Ret.mk (by first | rfl | simp) (HX0.out.trans HX9.out)
end Go.Proofs.Ytdenojfbdkdpiaa
