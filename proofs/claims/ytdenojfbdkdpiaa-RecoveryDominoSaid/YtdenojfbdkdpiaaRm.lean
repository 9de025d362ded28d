/-
  The law RecoveryMore, walked.
  Conditions: as each theorem says.
-/
import Derived.Test.YtdenojfbdkdpiaaRl
import Derived.Test.YtdenojfbdkdpiaaYn
namespace Go.Proofs.Ytdenojfbdkdpiaa
open Go.RowKit Go.Shelf
theorem equalM_n (xs ys : List Int) (A B : Option Addr) (c d n m : Nat) (w : World) (hn : xs.length = n) (hm : ys.length = m) (hx : Row w A (intsV xs)) (hy : Row w B (intsV ys)) (lx : xs.length ≤ 1000000000) (ly : ys.length ≤ 1000000000) :
    Calls Try.prog 23 #[.slice A n c, .slice B m d] w (Ret w (.bool (decide (xs = ys)))) := by
  subst hn hm
  exact equal_c xs ys A B c d w hx hy lx ly
theorem equalT_n (xs : List Int) (A B : Option Addr) (c d n m : Nat) (w : World) (hn : xs.length = n) (hm : xs.length = m) (hx : Row w A (intsV xs)) (hy : Row w B (intsV xs)) (lx : xs.length ≤ 1000000000) :
    Calls Try.prog 23 #[.slice A n c, .slice B m d] w (Ret w (.bool true)) := by
  have h := equalM_n xs xs A B c d n m w hn hm hx hy lx lx
  rwa [decide_eq_true rfl] at h
theorem more1_c (n : Int) (nb : Nat) (B : Option Addr) (L lc : Nat) (w : World) (hc : w.cell? ⟨nb, 0, none⟩ = some (.slice B L lc)) :
    Calls Try.prog 36 #[.int .i64 n, .pointer (some ⟨nb, 0, none⟩)] w (Ret w (.bool (decide (n < 0) || decide ((L : Int) ≤ n)))) := by
  by_cases h : n < 0
  · have s1 : decide (n < 0) = true := decide_eq_true h
    go_enter Try.func36, Try.ntmps36
    go_wp2_with fail
    go_ret
    exact Ret.mk (by rw [s1]; rfl) (Ex.refl w)
  · have s1 : decide (n < 0) = false := decide_eq_false h
    go_enter Try.func36, Try.ntmps36
    go_wp2_with fail
    go_ret
    exact Ret.mk rfl (Ex.refl w)
theorem enters_m1 : ∀ args w, (callFunc 36 args).run Try.prog w = .ok (.enter 36 args) w := enters_of Try.func36 (by kernel_rfl) rfl
theorem anyM_c (B : Option Addr) (L lc nb : Nat) (F : List Int) (FA : Option Addr) (fc nF : Nat) (w : World) (hnF : F.length = nF) (hF : Row w FA (intsV F)) (hn : F.length ≤ 1000000000) (hb : nb < w.heap.size) (hc : w.cell? ⟨nb, 0, none⟩ = some (.slice B L lc)) :
    Calls Try.prog 25 #[.slice FA nF fc, .func (.func 36) #[] #[.pointer (some ⟨nb, 0, none⟩)]] w (Ret w (.bool (badF2 F L))) := by
  subst hnF
  have h := anyInt_c 36 #[.pointer (some ⟨nb, 0, none⟩)] enters_m1 FA F.length fc (fun j => .int .i64 (F[j]?.getD 0)) (fun j => (fun n => decide (n < 0) || decide ((L : Int) ≤ n)) (F[j]?.getD 0)) w hn
    (fun w' hx j hj => by
      obtain ⟨b, o, e, hb, hcs⟩ := row_at (hF.ex hx) (fun h => by rw [h] at hj; exact absurd hj (Nat.not_lt_zero _))
      refine ⟨b, o, e, hb, hcs j _ ?_⟩
      rw [List.getElem?_eq_getElem hj]
      rfl)
    (fun w' hx j hj => more1_c _ nb B L lc w' ((hx.below.cell hb).trans hc))
  rw [any_range (fun n : Int => decide (n < 0) || decide ((L : Int) ≤ n)) F F.length (Nat.le_refl _) 0, List.take_length] at h
  exact h
/-- After, where nothing is wrong -/
theorem afterG_c (t : List Pr) (A : Option Addr) (c : Nat) (l : List (List Int)) (B : Option Addr) (lc : Nat) (F : List Int) (FA : Option Addr) (fc n : Nat) (w : World) (hT : TcC w A t) (hs : TSm t) (hcap : t.length ≤ c) (hL : LlC w B l) (hls : LSm l) (hF : Row w FA (intsV F)) (hfl : F.length ≤ 1000) (hn : F.length = n) (hv : cpB t l = true) (hb : badF2 F l.length = false) :
    Calls Try.prog 21 #[.agg #[.slice A t.length c], .slice B l.length lc, .slice FA n fc] w (fun e w' => ∃ A1 k1 c1, e = .returned (.tuple #[.slice A1 l.length k1, .int .i64 0]) ∧ IsTop (msgs t) (permF l F) c1 ∧ c1.length = l.length ∧ Row w' A1 (intsV c1) ∧ Ex w w') := by
  subst hn
  refine (pAfter_c t A c l B lc F FA fc w hT hs hcap hL hls hF (by omega)).mono ?_
  rintro e w' (⟨h, -⟩ | ⟨-, h, -⟩ | ⟨-, -, A1, k1, c1, rfl, h1, h2, h3⟩)
  · rw [hv] at h; cases h
  · rw [badF_of hb rfl hfl] at h; cases h
  · exact ⟨A1, k1, c1, rfl, h1, h2.line.1, h2.line.2, h3⟩
theorem lineG_c (t : List Pr) (A : Option Addr) (c : Nat) (l : List (List Int)) (B : Option Addr) (lc : Nat) (w : World) (hT : TcC w A t) (hs : TSm t) (hcap : t.length ≤ c) (hL : LlC w B l) (hls : LSm l) (hv : cpB t l = true) (h10 : t.length ≤ 1000) :
    Calls Try.prog 20 #[.agg #[.slice A t.length c], .slice B l.length lc] w (fun e w' => ∃ A1 k1 c1, e = .returned (.tuple #[.slice A1 l.length k1, .int .i64 0]) ∧ IsTop (msgs t) (permF l (allF t.length)) c1 ∧ c1.length = l.length ∧ Row w' A1 (intsV c1) ∧ Ex w w') := by
  refine (pLineA_c t A c l B lc w hT hs hcap hL hls).mono ?_
  rintro e w' (⟨h, -⟩ | ⟨-, h, -⟩ | ⟨-, -, A1, k1, c1, rfl, h1, h2, h3⟩)
  · rw [hv] at h; cases h
  · rw [all_good hv h10] at h; cases h
  · exact ⟨A1, k1, c1, rfl, h1, h2.line.1, h2.line.2, h3⟩
theorem rollG_c (t : List Pr) (A : Option Addr) (c : Nat) (l : List (List Int)) (B : Option Addr) (lc : Nat) (cs : List Int) (w : World) (hT : TcC w A t) (hs : TSm t) (hcap : t.length ≤ c) (hL : LlC w B l) (hls : LSm l) (hv : cpB t l = true) (h10 : t.length ≤ 1000) (htop : IsTop (msgs t) (permF l (allF t.length)) cs) :
    Calls Try.prog 33 #[.agg #[.slice A t.length c], .slice B l.length lc] w (Ret w (.tuple #[.int .i64 (rbE t cs l.length), .int .i64 (rbK l cs l.length : Nat), .int .i64 0])) := by
  refine (pRollback_c t A c l B lc w hT hs hcap hL hls h10).mono ?_
  rintro e w' (⟨h, -⟩ | ⟨-, c1, h1, rfl, h2⟩)
  · rw [hv] at h; cases h
  · rw [top_eq htop h1]
    exact Ret.mk rfl h2
set_option maxRecDepth 100000 in
set_option maxHeartbeats 6400000 in
theorem more_law (t : List Pr) (A : Option Addr) (c : Nat) (l : List (List Int)) (B : Option Addr) (lc : Nat) (F : List Int) (FA : Option Addr) (fc : Nat) (G : List Int) (GA : Option Addr) (gc : Nat) (w : World) (hT : TcC w A t) (hcap : t.length ≤ c) (hL : LlC w B l) (hF : Row w FA (intsV F)) (hG : Row w GA (intsV G)) (htl : t.length ≤ 281474976710656) (hbig : ∀ x, x ∈ t → x.evs.length ≤ 281474976710656) :
    Calls Try.prog 8 #[.agg #[.slice A t.length c], .slice B l.length lc, .slice FA F.length fc, .slice GA G.length gc] w (Ret w (.bool true)) := by
  have HAw := Lib.hid awake_c
  have HFw := Lib.hid (fun w' (h : Ex w w') => few_c t A c 80 w' (hT.ex h) (by decide) htl hbig)
  have HSh := Lib.hid (fun w' (h : Ex w w') => short_c l B lc w' (hL.ex h))
  obtain ⟨W0, hW0⟩ : ∃ W0, W0 = w.alloc (.cells #[.slice A t.length c] 24) := ⟨_, rfl⟩
  have HX0 : Hid (Ex w W0) := by rw [hW0]; exact (Ex.refl w).alloc _
  have HB0 : Hid (∀ w', Ex W0 w' → Blk w' w.heap.size 24 [.slice A t.length c]) := fun w' hx => by
    have : Blk W0 w.heap.size 24 [.slice A t.length c] := by rw [hW0]; exact Blk.new w _ _
    exact this.ex hx
  have HW0 := Lib.hid hW0
  clear hW0
  cases hfw : fewB t 80 with
  | false =>
    rw [hfw] at HFw
    clear hT hcap hL hF hG htl hbig hfw
    go_enter Try.func8, Try.ntmps8
    go_wp2_with fail
    rw [← HW0.out]
    refine (HAw.out _).mono ?_
    rintro e9 w1 ⟨rfl, hx1⟩
    have HX1 := Lib.hid (hx1)
    clear hx1
    have a0 := (HB0.out _ HX1.out).cell 0
    have al := (HB0.out _ HX1.out).lt
    go_wp2_with fail
    clear a0 al
    refine (HFw.out _ (HX0.out.trans HX1.out)).mono ?_
    rintro e9 w2 ⟨rfl, hx2⟩
    have HX2 := Lib.hid (HX1.out.trans hx2)
    clear hx2
    have a0 := (HB0.out _ HX2.out).cell 0
    have al := (HB0.out _ HX2.out).lt
    go_wp2_with fail
    clear a0 al
    refine (HAw.out _).mono ?_
    rintro e9 w9 ⟨rfl, hx9⟩
    have HX9 := Lib.hid (HX2.out.trans hx9)
    clear hx9
    go_wp2_with fail
    go_ret
    exact Ret.mk rfl (HX0.out.trans HX9.out)
  | true =>
    rw [hfw] at HFw
    obtain ⟨hs, hsum, htl10⟩ := few_small (by decide) hfw
    cases hsh : shortB l with
    | false =>
      rw [hsh] at HSh
      clear hT hcap hL hF hG htl hbig hfw hsh hs htl10 hsum
      go_enter Try.func8, Try.ntmps8
      go_wp2_with fail
      rw [← HW0.out]
      refine (HAw.out _).mono ?_
      rintro e9 w1 ⟨rfl, hx1⟩
      have HX1 := Lib.hid (hx1)
      clear hx1
      have a0 := (HB0.out _ HX1.out).cell 0
      have al := (HB0.out _ HX1.out).lt
      go_wp2_with fail
      clear a0 al
      refine (HFw.out _ (HX0.out.trans HX1.out)).mono ?_
      rintro e9 w2 ⟨rfl, hx2⟩
      have HX2 := Lib.hid (HX1.out.trans hx2)
      clear hx2
      have a0 := (HB0.out _ HX2.out).cell 0
      have al := (HB0.out _ HX2.out).lt
      go_wp2_with fail
      clear a0 al
      refine (HSh.out _ (HX0.out.trans HX2.out)).mono ?_
      rintro e9 w3 ⟨rfl, hx3⟩
      have HX3 := Lib.hid (HX2.out.trans hx3)
      clear hx3
      have a0 := (HB0.out _ HX3.out).cell 0
      have al := (HB0.out _ HX3.out).lt
      go_wp2_with fail
      clear a0 al
      refine (HAw.out _).mono ?_
      rintro e9 w9 ⟨rfl, hx9⟩
      have HX9 := Lib.hid (HX3.out.trans hx9)
      clear hx9
      go_wp2_with fail
      go_ret
      exact Ret.mk rfl (HX0.out.trans HX9.out)
    | true =>
      rw [hsh] at HSh
      have hls := short_small hsh
      by_cases hf20 : 20 < F.length
      · have s20 : decide (20 < (F.length : Int)) = true := decide_eq_true (by omega)
        clear hT hcap hL hF hG htl hbig hfw hsh hs htl10 hsum hls hf20
        go_enter Try.func8, Try.ntmps8
        go_wp2_with fail
        rw [← HW0.out]
        refine (HAw.out _).mono ?_
        rintro e9 w1 ⟨rfl, hx1⟩
        have HX1 := Lib.hid (hx1)
        clear hx1
        have a0 := (HB0.out _ HX1.out).cell 0
        have al := (HB0.out _ HX1.out).lt
        go_wp2_with fail
        clear a0 al
        refine (HFw.out _ (HX0.out.trans HX1.out)).mono ?_
        rintro e9 w2 ⟨rfl, hx2⟩
        have HX2 := Lib.hid (HX1.out.trans hx2)
        clear hx2
        have a0 := (HB0.out _ HX2.out).cell 0
        have al := (HB0.out _ HX2.out).lt
        go_wp2_with fail
        clear a0 al
        refine (HSh.out _ (HX0.out.trans HX2.out)).mono ?_
        rintro e9 w3 ⟨rfl, hx3⟩
        have HX3 := Lib.hid (HX2.out.trans hx3)
        clear hx3
        have a0 := (HB0.out _ HX3.out).cell 0
        have al := (HB0.out _ HX3.out).lt
        go_wp2_with fail
        clear a0 al
        refine (HAw.out _).mono ?_
        rintro e9 w9 ⟨rfl, hx9⟩
        have HX9 := Lib.hid (HX3.out.trans hx9)
        clear hx9
        go_wp2_with fail
        go_ret
        exact Ret.mk rfl (HX0.out.trans HX9.out)
      have s20 : decide (20 < (F.length : Int)) = false := decide_eq_false (by omega)
      by_cases hg20 : 20 < G.length
      · have s21 : decide (20 < (G.length : Int)) = true := decide_eq_true (by omega)
        clear hT hcap hL hF hG htl hbig hfw hsh hs htl10 hsum hls hf20 hg20
        go_enter Try.func8, Try.ntmps8
        go_wp2_with fail
        rw [← HW0.out]
        refine (HAw.out _).mono ?_
        rintro e9 w1 ⟨rfl, hx1⟩
        have HX1 := Lib.hid (hx1)
        clear hx1
        have a0 := (HB0.out _ HX1.out).cell 0
        have al := (HB0.out _ HX1.out).lt
        go_wp2_with fail
        clear a0 al
        refine (HFw.out _ (HX0.out.trans HX1.out)).mono ?_
        rintro e9 w2 ⟨rfl, hx2⟩
        have HX2 := Lib.hid (HX1.out.trans hx2)
        clear hx2
        have a0 := (HB0.out _ HX2.out).cell 0
        have al := (HB0.out _ HX2.out).lt
        go_wp2_with fail
        clear a0 al
        refine (HSh.out _ (HX0.out.trans HX2.out)).mono ?_
        rintro e9 w3 ⟨rfl, hx3⟩
        have HX3 := Lib.hid (HX2.out.trans hx3)
        clear hx3
        have a0 := (HB0.out _ HX3.out).cell 0
        have al := (HB0.out _ HX3.out).lt
        go_wp2_with fail
        clear a0 al
        refine (HAw.out _).mono ?_
        rintro e9 w9 ⟨rfl, hx9⟩
        have HX9 := Lib.hid (HX3.out.trans hx9)
        clear hx9
        go_wp2_with fail
        go_ret
        exact Ret.mk rfl (HX0.out.trans HX9.out)
      have s21 : decide (20 < (G.length : Int)) = false := decide_eq_false (by omega)
      have HV := Lib.hid (fun w' (h : Ex w w') => rCp_c t A c l B lc w' (hT.ex h) hs (hL.ex h) hls)
      cases hv : cpB t l with
      | false =>
        rw [hv] at HV
        clear hT hcap hL hF hG htl hbig hfw hsh hs htl10 hsum hls hf20 hg20
        go_enter Try.func8, Try.ntmps8
        go_wp2_with fail
        rw [← HW0.out]
        refine (HAw.out _).mono ?_
        rintro e9 w1 ⟨rfl, hx1⟩
        have HX1 := Lib.hid (hx1)
        clear hx1
        have a0 := (HB0.out _ HX1.out).cell 0
        have al := (HB0.out _ HX1.out).lt
        go_wp2_with fail
        clear a0 al
        refine (HFw.out _ (HX0.out.trans HX1.out)).mono ?_
        rintro e9 w2 ⟨rfl, hx2⟩
        have HX2 := Lib.hid (HX1.out.trans hx2)
        clear hx2
        have a0 := (HB0.out _ HX2.out).cell 0
        have al := (HB0.out _ HX2.out).lt
        go_wp2_with fail
        clear a0 al
        refine (HSh.out _ (HX0.out.trans HX2.out)).mono ?_
        rintro e9 w3 ⟨rfl, hx3⟩
        have HX3 := Lib.hid (HX2.out.trans hx3)
        clear hx3
        have a0 := (HB0.out _ HX3.out).cell 0
        have al := (HB0.out _ HX3.out).lt
        go_wp2_with fail
        clear a0 al
        refine (HV.out _ (HX0.out.trans HX3.out)).mono ?_
        rintro e9 w4 ⟨rfl, hx4⟩
        have HX4 := Lib.hid (HX3.out.trans hx4)
        clear hx4
        have a0 := (HB0.out _ HX4.out).cell 0
        have al := (HB0.out _ HX4.out).lt
        go_wp2_with fail
        clear a0 al
        refine (HAw.out _).mono ?_
        rintro e9 w9 ⟨rfl, hx9⟩
        have HX9 := Lib.hid (HX4.out.trans hx9)
        clear hx9
        go_wp2_with fail
        go_ret
        exact Ret.mk rfl (HX0.out.trans HX9.out)
      | true =>
        rw [hv] at HV
        have HFr := Lib.hid (fun w' (h : Ex w w') => hF.ex h)
        have HGr := Lib.hid (fun w' (h : Ex w w') => hG.ex h)
        have HFl : Hid (F.length ≤ 100000) := by show F.length ≤ 100000; omega
        have HGl : Hid (G.length ≤ 100000) := by show G.length ≤ 100000; omega
        have HFGl : Hid ((F ++ G).length ≤ 1000000000) := by show (F ++ G).length ≤ 1000000000; rw [List.length_append]; omega
        have HCc := Lib.hid (fun (xs ys : List Int) A1 A2 c1 c2 nb w' (h1 : Row w' A1 (intsV xs)) (h2 : Row w' A2 (intsV ys)) (hb : Blk w' nb 39 [.slice A1 xs.length c1, .slice A2 ys.length c2]) (hl1 : xs.length ≤ 100000) (hl2 : ys.length ≤ 100000) => concat_c xs ys A1 A2 c1 c2 nb w' h1 h2 hb hl1 hl2)
        have HAny := Lib.hid (fun XA xc w' (h : Ex W0 w') (hx : Row w' XA (intsV (F ++ G))) => anyM_c A t.length c w.heap.size (F ++ G) XA xc (F.length + G.length) w' List.length_append hx HFGl.out (HB0.out _ h).lt ((HB0.out _ h).cell 0))
        cases hbd : badF2 (F ++ G) t.length with
        | true =>
          clear hT hcap hL hF hG htl hbig hfw hsh hs htl10 hsum hls hf20 hg20
          go_enter Try.func8, Try.ntmps8
          go_wp2_with fail
          rw [← HW0.out]
          refine (HAw.out _).mono ?_
          rintro e9 w1 ⟨rfl, hx1⟩
          have HX1 := Lib.hid (hx1)
          clear hx1
          have a0 := (HB0.out _ HX1.out).cell 0
          have al := (HB0.out _ HX1.out).lt
          go_wp2_with fail
          clear a0 al
          refine (HFw.out _ (HX0.out.trans HX1.out)).mono ?_
          rintro e9 w2 ⟨rfl, hx2⟩
          have HX2 := Lib.hid (HX1.out.trans hx2)
          clear hx2
          have a0 := (HB0.out _ HX2.out).cell 0
          have al := (HB0.out _ HX2.out).lt
          go_wp2_with fail
          clear a0 al
          refine (HSh.out _ (HX0.out.trans HX2.out)).mono ?_
          rintro e9 w3 ⟨rfl, hx3⟩
          have HX3 := Lib.hid (HX2.out.trans hx3)
          clear hx3
          have a0 := (HB0.out _ HX3.out).cell 0
          have al := (HB0.out _ HX3.out).lt
          go_wp2_with fail
          clear a0 al
          refine (HV.out _ (HX0.out.trans HX3.out)).mono ?_
          rintro e9 w4 ⟨rfl, hx4⟩
          have HX4 := Lib.hid (HX3.out.trans hx4)
          clear hx4
          have a0 := (HB0.out _ HX4.out).cell 0
          have al := (HB0.out _ HX4.out).lt
          go_wp2_with fail
          clear a0 al
          have HBn : Hid (Blk (w4.alloc (.cells #[.slice FA F.length fc, .slice GA G.length gc] 39)) w4.heap.size 39 [.slice FA F.length fc, .slice GA G.length gc]) := Blk.new _ _ _
          have HXn : Hid (Ex w4 (w4.alloc (.cells #[.slice FA F.length fc, .slice GA G.length gc] 39))) := (Ex.refl _).alloc _
          refine (HCc.out F G FA GA fc gc _ _ (HFr.out _ (HX0.out.trans (HX4.out.trans HXn.out))) (HGr.out _ (HX0.out.trans (HX4.out.trans HXn.out))) HBn.out HFl.out HGl.out).mono ?_
          rintro e9 w5 ⟨CA, ck, rfl, hR5, hx5⟩
          have HX5 := Lib.hid (HX4.out.trans (HXn.out.trans hx5))
          clear hx5 HBn HXn
          go_wp2_with fail
          refine (HAny.out CA ck _ HX5.out hR5).mono ?_
          rintro e9 w6 ⟨rfl, hx6⟩
          have HX6 := Lib.hid (HX5.out.trans hx6)
          clear hx6 hR5
          rw [hbd]
          have a0 := (HB0.out _ HX6.out).cell 0
          have al := (HB0.out _ HX6.out).lt
          go_wp2_with fail
          clear a0 al
          refine (HAw.out _).mono ?_
          rintro e9 w9 ⟨rfl, hx9⟩
          have HX9 := Lib.hid (HX6.out.trans hx9)
          clear hx9
          go_wp2_with fail
          go_ret
          exact Ret.mk rfl (HX0.out.trans HX9.out)
        | false =>
          have hlt : l.length = t.length := (cp_of hv).2.1
          have hb1 : badF2 F l.length = false ∧ badF2 G l.length = false := by
            rw [hlt]
            rw [badF2_app, Bool.or_eq_false_iff] at hbd
            exact hbd
          have hb2 : badF2 (G ++ F) l.length = false := by rw [badF2_app, hb1.1, hb1.2]; rfl
          have HA1 := Lib.hid (fun w' (h : Ex w w') => afterG_c t A c l B lc F FA fc F.length w' (hT.ex h) hs hcap (hL.ex h) hls (hF.ex h) (by omega) rfl hv hb1.1)
          have HA2 := Lib.hid (fun XA xc w' (h : Ex w w') (hx : Row w' XA (intsV (G ++ F))) => afterG_c t A c l B lc (G ++ F) XA xc (G.length + F.length) w' (hT.ex h) hs hcap (hL.ex h) hls hx (by rw [List.length_append]; omega) List.length_append hv hb2)
          have HA4 := Lib.hid (fun w' (h : Ex w w') => afterG_c t A c l B lc [] none 0 0 w' (hT.ex h) hs hcap (hL.ex h) hls (.inl rfl) (by simp) rfl hv rfl)
          have HLn := Lib.hid (fun w' (h : Ex w w') => lineG_c t A c l B lc w' (hT.ex h) hs hcap (hL.ex h) hls hv (by omega))
          have HRb := Lib.hid (fun cs w' (h : Ex w w') (ht : IsTop (msgs t) (permF l (allF t.length)) cs) => rollG_c t A c l B lc cs w' (hT.ex h) hs hcap (hL.ex h) hls hv (by omega) ht)
          have HLq := Lib.hid (fun (xs ys : List Int) A1 A2 c1 c2 w' (h1 : Row w' A1 (intsV xs)) (h2 : Row w' A2 (intsV ys)) (e1 : xs.length = l.length) (e2 : ys.length = l.length) (hg : Geq ys xs) => leq_c xs ys A1 A2 c1 c2 l.length w' e1 e2 h1 h2 hg (by omega))
          have HLe := Lib.hid (fun w' (h : Ex w w') => lens_c t A c w' (hT.ex h) hs)
          have HEq := Lib.hid (fun (xs : List Int) A1 A2 c1 c2 w' (h1 : Row w' A1 (intsV xs)) (h2 : Row w' A2 (intsV xs)) (e1 : xs.length = l.length) => equalT_n xs A1 A2 c1 c2 l.length t.length w' e1 (e1.trans hlt) h1 h2 (by omega))
          have HGe1 := Lib.hid (fun (a b : List Int) (ha : IsTop (msgs t) (permF l F) a) (hb : IsTop (msgs t) (permF l (G ++ F)) b) => more_geq (fun x hx => List.mem_append_right _ hx) ha hb)
          have HGe2 := Lib.hid (fun (b cc : List Int) (hb : IsTop (msgs t) (permF l (G ++ F)) b) (hc : IsTop (msgs t) (permF l (allF t.length)) cc) => more_geq (in_all (F := G ++ F) (n := t.length) (by rw [← hlt]; exact hb2) rfl) hb hc)
          have HNo := Lib.hid (fun (a : List Int) (ha : IsTop (msgs t) (permF l []) a) => top_eq ha (lens_top hv))
          have hcp := (cp_of hv).2
          have HTi := Lib.hid (fun (cs : List Int) (h : IsLine (msgs t) (permF l (allF t.length)) cs) => top_inn hcp h)
          have HEb := Lib.hid (fun (cs : List Int) (hi : Inn t cs) n (h : n ≤ cs.length) => rbE_le hs hi n h)
          have HKb := Lib.hid (fun (cs : List Int) n => rbK_le (c := cs) hls n)
          have HEl : Hid (∀ (p : Nat) (x : Pr), t[p]? = some x → x.evs.length ≤ 100000) := fun p x hx => (hs.each x (List.mem_of_getElem? hx)).2.2.1
          have HAsc := Lib.hid (cp_asc hcp)
          have HRl : Hid (∀ (p : Nat) (r : List Int), l[p]? = some r → r.length ≤ 100000) := fun p r hr => hls.each r (List.mem_of_getElem? hr)
          have HT : Hid (∀ w', Ex w w' → TcC w' A t) := fun w' hx => hT.ex hx
          have HL : Hid (∀ w', Ex w w' → LlC w' B l) := fun w' hx => hL.ex hx
          have hll := hls.rows
          have hlle : l.length ≤ t.length := Nat.le_of_eq hlt
          have HLt := Lib.hid hlt
          clear hT hcap hL hF hG htl hbig hfw hsh hs htl10 hsum hls hf20 hg20 hb1 hb2 hcp hlt hv
          go_enter Try.func8, Try.ntmps8
          go_wp2_with fail
          rw [← HW0.out]
          refine (HAw.out _).mono ?_
          rintro e9 w1 ⟨rfl, hx1⟩
          have HX1 := Lib.hid (hx1)
          clear hx1
          have a0 := (HB0.out _ HX1.out).cell 0
          have al := (HB0.out _ HX1.out).lt
          go_wp2_with fail
          clear a0 al
          refine (HFw.out _ (HX0.out.trans HX1.out)).mono ?_
          rintro e9 w2 ⟨rfl, hx2⟩
          have HX2 := Lib.hid (HX1.out.trans hx2)
          clear hx2
          have a0 := (HB0.out _ HX2.out).cell 0
          have al := (HB0.out _ HX2.out).lt
          go_wp2_with fail
          clear a0 al
          refine (HSh.out _ (HX0.out.trans HX2.out)).mono ?_
          rintro e9 w3 ⟨rfl, hx3⟩
          have HX3 := Lib.hid (HX2.out.trans hx3)
          clear hx3
          have a0 := (HB0.out _ HX3.out).cell 0
          have al := (HB0.out _ HX3.out).lt
          go_wp2_with fail
          clear a0 al
          refine (HV.out _ (HX0.out.trans HX3.out)).mono ?_
          rintro e9 w4 ⟨rfl, hx4⟩
          have HX4 := Lib.hid (HX3.out.trans hx4)
          clear hx4
          have a0 := (HB0.out _ HX4.out).cell 0
          have al := (HB0.out _ HX4.out).lt
          go_wp2_with fail
          clear a0 al
          have HBn : Hid (Blk (w4.alloc (.cells #[.slice FA F.length fc, .slice GA G.length gc] 39)) w4.heap.size 39 [.slice FA F.length fc, .slice GA G.length gc]) := Blk.new _ _ _
          have HXn : Hid (Ex w4 (w4.alloc (.cells #[.slice FA F.length fc, .slice GA G.length gc] 39))) := (Ex.refl _).alloc _
          refine (HCc.out F G FA GA fc gc _ _ (HFr.out _ (HX0.out.trans (HX4.out.trans HXn.out))) (HGr.out _ (HX0.out.trans (HX4.out.trans HXn.out))) HBn.out HFl.out HGl.out).mono ?_
          rintro e9 w5 ⟨CA, ck, rfl, hR5, hx5⟩
          have HX5 := Lib.hid (HX4.out.trans (HXn.out.trans hx5))
          clear hx5 HBn HXn
          go_wp2_with fail
          refine (HAny.out CA ck _ HX5.out hR5).mono ?_
          rintro e9 w6 ⟨rfl, hx6⟩
          have HX6 := Lib.hid (HX5.out.trans hx6)
          clear hx6 hR5
          rw [hbd]
          have a0 := (HB0.out _ HX6.out).cell 0
          have al := (HB0.out _ HX6.out).lt
          go_wp2_with fail
          clear a0 al
          refine (HA1.out _ (HX0.out.trans HX6.out)).mono ?_
          rintro e9 w7 ⟨aA, ak, a, rfl, ht7, hl7, hr7, hx7⟩
          have HX7 := Lib.hid (HX6.out.trans hx7)
          have HR7 : Hid (∀ w', Ex w7 w' → Row w' aA (intsV a)) := fun w' h => hr7.ex h
          have HT7 := Lib.hid ht7
          have HL7 := Lib.hid hl7
          clear hx7 hr7 ht7 hl7
          have a0 := (HB0.out _ HX7.out).cell 0
          have al := (HB0.out _ HX7.out).lt
          go_wp2_with fail
          go_region_held3 (fun (w' : World) => w'.cell? ⟨w.heap.size, 0, none⟩ = some (.slice A t.length c))
            (first | exact a0 | exact p0 | exact p1 | go_keep)
            (first | (go_at_call 35; refine (HCc.out G F GA FA gc fc w7.heap.size _ (HGr.out _ (by repeat (first | exact HX0.out.trans HX7.out | apply Ex.drew | apply Ex.alloc))) (HFr.out _ (by repeat (first | exact HX0.out.trans HX7.out | apply Ex.drew | apply Ex.alloc))) (by repeat (first | exact Blk.new _ _ _ | apply Blk.drew)) HGl.out HFl.out).mono ?_; rintro e9 w8 ⟨CA2, ck2, rfl, hR8, hx8⟩; have hE8 : Ex w7 w8 := Ex.trans (by repeat (first | exact Ex.refl _ | apply Ex.drew | apply Ex.alloc)) hx8; have p0 := (HB0.out _ (HX7.out.trans hE8)).cell 0) | (go_at_call 21; refine (HA2.out CA2 ck2 _ (by repeat (first | exact HX0.out.trans (HX7.out.trans hE8) | apply Ex.drew | apply Ex.alloc)) (hR8.ex (by repeat (first | exact Ex.refl _ | apply Ex.drew)))).mono ?_; rintro e9 w9 ⟨bA, bk, b, rfl, ht9, hl9, hr9, hx9⟩; have hE9 : Ex w7 w9 := hE8.trans (Ex.trans (by repeat (first | exact Ex.refl _ | apply Ex.drew)) hx9); have p1 := (HB0.out _ (HX7.out.trans hE9)).cell 0))
          have HX9 := Lib.hid (HX7.out.trans hE9)
          have HY9 := Lib.hid hE9
          have HR9 : Hid (∀ w', Ex w9 w' → Row w' bA (intsV b)) := fun w' h => hr9.ex h
          have HT9 := Lib.hid ht9
          have HL9 := Lib.hid hl9
          clear hx8 hR8 hE8 p0 p1 hx9 ht9 hl9 hr9 hE9 a0 al
          have a0 := (HB0.out _ HX9.out).cell 0
          have al := (HB0.out _ HX9.out).lt
          go_wp2_with fail
          clear a0 al
          refine (HLn.out _ (HX0.out.trans HX9.out)).mono ?_
          rintro e9 w10 ⟨cA, ck3, cs, rfl, ht10, hl10, hr10, hx10⟩
          have HX10 := Lib.hid (HX9.out.trans hx10)
          have HY10 := Lib.hid hx10
          have HR10 : Hid (∀ w', Ex w10 w' → Row w' cA (intsV cs)) := fun w' h => hr10.ex h
          have HT10 := Lib.hid ht10
          have HL10 := Lib.hid hl10
          clear hx10 ht10 hl10 hr10
          have a0 := (HB0.out _ HX10.out).cell 0
          have al := (HB0.out _ HX10.out).lt
          go_wp2_with fail
          clear a0 al
          refine (HA4.out _ (HX0.out.trans HX10.out)).mono ?_
          rintro e9 w11 ⟨nA, nk, ns, rfl, ht11, hl11, hr11, hx11⟩
          have HX11 := Lib.hid (HX10.out.trans hx11)
          have HY11 := Lib.hid hx11
          have hns := HNo.out ns ht11
          subst hns
          have HR11 : Hid (∀ w', Ex w11 w' → Row w' nA (intsV (lensL t))) := fun w' h => hr11.ex h
          have HL11 := Lib.hid hl11
          clear hx11 ht11 hl11 hr11
          have a0 := (HB0.out _ HX11.out).cell 0
          have al := (HB0.out _ HX11.out).lt
          go_wp2_with fail
          clear a0 al
          refine (HRb.out cs _ (HX0.out.trans HX11.out) HT10.out).mono ?_
          rintro e9 w12 ⟨rfl, hx12⟩
          have HX12 := Lib.hid (HX11.out.trans hx12)
          have HY12 := Lib.hid hx12
          clear hx12
          have a0 := (HB0.out _ HX12.out).cell 0
          have al := (HB0.out _ HX12.out).lt
          go_wp2_with fail
          refine (HLq.out b a bA aA bk ak _ (HR9.out _ (HY10.out.trans (HY11.out.trans HY12.out))) (HR7.out _ (HY9.out.trans (HY10.out.trans (HY11.out.trans HY12.out)))) HL9.out HL7.out (HGe1.out a b HT7.out HT9.out)).mono ?_
          rintro e9 w13 ⟨rfl, hx13⟩
          have HX13 := Lib.hid (HX12.out.trans hx13)
          have HY13 := Lib.hid (HY12.out.trans hx13)
          clear hx13 a0 al
          have a0 := (HB0.out _ HX13.out).cell 0
          have al := (HB0.out _ HX13.out).lt
          go_wp2_with fail
          refine (HLq.out cs b cA bA ck3 bk _ (HR10.out _ (HY11.out.trans HY13.out)) (HR9.out _ (HY10.out.trans (HY11.out.trans HY13.out))) HL10.out HL9.out (HGe2.out b cs HT9.out HT10.out)).mono ?_
          rintro e9 w14 ⟨rfl, hx14⟩
          have HX14 := Lib.hid (HX13.out.trans hx14)
          have HY14 := Lib.hid (HY13.out.trans hx14)
          clear hx14 a0 al
          have a0 := (HB0.out _ HX14.out).cell 0
          have al := (HB0.out _ HX14.out).lt
          go_wp2_with fail
          refine (HLe.out _ (HX0.out.trans HX14.out)).mono ?_
          rintro e9 w15 ⟨LA, lk, rfl, hO15, hx15⟩
          have HX15 := Lib.hid (HX14.out.trans hx15)
          have HY15 := Lib.hid (HY14.out.trans hx15)
          have HR15 := Lib.hid hO15.row
          clear hx15 hO15 a0 al
          go_wp2_with fail
          refine (HEq.out (lensL t) nA LA nk lk _ (HR11.out _ HY15.out) HR15.out HL11.out).mono ?_
          rintro e9 w16 ⟨rfl, hx16⟩
          have HX16 := Lib.hid (HX15.out.trans hx16)
          have HR16 : Hid (∀ w', Ex w16 w' → Row w' cA (intsV cs)) := fun w' h => HR10.out _ (HY11.out.trans (HY15.out.trans (hx16.trans h)))
          have HIn := Lib.hid (HTi.out cs HT10.out.line)
          have HE := Lib.hid (HEb.out cs HIn.out)
          have HK := Lib.hid (HKb.out cs)
          have hcl : l.length ≤ cs.length := Nat.le_of_eq HL10.out.symm
          have hEL := HE.out l.length hcl
          have hKL := HK.out l.length
          clear hx16 HR7 HR9 HR10 HR11 HR15 HY9 HY10 HY11 HY12 HY13 HY14 HY15 HX7 HX9 HX10 HX11 HX12 HX13 HX14 HX15 HT7 HT9 HL7 HL9 HL11
          go_wp2_with fail
          generalize hEe : rbE t cs l.length = Et at *
          generalize hKe : rbK l cs l.length = Kt at *
          have HEe := Lib.hid hEe
          have HKe := Lib.hid hKe
          clear hEe hKe
          go_loopw [17, 18, 142] (fun nv kv q wr => ∃ (p : Nat) (z y : Int), q = .int .i64 p ∧ p ≤ l.length ∧ nv = .int .i64 z ∧ kv = .int .i64 y ∧ Hid (z = Et - rbE t cs p ∧ y = (Kt : Int) - (rbK l cs p : Nat) ∧ Ex w16 wr)) (fun _ _ q _ => l.length - (intOf q).toNat)
          case atStart => exact ⟨0, Et, (Kt : Int), rfl, Nat.zero_le _, rfl, rfl, Lib.hid ⟨by simp [rbE], by simp [rbK], Ex.refl _⟩⟩
          case round =>
            obtain ⟨p, z, y, rfl, hp, rfl, rfl, HH⟩ := hrel
            by_cases hpl : p < l.length
            · have m0 : (0 : Int) ≤ (p : Int) := by omega
              have m1 : (p : Int) < (l.length : Int) := by omega
              have m2 : (p : Int) < (t.length : Int) := by omega
              obtain ⟨x, hx⟩ := get_at (show p < t.length by omega)
              obtain ⟨r, hr⟩ := get_at hpl
              obtain ⟨a', ha⟩ := get_at (show p < cs.length by omega)
              have hel := HEl.out p x hx
              have hrl := HRl.out p r hr
              have hrp := asc_pos (HAsc.out p r hr)
              have hev := evN_at hx
              have hia := HIn.out p a' ha
              rw [hev] at hia
              have hE1 := HE.out p (by omega)
              have hK1 := HK.out p
              have HNe : Hid (rbE t cs (p + 1) = rbE t cs p + ((x.evs.length : Int) - a')) := by
                show Hid (rbE t cs p + ((evN t p : Int) - cs.getD p 0) = _)
                rw [getD_at ha, hev]
                exact Lib.hid rfl
              have HNk : Hid (rbK l cs (p + 1) = rbK l cs p + (stored r).countP (fun k => decide (a' < k))) := by
                show Hid (rbK l cs p + (stored (l.getD p [])).countP (fun k => decide (cs.getD p 0 < k)) = _)
                rw [getD_at ha, List.getD_eq_getElem?_getD, hr]
                exact Lib.hid rfl
              obtain ⟨hz, hy, hxx⟩ := HH.out
              have HHx := Lib.hid hxx
              have hXw := HX0.out.trans (HX16.out.trans hxx)
              obtain ⟨b', o, hA, hbl, V, vc, E, ec, k0, k1, k2, -, -⟩ := HT.out _ hXw p x hx
              subst hA
              obtain ⟨bb, oo, hBB, hbb, A7, c7, r0, hc7, hrow⟩ := HL.out _ hXw p r hr
              subst hBB
              obtain ⟨bc, oc, hCC, hbc, hcs⟩ := row_at (HR16.out _ hxx) (fun h => by rw [h] at ha; simp at ha)
              subst hCC
              have d0 := hcs p a' ha
              have x0 := (HB0.out _ (HX16.out.trans hxx)).cell 0
              have xl := (HB0.out _ (HX16.out.trans hxx)).lt
              have HSt := Lib.hid (fun w' => rStored_c r A7 c7 w' (fun h => by rw [h] at hrp; exact absurd hrp (Nat.lt_irrefl _)) hc7 hrl)
              have HRow2 := Lib.hid (row_stored hrow)
              have hsl : (stored r).length ≤ 100000 := by unfold stored; rw [List.length_take]; omega
              have HCa : Hid (∀ w', Ex w16 w' → w'.cell? ⟨bc, oc + p, none⟩ = some (.int .i64 a') ∧ bc < w'.heap.size) := fun w' h => by
                obtain ⟨b9, o9, h9, hb9, hcs9⟩ := row_at (HR16.out _ h) (fun h => by rw [h] at ha; simp at ha)
                cases h9
                exact ⟨hcs9 p a' ha, hb9⟩
              generalize rbE t cs p = Ev at *
              generalize rbK l cs p = Kv at *
              have wE1 : IntKind.i64.wrap ((x.evs.length : Int) - a') = (x.evs.length : Int) - a' := IntWalk.i64_in _ (by omega)
              have wE2 : IntKind.i64.wrap (z - ((x.evs.length : Int) - a')) = z - ((x.evs.length : Int) - a') := IntWalk.i64_in _ (by omega)
              have hyb : -100000000000 ≤ y ∧ y ≤ 100000000000 := by omega
              have HZ := Lib.hid (And.intro hz hy)
              clear hx hr ha hcs hrow k0 k1 hev hXw hxx hz hy hE1 hK1 hEL hKL HH
              go_wp2_with fail
              go_quiet (fail)
              go_wp2_with fail
              refine (HSt.out _).mono ?_
              rintro e9 w2 ⟨rfl, hx2⟩
              have HX2 := Lib.hid (HHx.out.trans (((Ex.refl _).drewN _).trans hx2))
              have HRow3 := Lib.hid (HRow2.out.ex (((Ex.refl _).drewN _).trans hx2))
              clear hx2 d0 x0 xl r0 hbb k2 hbl hbc wE1 wE2
              generalize stored r = sr at *
              go_wp2_with fail
              go_loopw [18, 165] (fun kv q w3 => ∃ (i : Nat) (y' : Int), q = .int .i64 i ∧ i ≤ sr.length ∧ kv = .int .i64 y' ∧ Hid (y' = y - ((sr.take i).countP (fun k => decide (a' < k)) : Nat) ∧ Ex w2 w3)) (fun _ q _ => sr.length - (intOf q).toNat)
              case atStart => exact ⟨0, y, rfl, Nat.zero_le _, rfl, Lib.hid ⟨by simp, Ex.refl _⟩⟩
              case round =>
                obtain ⟨i, y', rfl, hi, rfl, HJ⟩ := hrel
                by_cases hil : i < sr.length
                · have n0 : (0 : Int) ≤ (i : Int) := by omega
                  have n1 : (i : Int) < (sr.length : Int) := by omega
                  obtain ⟨k, hk⟩ := get_at hil
                  obtain ⟨bs, os, hA7, hbs, hss⟩ := row_at (HRow3.out.ex HJ.out.2) (fun h => by rw [h] at hil; exact absurd hil (Nat.not_lt_zero _))
                  subst hA7
                  have d1 := hss i k hk
                  obtain ⟨d0, hbc⟩ := HCa.out _ (HX2.out.trans HJ.out.2)
                  have HTk := Lib.hid (take_snoc hk)
                  have hcl2 : (sr.take i).countP (fun k => decide (a' < k)) ≤ 100000 := Nat.le_trans List.countP_le_length (by rw [List.length_take]; omega)
                  have hy' := HJ.out.1
                  clear hss hk
                  by_cases h1 : a' < k
                  · have s1 : decide (a' < k) = true := decide_eq_true h1
                    have HN : Hid (y' - 1 = y - ((sr.take (i + 1)).countP (fun k => decide (a' < k)) : Nat)) := by
                      rw [HTk.out, List.countP_append, hy']
                      exact Lib.hid (by simp [s1]; omega)
                    have wK : IntKind.i64.wrap (y' - 1) = y' - 1 := IntWalk.i64_in _ (by omega)
                    clear h1 hy' hcl2
                    go_wp2_with fail
                    refine ⟨⟨i + 1, y' - 1, by go_num, by omega, rfl, Lib.hid ⟨HN.out, HJ.out.2⟩⟩, by simp [intOf]; omega⟩
                  · have s1 : decide (a' < k) = false := decide_eq_false h1
                    have HN : Hid (y' = y - ((sr.take (i + 1)).countP (fun k => decide (a' < k)) : Nat)) := by
                      rw [HTk.out, List.countP_append, hy']
                      exact Lib.hid (by simp [s1])
                    clear h1 hy' hcl2
                    go_wp2_with fail
                    refine ⟨⟨i + 1, y', by go_num, by omega, rfl, Lib.hid ⟨HN.out, HJ.out.2⟩⟩, by simp [intOf]; omega⟩
                · obtain rfl : i = sr.length := by omega
                  have s1 : decide ((sr.length : Int) < (sr.length : Int)) = false := decide_eq_false (by omega)
                  have HN : Hid (y' = y - (sr.countP (fun k => decide (a' < k)) : Nat)) := by
                    have h := HJ.out.1
                    rw [List.take_length] at h
                    exact Lib.hid h
                  go_wp2_with fail
                  refine ⟨⟨p + 1, z - ((x.evs.length : Int) - a'), y', by go_num, by omega, rfl, rfl, Lib.hid ⟨by rw [HNe.out, HZ.out.1]; omega, by rw [HNk.out, HN.out, HZ.out.2]; omega, HX2.out.trans HJ.out.2⟩⟩, by simp [intOf]; omega⟩
            · obtain rfl : p = l.length := by omega
              have s1 : decide ((l.length : Int) < (l.length : Int)) = false := decide_eq_false (by omega)
              obtain ⟨hz, hy, hxx⟩ := HH.out
              rw [HEe.out] at hz
              rw [HKe.out] at hy
              obtain rfl : z = 0 := by omega
              obtain rfl : y = 0 := by omega
              have HEn := Lib.hid (HX0.out.trans (HX16.out.trans hxx))
              clear hz hy hxx HH hEL hKL
              go_wp2_with fail
              go_ret
              exact Ret.mk rfl HEn.out
end Go.Proofs.Ytdenojfbdkdpiaa
