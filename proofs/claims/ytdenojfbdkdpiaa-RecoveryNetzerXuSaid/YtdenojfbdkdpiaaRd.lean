/-
  The law RecoveryPairs, walked.
  Conditions: as each theorem says.
-/
import Derived.Test.YtdenojfbdkdpiaaRc
namespace Go.Proofs.Ytdenojfbdkdpiaa
open Go.RowKit Go.Shelf
theorem enters_p1 : ∀ args w, (callFunc 19 args).run Try.prog w = .ok (.enter 19 args) w := enters_of Try.func19 (by kernel_rfl) rfl
/-- the two checkpoints in turn -/
def selP (x y : Nat × Nat) (k : Nat) : Nat × Nat := if k = 0 then x else y
/-- what is found of the paths so far -/
noncomputable def accB (l : List (List Int)) (M : List Msg) (x y : Nat × Nat) (m : Nat) : Bool := ([(x, x), (x, y), (y, x), (y, y)].take m).any fun q => zzB l M q.1 q.2
theorem acc_step (l : List (List Int)) (M : List Msg) (x y : Nat × Nat) {k j : Nat} (hk : k < 2) (hj : j < 2) : accB l M x y (2 * k + (j + 1)) = (accB l M x y (2 * k + j) || zzB l M (selP x y k) (selP x y j)) := by
  rcases (show k = 0 ∨ k = 1 by omega) with rfl | rfl <;> rcases (show j = 0 ∨ j = 1 by omega) with rfl | rfl <;> simp [accB, selP, Bool.or_assoc]
theorem selP_cells (x y : Nat × Nat) {k : Nat} (hk : k < 2) : (idCs [x, y])[k * 2]? = some (.int .i64 ((selP x y k).1 : Nat)) ∧ (idCs [x, y])[k * 2 + 1]? = some (.int .i64 ((selP x y k).2 : Nat)) := by
  rcases (show k = 0 ∨ k = 1 by omega) with rfl | rfl <;> simp [idCs, selP]
theorem ck_of {l : List (List Int)} {p : Nat × Nat} (h : CkP l p) : ckB l (p.1 : Nat) (p.2 : Nat) = true := by
  have h1 := h.1
  have h2 := h.2.1
  have h3 := h.2.2
  unfold ckB
  simp only [Bool.and_eq_true, decide_eq_true_eq, Int.toNat_natCast]
  omega
theorem selP_ck {l : List (List Int)} {x y : Nat × Nat} (hx : CkP l x) (hy : CkP l y) (k : Nat) : CkP l (selP x y k) := by
  unfold selP
  split
  · exact hx
  · exact hy
theorem zigT_c (t : List Pr) (A : Option Addr) (c : Nat) (l : List (List Int)) (B : Option Addr) (lc : Nat) (p q : Nat × Nat) (w : World) (hT : TcC w A t) (hs : TSm t) (hcap : t.length ≤ c) (hL : LlC w B l) (hls : LSm l) (hv : cpB t l = true) (hp : CkP l p) (hq : CkP l q) :
    Calls Try.prog 13 #[.agg #[.slice A t.length c], .slice B l.length lc, .agg #[.int .i64 (p.1 : Nat), .int .i64 (p.2 : Nat)], .agg #[.int .i64 (q.1 : Nat), .int .i64 (q.2 : Nat)]] w (Ret w (.tuple #[.bool (zzB l (msgs t) p q), .int .i64 0])) := by
  have h := pZigzag_c t A c l B lc (p.1 : Nat) (p.2 : Nat) (q.1 : Nat) (q.2 : Nat) w hT hs hcap hL hls
  unfold zigO at h
  rw [if_neg (by rw [hv]; simp), if_neg (by rw [ck_of hp, ck_of hq]; simp)] at h
  exact h
theorem pairLines_c (t : List Pr) (A : Option Addr) (c : Nat) (l : List (List Int)) (B : Option Addr) (lc : Nat) (x y : Nat × Nat) (nx nl ny : Nat) (w : World) (hT : TcC w A t) (hs : TSm t) (hv : cpB t l = true) (hL : LlC w B l) (hls : LSm l) (hx : CkP l x) (hy : CkP l y) (bx : Blk w nx 27 [.int .i64 (x.1 : Nat), .int .i64 (x.2 : Nat)]) (bl : Blk w nl 25 [.slice B l.length lc]) (by' : Blk w ny 27 [.int .i64 (y.1 : Nat), .int .i64 (y.2 : Nat)]) :
    Calls Try.prog 18 #[.agg #[.slice A t.length c], .slice B l.length lc, .func (.func 19) #[] #[.pointer (some ⟨w.heap.size, 0, none⟩), .pointer (some ⟨nx, 0, none⟩), .pointer (some ⟨nl, 0, none⟩), .pointer (some ⟨ny, 0, none⟩)]] (w.alloc (.cells #[.bool false] 4)) (fun e w' => e = .returned (.tuple #[]) ∧ Blk w' w.heap.size 4 [.bool (((prodL l).filter (conB t)).any (togB l x y))] ∧ Ex w w') := by
  refine (lines_c (N := 19) (caps := #[.pointer (some ⟨w.heap.size, 0, none⟩), .pointer (some ⟨nx, 0, none⟩), .pointer (some ⟨nl, 0, none⟩), .pointer (some ⟨ny, 0, none⟩)]) enters_p1 t A c l B lc (fun vs w' => Blk w' w.heap.size 4 [.bool (vs.any (togB l x y))]) w _ hT hs hv hL hls ((Ex.refl _).alloc _) (Blk.new _ _ _) ?_ ?_).mono ?_
  · intro vs X Y h hb
    exact (hb.block _ (by simp)).trans h
  · intro vs cs Ac cc w' hJ hX hC hcl _ _
    refine (pairF_c l B lc x y cs Ac cc w.heap.size nx nl ny (vs.any (togB l x y)) w' (hL.ex hX) hls (by omega) hC hx hy hJ (bx.ex hX) (bl.ex hX) (by'.ex hX)).mono ?_
    rintro e w'' ⟨rfl, rfl⟩
    refine ⟨rfl, ?_, ⟨?_, ?_, ?_⟩⟩
    · have h := (hJ.drew).set_ 0 (.bool (vs.any (togB l x y) || togB l x y cs))
      rw [List.any_append]
      simpa using h
    · simp
    · intro k hk _
      exact (Below.heap_setCell w'.drew ⟨w.heap.size, 0, none⟩ _ k (by simp at hk; show k ≠ w.heap.size; omega)).trans rfl
    · intro h
      exact h.drew.setCell (p := ⟨w.heap.size, 0, none⟩) (Nat.le_refl _) _
  · rintro e w' ⟨rfl, hJ, hx, -⟩
    exact ⟨rfl, hJ, hx⟩
set_option maxRecDepth 100000 in
set_option maxHeartbeats 6400000 in
theorem pairs_law (t : List Pr) (A : Option Addr) (c : Nat) (l : List (List Int)) (B : Option Addr) (lc : Nat) (xp xi yp yi : Int) (w : World) (hT : TcC w A t) (hcap : t.length ≤ c) (hL : LlC w B l) (htl : t.length ≤ 281474976710656) (hbig : ∀ x, x ∈ t → x.evs.length ≤ 281474976710656) :
    Calls Try.prog 4 #[.agg #[.slice A t.length c], .slice B l.length lc, .agg #[.int .i64 xp, .int .i64 xi], .agg #[.int .i64 yp, .int .i64 yi]] w (Ret w (.bool true)) := by
  have HAw := Lib.hid awake_c
  have HFw := Lib.hid (fun w' (h : Ex w w') => few_c t A c 14 w' (hT.ex h) (by decide) htl hbig)
  have HSh := Lib.hid (fun w' (h : Ex w w') => short_c l B lc w' (hL.ex h))
  have HKx := Lib.hid (fun w' (h : Ex w w') => rCheckpoint_c l B lc xp xi w' (hL.ex h))
  have HKy := Lib.hid (fun w' (h : Ex w w') => rCheckpoint_c l B lc yp yi w' (hL.ex h))
  obtain ⟨W0, hW0⟩ : ∃ W0, W0 = (((w.alloc (.cells #[.slice A t.length c] 24)).alloc (.cells #[.slice B l.length lc] 25)).alloc (.cells #[.int .i64 xp, .int .i64 xi] 27)).alloc (.cells #[.int .i64 yp, .int .i64 yi] 27) := ⟨_, rfl⟩
  have HX0 : Hid (Ex w W0) := by rw [hW0]; exact ((((Ex.refl w).alloc _).alloc _).alloc _).alloc _
  have HB0 : Hid (∀ w', Ex W0 w' → Blk w' w.heap.size 24 [.slice A t.length c]) := fun w' hx => by
    have : Blk W0 w.heap.size 24 [.slice A t.length c] := by rw [hW0]; exact (((Blk.new w _ _).alloc _).alloc _).alloc _
    exact this.ex hx
  have HB1 : Hid (∀ w', Ex W0 w' → Blk w' (w.heap.size + 1) 25 [.slice B l.length lc]) := fun w' hx => by
    have : Blk W0 (w.heap.size + 1) 25 [.slice B l.length lc] := by
      rw [hW0, show w.heap.size + 1 = (w.alloc (.cells #[.slice A t.length c] 24)).heap.size by simp]
      exact ((Blk.new _ _ _).alloc _).alloc _
    exact this.ex hx
  have HB2 : Hid (∀ w', Ex W0 w' → Blk w' (w.heap.size + 1 + 1) 27 [.int .i64 xp, .int .i64 xi]) := fun w' hx => by
    have : Blk W0 (w.heap.size + 1 + 1) 27 [.int .i64 xp, .int .i64 xi] := by
      rw [hW0, show w.heap.size + 1 + 1 = ((w.alloc (.cells #[.slice A t.length c] 24)).alloc (.cells #[.slice B l.length lc] 25)).heap.size by simp]
      exact (Blk.new _ _ _).alloc _
    exact this.ex hx
  have HB3 : Hid (∀ w', Ex W0 w' → Blk w' (w.heap.size + 1 + 1 + 1) 27 [.int .i64 yp, .int .i64 yi]) := fun w' hx => by
    have : Blk W0 (w.heap.size + 1 + 1 + 1) 27 [.int .i64 yp, .int .i64 yi] := by
      rw [hW0, show w.heap.size + 1 + 1 + 1 = (((w.alloc (.cells #[.slice A t.length c] 24)).alloc (.cells #[.slice B l.length lc] 25)).alloc (.cells #[.int .i64 xp, .int .i64 xi] 27)).heap.size by simp]
      exact Blk.new _ _ _
    exact this.ex hx
  have HW0 := Lib.hid hW0
  clear hW0
  cases hfw : fewB t 14 with
  | false =>
    rw [hfw] at HFw
    clear hT hcap hL htl hbig hfw
    go_enter Try.func4, Try.ntmps4
    go_wp2_with fail
    rw [← HW0.out]
    refine (HAw.out _).mono ?_
    rintro e9 w1 ⟨rfl, hx1⟩
    have HX1 := Lib.hid (hx1)
    clear hx1
    have a0 := (HB0.out _ HX1.out).cell 0
    have al := (HB0.out _ HX1.out).lt
    have l0 := (HB1.out _ HX1.out).cell 0
    have ll := (HB1.out _ HX1.out).lt
    have x0 := (HB2.out _ HX1.out).cell 0
    have x1 := (HB2.out _ HX1.out).cell 1
    have xl := (HB2.out _ HX1.out).lt
    have y0 := (HB3.out _ HX1.out).cell 0
    have y1 := (HB3.out _ HX1.out).cell 1
    have yl := (HB3.out _ HX1.out).lt
    go_wp2_with fail
    clear a0 al l0 ll x0 x1 xl y0 y1 yl
    refine (HFw.out _ (HX0.out.trans HX1.out)).mono ?_
    rintro e9 w2 ⟨rfl, hx2⟩
    have HX2 := Lib.hid (HX1.out.trans hx2)
    clear hx2
    have a0 := (HB0.out _ HX2.out).cell 0
    have al := (HB0.out _ HX2.out).lt
    have l0 := (HB1.out _ HX2.out).cell 0
    have ll := (HB1.out _ HX2.out).lt
    have x0 := (HB2.out _ HX2.out).cell 0
    have x1 := (HB2.out _ HX2.out).cell 1
    have xl := (HB2.out _ HX2.out).lt
    have y0 := (HB3.out _ HX2.out).cell 0
    have y1 := (HB3.out _ HX2.out).cell 1
    have yl := (HB3.out _ HX2.out).lt
    go_wp2_with fail
    clear a0 al l0 ll x0 x1 xl y0 y1 yl
    refine (HAw.out _).mono ?_
    rintro e9 w9 ⟨rfl, hx9⟩
    have HX9 := Lib.hid (HX2.out.trans hx9)
    clear hx9
    go_wp2_with fail
    go_ret
    exact Ret.mk rfl (HX0.out.trans HX9.out)
  | true =>
    rw [hfw] at HFw
    obtain ⟨hs, hsum, htl10⟩ := few_small (by decide) hfw
    cases hsh : shortB l with
    | false =>
      rw [hsh] at HSh
      clear hT hcap hL htl hbig hfw hsh hs htl10 hsum
      go_enter Try.func4, Try.ntmps4
      go_wp2_with fail
      rw [← HW0.out]
      refine (HAw.out _).mono ?_
      rintro e9 w1 ⟨rfl, hx1⟩
      have HX1 := Lib.hid (hx1)
      clear hx1
      have a0 := (HB0.out _ HX1.out).cell 0
      have al := (HB0.out _ HX1.out).lt
      have l0 := (HB1.out _ HX1.out).cell 0
      have ll := (HB1.out _ HX1.out).lt
      have x0 := (HB2.out _ HX1.out).cell 0
      have x1 := (HB2.out _ HX1.out).cell 1
      have xl := (HB2.out _ HX1.out).lt
      have y0 := (HB3.out _ HX1.out).cell 0
      have y1 := (HB3.out _ HX1.out).cell 1
      have yl := (HB3.out _ HX1.out).lt
      go_wp2_with fail
      clear a0 al l0 ll x0 x1 xl y0 y1 yl
      refine (HFw.out _ (HX0.out.trans HX1.out)).mono ?_
      rintro e9 w2 ⟨rfl, hx2⟩
      have HX2 := Lib.hid (HX1.out.trans hx2)
      clear hx2
      have a0 := (HB0.out _ HX2.out).cell 0
      have al := (HB0.out _ HX2.out).lt
      have l0 := (HB1.out _ HX2.out).cell 0
      have ll := (HB1.out _ HX2.out).lt
      have x0 := (HB2.out _ HX2.out).cell 0
      have x1 := (HB2.out _ HX2.out).cell 1
      have xl := (HB2.out _ HX2.out).lt
      have y0 := (HB3.out _ HX2.out).cell 0
      have y1 := (HB3.out _ HX2.out).cell 1
      have yl := (HB3.out _ HX2.out).lt
      go_wp2_with fail
      clear a0 al l0 ll x0 x1 xl y0 y1 yl
      refine (HSh.out _ (HX0.out.trans HX2.out)).mono ?_
      rintro e9 w3 ⟨rfl, hx3⟩
      have HX3 := Lib.hid (HX2.out.trans hx3)
      clear hx3
      have a0 := (HB0.out _ HX3.out).cell 0
      have al := (HB0.out _ HX3.out).lt
      have l0 := (HB1.out _ HX3.out).cell 0
      have ll := (HB1.out _ HX3.out).lt
      have x0 := (HB2.out _ HX3.out).cell 0
      have x1 := (HB2.out _ HX3.out).cell 1
      have xl := (HB2.out _ HX3.out).lt
      have y0 := (HB3.out _ HX3.out).cell 0
      have y1 := (HB3.out _ HX3.out).cell 1
      have yl := (HB3.out _ HX3.out).lt
      go_wp2_with fail
      clear a0 al l0 ll x0 x1 xl y0 y1 yl
      refine (HAw.out _).mono ?_
      rintro e9 w9 ⟨rfl, hx9⟩
      have HX9 := Lib.hid (HX3.out.trans hx9)
      clear hx9
      go_wp2_with fail
      go_ret
      exact Ret.mk rfl (HX0.out.trans HX9.out)
    | true =>
      rw [hsh] at HSh
      have hls := short_small hsh
      have HV := Lib.hid (fun w' (h : Ex w w') => rCp_c t A c l B lc w' (hT.ex h) hs (hL.ex h) hls)
      cases hv : cpB t l with
      | false =>
        rw [hv] at HV
        clear hT hcap hL htl hbig hfw hsh hs htl10 hsum hls
        go_enter Try.func4, Try.ntmps4
        go_wp2_with fail
        rw [← HW0.out]
        refine (HAw.out _).mono ?_
        rintro e9 w1 ⟨rfl, hx1⟩
        have HX1 := Lib.hid (hx1)
        clear hx1
        have a0 := (HB0.out _ HX1.out).cell 0
        have al := (HB0.out _ HX1.out).lt
        have l0 := (HB1.out _ HX1.out).cell 0
        have ll := (HB1.out _ HX1.out).lt
        have x0 := (HB2.out _ HX1.out).cell 0
        have x1 := (HB2.out _ HX1.out).cell 1
        have xl := (HB2.out _ HX1.out).lt
        have y0 := (HB3.out _ HX1.out).cell 0
        have y1 := (HB3.out _ HX1.out).cell 1
        have yl := (HB3.out _ HX1.out).lt
        go_wp2_with fail
        clear a0 al l0 ll x0 x1 xl y0 y1 yl
        refine (HFw.out _ (HX0.out.trans HX1.out)).mono ?_
        rintro e9 w2 ⟨rfl, hx2⟩
        have HX2 := Lib.hid (HX1.out.trans hx2)
        clear hx2
        have a0 := (HB0.out _ HX2.out).cell 0
        have al := (HB0.out _ HX2.out).lt
        have l0 := (HB1.out _ HX2.out).cell 0
        have ll := (HB1.out _ HX2.out).lt
        have x0 := (HB2.out _ HX2.out).cell 0
        have x1 := (HB2.out _ HX2.out).cell 1
        have xl := (HB2.out _ HX2.out).lt
        have y0 := (HB3.out _ HX2.out).cell 0
        have y1 := (HB3.out _ HX2.out).cell 1
        have yl := (HB3.out _ HX2.out).lt
        go_wp2_with fail
        clear a0 al l0 ll x0 x1 xl y0 y1 yl
        refine (HSh.out _ (HX0.out.trans HX2.out)).mono ?_
        rintro e9 w3 ⟨rfl, hx3⟩
        have HX3 := Lib.hid (HX2.out.trans hx3)
        clear hx3
        have a0 := (HB0.out _ HX3.out).cell 0
        have al := (HB0.out _ HX3.out).lt
        have l0 := (HB1.out _ HX3.out).cell 0
        have ll := (HB1.out _ HX3.out).lt
        have x0 := (HB2.out _ HX3.out).cell 0
        have x1 := (HB2.out _ HX3.out).cell 1
        have xl := (HB2.out _ HX3.out).lt
        have y0 := (HB3.out _ HX3.out).cell 0
        have y1 := (HB3.out _ HX3.out).cell 1
        have yl := (HB3.out _ HX3.out).lt
        go_wp2_with fail
        clear a0 al l0 ll x0 x1 xl y0 y1 yl
        refine (HV.out _ (HX0.out.trans HX3.out)).mono ?_
        rintro e9 w4 ⟨rfl, hx4⟩
        have HX4 := Lib.hid (HX3.out.trans hx4)
        clear hx4
        have a0 := (HB0.out _ HX4.out).cell 0
        have al := (HB0.out _ HX4.out).lt
        have l0 := (HB1.out _ HX4.out).cell 0
        have ll := (HB1.out _ HX4.out).lt
        have x0 := (HB2.out _ HX4.out).cell 0
        have x1 := (HB2.out _ HX4.out).cell 1
        have xl := (HB2.out _ HX4.out).lt
        have y0 := (HB3.out _ HX4.out).cell 0
        have y1 := (HB3.out _ HX4.out).cell 1
        have yl := (HB3.out _ HX4.out).lt
        go_wp2_with fail
        clear a0 al l0 ll x0 x1 xl y0 y1 yl
        refine (HAw.out _).mono ?_
        rintro e9 w9 ⟨rfl, hx9⟩
        have HX9 := Lib.hid (HX4.out.trans hx9)
        clear hx9
        go_wp2_with fail
        go_ret
        exact Ret.mk rfl (HX0.out.trans HX9.out)
      | true =>
        rw [hv] at HV
        have HSz := Lib.hid (fun w' (h : Ex w w') => size_c l B lc w' (hL.ex h) hls)
        by_cases hz : 300 < sizeL l
        · have s1 : decide ((300 : Int) < ((sizeL l : Nat) : Int)) = true := decide_eq_true (by omega)
          clear hT hcap hL htl hbig hfw hsh hs htl10 hsum hls hv hz
          generalize ((sizeL l : Nat) : Int) = sz at *
          go_enter Try.func4, Try.ntmps4
          go_wp2_with fail
          rw [← HW0.out]
          refine (HAw.out _).mono ?_
          rintro e9 w1 ⟨rfl, hx1⟩
          have HX1 := Lib.hid (hx1)
          clear hx1
          have a0 := (HB0.out _ HX1.out).cell 0
          have al := (HB0.out _ HX1.out).lt
          have l0 := (HB1.out _ HX1.out).cell 0
          have ll := (HB1.out _ HX1.out).lt
          have x0 := (HB2.out _ HX1.out).cell 0
          have x1 := (HB2.out _ HX1.out).cell 1
          have xl := (HB2.out _ HX1.out).lt
          have y0 := (HB3.out _ HX1.out).cell 0
          have y1 := (HB3.out _ HX1.out).cell 1
          have yl := (HB3.out _ HX1.out).lt
          go_wp2_with fail
          clear a0 al l0 ll x0 x1 xl y0 y1 yl
          refine (HFw.out _ (HX0.out.trans HX1.out)).mono ?_
          rintro e9 w2 ⟨rfl, hx2⟩
          have HX2 := Lib.hid (HX1.out.trans hx2)
          clear hx2
          have a0 := (HB0.out _ HX2.out).cell 0
          have al := (HB0.out _ HX2.out).lt
          have l0 := (HB1.out _ HX2.out).cell 0
          have ll := (HB1.out _ HX2.out).lt
          have x0 := (HB2.out _ HX2.out).cell 0
          have x1 := (HB2.out _ HX2.out).cell 1
          have xl := (HB2.out _ HX2.out).lt
          have y0 := (HB3.out _ HX2.out).cell 0
          have y1 := (HB3.out _ HX2.out).cell 1
          have yl := (HB3.out _ HX2.out).lt
          go_wp2_with fail
          clear a0 al l0 ll x0 x1 xl y0 y1 yl
          refine (HSh.out _ (HX0.out.trans HX2.out)).mono ?_
          rintro e9 w3 ⟨rfl, hx3⟩
          have HX3 := Lib.hid (HX2.out.trans hx3)
          clear hx3
          have a0 := (HB0.out _ HX3.out).cell 0
          have al := (HB0.out _ HX3.out).lt
          have l0 := (HB1.out _ HX3.out).cell 0
          have ll := (HB1.out _ HX3.out).lt
          have x0 := (HB2.out _ HX3.out).cell 0
          have x1 := (HB2.out _ HX3.out).cell 1
          have xl := (HB2.out _ HX3.out).lt
          have y0 := (HB3.out _ HX3.out).cell 0
          have y1 := (HB3.out _ HX3.out).cell 1
          have yl := (HB3.out _ HX3.out).lt
          go_wp2_with fail
          clear a0 al l0 ll x0 x1 xl y0 y1 yl
          refine (HV.out _ (HX0.out.trans HX3.out)).mono ?_
          rintro e9 w4 ⟨rfl, hx4⟩
          have HX4 := Lib.hid (HX3.out.trans hx4)
          clear hx4
          have a0 := (HB0.out _ HX4.out).cell 0
          have al := (HB0.out _ HX4.out).lt
          have l0 := (HB1.out _ HX4.out).cell 0
          have ll := (HB1.out _ HX4.out).lt
          have x0 := (HB2.out _ HX4.out).cell 0
          have x1 := (HB2.out _ HX4.out).cell 1
          have xl := (HB2.out _ HX4.out).lt
          have y0 := (HB3.out _ HX4.out).cell 0
          have y1 := (HB3.out _ HX4.out).cell 1
          have yl := (HB3.out _ HX4.out).lt
          go_wp2_with fail
          clear a0 al l0 ll x0 x1 xl y0 y1 yl
          refine (HSz.out _ (HX0.out.trans HX4.out)).mono ?_
          rintro e9 w5 ⟨rfl, hx5⟩
          have HX5 := Lib.hid (HX4.out.trans hx5)
          clear hx5
          have a0 := (HB0.out _ HX5.out).cell 0
          have al := (HB0.out _ HX5.out).lt
          have l0 := (HB1.out _ HX5.out).cell 0
          have ll := (HB1.out _ HX5.out).lt
          have x0 := (HB2.out _ HX5.out).cell 0
          have x1 := (HB2.out _ HX5.out).cell 1
          have xl := (HB2.out _ HX5.out).lt
          have y0 := (HB3.out _ HX5.out).cell 0
          have y1 := (HB3.out _ HX5.out).cell 1
          have yl := (HB3.out _ HX5.out).lt
          go_wp2_with fail
          clear a0 al l0 ll x0 x1 xl y0 y1 yl
          refine (HAw.out _).mono ?_
          rintro e9 w9 ⟨rfl, hx9⟩
          have HX9 := Lib.hid (HX5.out.trans hx9)
          clear hx9
          go_wp2_with fail
          go_ret
          exact Ret.mk rfl (HX0.out.trans HX9.out)
        · have s1 : decide ((300 : Int) < ((sizeL l : Nat) : Int)) = false := decide_eq_false (by omega)
          generalize ((sizeL l : Nat) : Int) = sz at *
          cases hkx : ckB l xp xi with
          | false =>
            rw [hkx] at HKx
            clear hT hcap hL htl hbig hfw hsh hs htl10 hsum hls hv hz hkx
            go_enter Try.func4, Try.ntmps4
            go_wp2_with fail
            rw [← HW0.out]
            refine (HAw.out _).mono ?_
            rintro e9 w1 ⟨rfl, hx1⟩
            have HX1 := Lib.hid (hx1)
            clear hx1
            have a0 := (HB0.out _ HX1.out).cell 0
            have al := (HB0.out _ HX1.out).lt
            have l0 := (HB1.out _ HX1.out).cell 0
            have ll := (HB1.out _ HX1.out).lt
            have x0 := (HB2.out _ HX1.out).cell 0
            have x1 := (HB2.out _ HX1.out).cell 1
            have xl := (HB2.out _ HX1.out).lt
            have y0 := (HB3.out _ HX1.out).cell 0
            have y1 := (HB3.out _ HX1.out).cell 1
            have yl := (HB3.out _ HX1.out).lt
            go_wp2_with fail
            clear a0 al l0 ll x0 x1 xl y0 y1 yl
            refine (HFw.out _ (HX0.out.trans HX1.out)).mono ?_
            rintro e9 w2 ⟨rfl, hx2⟩
            have HX2 := Lib.hid (HX1.out.trans hx2)
            clear hx2
            have a0 := (HB0.out _ HX2.out).cell 0
            have al := (HB0.out _ HX2.out).lt
            have l0 := (HB1.out _ HX2.out).cell 0
            have ll := (HB1.out _ HX2.out).lt
            have x0 := (HB2.out _ HX2.out).cell 0
            have x1 := (HB2.out _ HX2.out).cell 1
            have xl := (HB2.out _ HX2.out).lt
            have y0 := (HB3.out _ HX2.out).cell 0
            have y1 := (HB3.out _ HX2.out).cell 1
            have yl := (HB3.out _ HX2.out).lt
            go_wp2_with fail
            clear a0 al l0 ll x0 x1 xl y0 y1 yl
            refine (HSh.out _ (HX0.out.trans HX2.out)).mono ?_
            rintro e9 w3 ⟨rfl, hx3⟩
            have HX3 := Lib.hid (HX2.out.trans hx3)
            clear hx3
            have a0 := (HB0.out _ HX3.out).cell 0
            have al := (HB0.out _ HX3.out).lt
            have l0 := (HB1.out _ HX3.out).cell 0
            have ll := (HB1.out _ HX3.out).lt
            have x0 := (HB2.out _ HX3.out).cell 0
            have x1 := (HB2.out _ HX3.out).cell 1
            have xl := (HB2.out _ HX3.out).lt
            have y0 := (HB3.out _ HX3.out).cell 0
            have y1 := (HB3.out _ HX3.out).cell 1
            have yl := (HB3.out _ HX3.out).lt
            go_wp2_with fail
            clear a0 al l0 ll x0 x1 xl y0 y1 yl
            refine (HV.out _ (HX0.out.trans HX3.out)).mono ?_
            rintro e9 w4 ⟨rfl, hx4⟩
            have HX4 := Lib.hid (HX3.out.trans hx4)
            clear hx4
            have a0 := (HB0.out _ HX4.out).cell 0
            have al := (HB0.out _ HX4.out).lt
            have l0 := (HB1.out _ HX4.out).cell 0
            have ll := (HB1.out _ HX4.out).lt
            have x0 := (HB2.out _ HX4.out).cell 0
            have x1 := (HB2.out _ HX4.out).cell 1
            have xl := (HB2.out _ HX4.out).lt
            have y0 := (HB3.out _ HX4.out).cell 0
            have y1 := (HB3.out _ HX4.out).cell 1
            have yl := (HB3.out _ HX4.out).lt
            go_wp2_with fail
            clear a0 al l0 ll x0 x1 xl y0 y1 yl
            refine (HSz.out _ (HX0.out.trans HX4.out)).mono ?_
            rintro e9 w5 ⟨rfl, hx5⟩
            have HX5 := Lib.hid (HX4.out.trans hx5)
            clear hx5
            have a0 := (HB0.out _ HX5.out).cell 0
            have al := (HB0.out _ HX5.out).lt
            have l0 := (HB1.out _ HX5.out).cell 0
            have ll := (HB1.out _ HX5.out).lt
            have x0 := (HB2.out _ HX5.out).cell 0
            have x1 := (HB2.out _ HX5.out).cell 1
            have xl := (HB2.out _ HX5.out).lt
            have y0 := (HB3.out _ HX5.out).cell 0
            have y1 := (HB3.out _ HX5.out).cell 1
            have yl := (HB3.out _ HX5.out).lt
            go_wp2_with fail
            clear a0 al l0 ll x0 x1 xl y0 y1 yl
            refine (HKx.out _ (HX0.out.trans HX5.out)).mono ?_
            rintro e9 w6 ⟨rfl, hx6⟩
            have HX6 := Lib.hid (HX5.out.trans hx6)
            clear hx6
            have a0 := (HB0.out _ HX6.out).cell 0
            have al := (HB0.out _ HX6.out).lt
            have l0 := (HB1.out _ HX6.out).cell 0
            have ll := (HB1.out _ HX6.out).lt
            have x0 := (HB2.out _ HX6.out).cell 0
            have x1 := (HB2.out _ HX6.out).cell 1
            have xl := (HB2.out _ HX6.out).lt
            have y0 := (HB3.out _ HX6.out).cell 0
            have y1 := (HB3.out _ HX6.out).cell 1
            have yl := (HB3.out _ HX6.out).lt
            go_wp2_with fail
            clear a0 al l0 ll x0 x1 xl y0 y1 yl
            refine (HAw.out _).mono ?_
            rintro e9 w9 ⟨rfl, hx9⟩
            have HX9 := Lib.hid (HX6.out.trans hx9)
            clear hx9
            go_wp2_with fail
            go_ret
            exact Ret.mk rfl (HX0.out.trans HX9.out)
          | true =>
            rw [hkx] at HKx
            cases hky : ckB l yp yi with
            | false =>
              rw [hky] at HKy
              clear hT hcap hL htl hbig hfw hsh hs htl10 hsum hls hv hz hkx hky
              go_enter Try.func4, Try.ntmps4
              go_wp2_with fail
              rw [← HW0.out]
              refine (HAw.out _).mono ?_
              rintro e9 w1 ⟨rfl, hx1⟩
              have HX1 := Lib.hid (hx1)
              clear hx1
              have a0 := (HB0.out _ HX1.out).cell 0
              have al := (HB0.out _ HX1.out).lt
              have l0 := (HB1.out _ HX1.out).cell 0
              have ll := (HB1.out _ HX1.out).lt
              have x0 := (HB2.out _ HX1.out).cell 0
              have x1 := (HB2.out _ HX1.out).cell 1
              have xl := (HB2.out _ HX1.out).lt
              have y0 := (HB3.out _ HX1.out).cell 0
              have y1 := (HB3.out _ HX1.out).cell 1
              have yl := (HB3.out _ HX1.out).lt
              go_wp2_with fail
              clear a0 al l0 ll x0 x1 xl y0 y1 yl
              refine (HFw.out _ (HX0.out.trans HX1.out)).mono ?_
              rintro e9 w2 ⟨rfl, hx2⟩
              have HX2 := Lib.hid (HX1.out.trans hx2)
              clear hx2
              have a0 := (HB0.out _ HX2.out).cell 0
              have al := (HB0.out _ HX2.out).lt
              have l0 := (HB1.out _ HX2.out).cell 0
              have ll := (HB1.out _ HX2.out).lt
              have x0 := (HB2.out _ HX2.out).cell 0
              have x1 := (HB2.out _ HX2.out).cell 1
              have xl := (HB2.out _ HX2.out).lt
              have y0 := (HB3.out _ HX2.out).cell 0
              have y1 := (HB3.out _ HX2.out).cell 1
              have yl := (HB3.out _ HX2.out).lt
              go_wp2_with fail
              clear a0 al l0 ll x0 x1 xl y0 y1 yl
              refine (HSh.out _ (HX0.out.trans HX2.out)).mono ?_
              rintro e9 w3 ⟨rfl, hx3⟩
              have HX3 := Lib.hid (HX2.out.trans hx3)
              clear hx3
              have a0 := (HB0.out _ HX3.out).cell 0
              have al := (HB0.out _ HX3.out).lt
              have l0 := (HB1.out _ HX3.out).cell 0
              have ll := (HB1.out _ HX3.out).lt
              have x0 := (HB2.out _ HX3.out).cell 0
              have x1 := (HB2.out _ HX3.out).cell 1
              have xl := (HB2.out _ HX3.out).lt
              have y0 := (HB3.out _ HX3.out).cell 0
              have y1 := (HB3.out _ HX3.out).cell 1
              have yl := (HB3.out _ HX3.out).lt
              go_wp2_with fail
              clear a0 al l0 ll x0 x1 xl y0 y1 yl
              refine (HV.out _ (HX0.out.trans HX3.out)).mono ?_
              rintro e9 w4 ⟨rfl, hx4⟩
              have HX4 := Lib.hid (HX3.out.trans hx4)
              clear hx4
              have a0 := (HB0.out _ HX4.out).cell 0
              have al := (HB0.out _ HX4.out).lt
              have l0 := (HB1.out _ HX4.out).cell 0
              have ll := (HB1.out _ HX4.out).lt
              have x0 := (HB2.out _ HX4.out).cell 0
              have x1 := (HB2.out _ HX4.out).cell 1
              have xl := (HB2.out _ HX4.out).lt
              have y0 := (HB3.out _ HX4.out).cell 0
              have y1 := (HB3.out _ HX4.out).cell 1
              have yl := (HB3.out _ HX4.out).lt
              go_wp2_with fail
              clear a0 al l0 ll x0 x1 xl y0 y1 yl
              refine (HSz.out _ (HX0.out.trans HX4.out)).mono ?_
              rintro e9 w5 ⟨rfl, hx5⟩
              have HX5 := Lib.hid (HX4.out.trans hx5)
              clear hx5
              have a0 := (HB0.out _ HX5.out).cell 0
              have al := (HB0.out _ HX5.out).lt
              have l0 := (HB1.out _ HX5.out).cell 0
              have ll := (HB1.out _ HX5.out).lt
              have x0 := (HB2.out _ HX5.out).cell 0
              have x1 := (HB2.out _ HX5.out).cell 1
              have xl := (HB2.out _ HX5.out).lt
              have y0 := (HB3.out _ HX5.out).cell 0
              have y1 := (HB3.out _ HX5.out).cell 1
              have yl := (HB3.out _ HX5.out).lt
              go_wp2_with fail
              clear a0 al l0 ll x0 x1 xl y0 y1 yl
              refine (HKx.out _ (HX0.out.trans HX5.out)).mono ?_
              rintro e9 w6 ⟨rfl, hx6⟩
              have HX6 := Lib.hid (HX5.out.trans hx6)
              clear hx6
              have a0 := (HB0.out _ HX6.out).cell 0
              have al := (HB0.out _ HX6.out).lt
              have l0 := (HB1.out _ HX6.out).cell 0
              have ll := (HB1.out _ HX6.out).lt
              have x0 := (HB2.out _ HX6.out).cell 0
              have x1 := (HB2.out _ HX6.out).cell 1
              have xl := (HB2.out _ HX6.out).lt
              have y0 := (HB3.out _ HX6.out).cell 0
              have y1 := (HB3.out _ HX6.out).cell 1
              have yl := (HB3.out _ HX6.out).lt
              go_wp2_with fail
              clear a0 al l0 ll x0 x1 xl y0 y1 yl
              refine (HKy.out _ (HX0.out.trans HX6.out)).mono ?_
              rintro e9 w7 ⟨rfl, hx7⟩
              have HX7 := Lib.hid (HX6.out.trans hx7)
              clear hx7
              have a0 := (HB0.out _ HX7.out).cell 0
              have al := (HB0.out _ HX7.out).lt
              have l0 := (HB1.out _ HX7.out).cell 0
              have ll := (HB1.out _ HX7.out).lt
              have x0 := (HB2.out _ HX7.out).cell 0
              have x1 := (HB2.out _ HX7.out).cell 1
              have xl := (HB2.out _ HX7.out).lt
              have y0 := (HB3.out _ HX7.out).cell 0
              have y1 := (HB3.out _ HX7.out).cell 1
              have yl := (HB3.out _ HX7.out).lt
              go_wp2_with fail
              clear a0 al l0 ll x0 x1 xl y0 y1 yl
              refine (HAw.out _).mono ?_
              rintro e9 w9 ⟨rfl, hx9⟩
              have HX9 := Lib.hid (HX7.out.trans hx9)
              clear hx9
              go_wp2_with fail
              go_ret
              exact Ret.mk rfl (HX0.out.trans HX9.out)
            | true =>
              rw [hky] at HKy
              by_cases hpq : xp = yp
              · have s2 : ((xp : Int) == yp) = true := beq_iff_eq.2 hpq
                clear hT hcap hL htl hbig hfw hsh hs htl10 hsum hls hv hz hkx hky hpq
                go_enter Try.func4, Try.ntmps4
                go_wp2_with fail
                rw [← HW0.out]
                refine (HAw.out _).mono ?_
                rintro e9 w1 ⟨rfl, hx1⟩
                have HX1 := Lib.hid (hx1)
                clear hx1
                have a0 := (HB0.out _ HX1.out).cell 0
                have al := (HB0.out _ HX1.out).lt
                have l0 := (HB1.out _ HX1.out).cell 0
                have ll := (HB1.out _ HX1.out).lt
                have x0 := (HB2.out _ HX1.out).cell 0
                have x1 := (HB2.out _ HX1.out).cell 1
                have xl := (HB2.out _ HX1.out).lt
                have y0 := (HB3.out _ HX1.out).cell 0
                have y1 := (HB3.out _ HX1.out).cell 1
                have yl := (HB3.out _ HX1.out).lt
                go_wp2_with fail
                clear a0 al l0 ll x0 x1 xl y0 y1 yl
                refine (HFw.out _ (HX0.out.trans HX1.out)).mono ?_
                rintro e9 w2 ⟨rfl, hx2⟩
                have HX2 := Lib.hid (HX1.out.trans hx2)
                clear hx2
                have a0 := (HB0.out _ HX2.out).cell 0
                have al := (HB0.out _ HX2.out).lt
                have l0 := (HB1.out _ HX2.out).cell 0
                have ll := (HB1.out _ HX2.out).lt
                have x0 := (HB2.out _ HX2.out).cell 0
                have x1 := (HB2.out _ HX2.out).cell 1
                have xl := (HB2.out _ HX2.out).lt
                have y0 := (HB3.out _ HX2.out).cell 0
                have y1 := (HB3.out _ HX2.out).cell 1
                have yl := (HB3.out _ HX2.out).lt
                go_wp2_with fail
                clear a0 al l0 ll x0 x1 xl y0 y1 yl
                refine (HSh.out _ (HX0.out.trans HX2.out)).mono ?_
                rintro e9 w3 ⟨rfl, hx3⟩
                have HX3 := Lib.hid (HX2.out.trans hx3)
                clear hx3
                have a0 := (HB0.out _ HX3.out).cell 0
                have al := (HB0.out _ HX3.out).lt
                have l0 := (HB1.out _ HX3.out).cell 0
                have ll := (HB1.out _ HX3.out).lt
                have x0 := (HB2.out _ HX3.out).cell 0
                have x1 := (HB2.out _ HX3.out).cell 1
                have xl := (HB2.out _ HX3.out).lt
                have y0 := (HB3.out _ HX3.out).cell 0
                have y1 := (HB3.out _ HX3.out).cell 1
                have yl := (HB3.out _ HX3.out).lt
                go_wp2_with fail
                clear a0 al l0 ll x0 x1 xl y0 y1 yl
                refine (HV.out _ (HX0.out.trans HX3.out)).mono ?_
                rintro e9 w4 ⟨rfl, hx4⟩
                have HX4 := Lib.hid (HX3.out.trans hx4)
                clear hx4
                have a0 := (HB0.out _ HX4.out).cell 0
                have al := (HB0.out _ HX4.out).lt
                have l0 := (HB1.out _ HX4.out).cell 0
                have ll := (HB1.out _ HX4.out).lt
                have x0 := (HB2.out _ HX4.out).cell 0
                have x1 := (HB2.out _ HX4.out).cell 1
                have xl := (HB2.out _ HX4.out).lt
                have y0 := (HB3.out _ HX4.out).cell 0
                have y1 := (HB3.out _ HX4.out).cell 1
                have yl := (HB3.out _ HX4.out).lt
                go_wp2_with fail
                clear a0 al l0 ll x0 x1 xl y0 y1 yl
                refine (HSz.out _ (HX0.out.trans HX4.out)).mono ?_
                rintro e9 w5 ⟨rfl, hx5⟩
                have HX5 := Lib.hid (HX4.out.trans hx5)
                clear hx5
                have a0 := (HB0.out _ HX5.out).cell 0
                have al := (HB0.out _ HX5.out).lt
                have l0 := (HB1.out _ HX5.out).cell 0
                have ll := (HB1.out _ HX5.out).lt
                have x0 := (HB2.out _ HX5.out).cell 0
                have x1 := (HB2.out _ HX5.out).cell 1
                have xl := (HB2.out _ HX5.out).lt
                have y0 := (HB3.out _ HX5.out).cell 0
                have y1 := (HB3.out _ HX5.out).cell 1
                have yl := (HB3.out _ HX5.out).lt
                go_wp2_with fail
                clear a0 al l0 ll x0 x1 xl y0 y1 yl
                refine (HKx.out _ (HX0.out.trans HX5.out)).mono ?_
                rintro e9 w6 ⟨rfl, hx6⟩
                have HX6 := Lib.hid (HX5.out.trans hx6)
                clear hx6
                have a0 := (HB0.out _ HX6.out).cell 0
                have al := (HB0.out _ HX6.out).lt
                have l0 := (HB1.out _ HX6.out).cell 0
                have ll := (HB1.out _ HX6.out).lt
                have x0 := (HB2.out _ HX6.out).cell 0
                have x1 := (HB2.out _ HX6.out).cell 1
                have xl := (HB2.out _ HX6.out).lt
                have y0 := (HB3.out _ HX6.out).cell 0
                have y1 := (HB3.out _ HX6.out).cell 1
                have yl := (HB3.out _ HX6.out).lt
                go_wp2_with fail
                clear a0 al l0 ll x0 x1 xl y0 y1 yl
                refine (HKy.out _ (HX0.out.trans HX6.out)).mono ?_
                rintro e9 w7 ⟨rfl, hx7⟩
                have HX7 := Lib.hid (HX6.out.trans hx7)
                clear hx7
                have a0 := (HB0.out _ HX7.out).cell 0
                have al := (HB0.out _ HX7.out).lt
                have l0 := (HB1.out _ HX7.out).cell 0
                have ll := (HB1.out _ HX7.out).lt
                have x0 := (HB2.out _ HX7.out).cell 0
                have x1 := (HB2.out _ HX7.out).cell 1
                have xl := (HB2.out _ HX7.out).lt
                have y0 := (HB3.out _ HX7.out).cell 0
                have y1 := (HB3.out _ HX7.out).cell 1
                have yl := (HB3.out _ HX7.out).lt
                go_wp2_with fail
                clear a0 al l0 ll x0 x1 xl y0 y1 yl
                refine (HAw.out _).mono ?_
                rintro e9 w9 ⟨rfl, hx9⟩
                have HX9 := Lib.hid (HX7.out.trans hx9)
                clear hx9
                go_wp2_with fail
                go_ret
                exact Ret.mk rfl (HX0.out.trans HX9.out)
              · have s2 : ((xp : Int) == yp) = false := beq_eq_false_iff_ne.2 hpq
                obtain ⟨hcx, ex1, ex2⟩ := ck_p hkx
                obtain ⟨hcy, ey1, ey2⟩ := ck_p hky
                have hne : xp.toNat ≠ yp.toNat := fun h => hpq (by rw [ex1, ey1, h])
                have HPi := Lib.hid (pair_iff hv hcx hcy hne)
                clear hkx hky hpq
                generalize xp.toNat = xpn at *
                generalize xi.toNat = xin at *
                generalize yp.toNat = ypn at *
                generalize yi.toNat = yin at *
                subst ex1 ex2 ey1 ey2
                have HT : Hid (∀ w', Ex w w' → TcC w' A t) := fun w' h => hT.ex h
                have HL : Hid (∀ w', Ex w w' → LlC w' B l) := fun w' h => hL.ex h
                have HLs := Lib.hid hls
                have HTs := Lib.hid hs
                have HV0 := Lib.hid hv
                have HCx := Lib.hid hcx
                have HCy := Lib.hid hcy
                clear hT hL htl hbig hfw hsh hs htl10 hsum hls hv hz hcx hcy hne
                go_enter Try.func4, Try.ntmps4
                go_wp2_with fail
                rw [← HW0.out]
                refine (HAw.out _).mono ?_
                rintro e9 w1 ⟨rfl, hx1⟩
                have HX1 := Lib.hid (hx1)
                clear hx1
                have a0 := (HB0.out _ HX1.out).cell 0
                have al := (HB0.out _ HX1.out).lt
                have l0 := (HB1.out _ HX1.out).cell 0
                have ll := (HB1.out _ HX1.out).lt
                have x0 := (HB2.out _ HX1.out).cell 0
                have x1 := (HB2.out _ HX1.out).cell 1
                have xl := (HB2.out _ HX1.out).lt
                have y0 := (HB3.out _ HX1.out).cell 0
                have y1 := (HB3.out _ HX1.out).cell 1
                have yl := (HB3.out _ HX1.out).lt
                go_wp2_with fail
                clear a0 al l0 ll x0 x1 xl y0 y1 yl
                refine (HFw.out _ (HX0.out.trans HX1.out)).mono ?_
                rintro e9 w2 ⟨rfl, hx2⟩
                have HX2 := Lib.hid (HX1.out.trans hx2)
                clear hx2
                have a0 := (HB0.out _ HX2.out).cell 0
                have al := (HB0.out _ HX2.out).lt
                have l0 := (HB1.out _ HX2.out).cell 0
                have ll := (HB1.out _ HX2.out).lt
                have x0 := (HB2.out _ HX2.out).cell 0
                have x1 := (HB2.out _ HX2.out).cell 1
                have xl := (HB2.out _ HX2.out).lt
                have y0 := (HB3.out _ HX2.out).cell 0
                have y1 := (HB3.out _ HX2.out).cell 1
                have yl := (HB3.out _ HX2.out).lt
                go_wp2_with fail
                clear a0 al l0 ll x0 x1 xl y0 y1 yl
                refine (HSh.out _ (HX0.out.trans HX2.out)).mono ?_
                rintro e9 w3 ⟨rfl, hx3⟩
                have HX3 := Lib.hid (HX2.out.trans hx3)
                clear hx3
                have a0 := (HB0.out _ HX3.out).cell 0
                have al := (HB0.out _ HX3.out).lt
                have l0 := (HB1.out _ HX3.out).cell 0
                have ll := (HB1.out _ HX3.out).lt
                have x0 := (HB2.out _ HX3.out).cell 0
                have x1 := (HB2.out _ HX3.out).cell 1
                have xl := (HB2.out _ HX3.out).lt
                have y0 := (HB3.out _ HX3.out).cell 0
                have y1 := (HB3.out _ HX3.out).cell 1
                have yl := (HB3.out _ HX3.out).lt
                go_wp2_with fail
                clear a0 al l0 ll x0 x1 xl y0 y1 yl
                refine (HV.out _ (HX0.out.trans HX3.out)).mono ?_
                rintro e9 w4 ⟨rfl, hx4⟩
                have HX4 := Lib.hid (HX3.out.trans hx4)
                clear hx4
                have a0 := (HB0.out _ HX4.out).cell 0
                have al := (HB0.out _ HX4.out).lt
                have l0 := (HB1.out _ HX4.out).cell 0
                have ll := (HB1.out _ HX4.out).lt
                have x0 := (HB2.out _ HX4.out).cell 0
                have x1 := (HB2.out _ HX4.out).cell 1
                have xl := (HB2.out _ HX4.out).lt
                have y0 := (HB3.out _ HX4.out).cell 0
                have y1 := (HB3.out _ HX4.out).cell 1
                have yl := (HB3.out _ HX4.out).lt
                go_wp2_with fail
                clear a0 al l0 ll x0 x1 xl y0 y1 yl
                refine (HSz.out _ (HX0.out.trans HX4.out)).mono ?_
                rintro e9 w5 ⟨rfl, hx5⟩
                have HX5 := Lib.hid (HX4.out.trans hx5)
                clear hx5
                have a0 := (HB0.out _ HX5.out).cell 0
                have al := (HB0.out _ HX5.out).lt
                have l0 := (HB1.out _ HX5.out).cell 0
                have ll := (HB1.out _ HX5.out).lt
                have x0 := (HB2.out _ HX5.out).cell 0
                have x1 := (HB2.out _ HX5.out).cell 1
                have xl := (HB2.out _ HX5.out).lt
                have y0 := (HB3.out _ HX5.out).cell 0
                have y1 := (HB3.out _ HX5.out).cell 1
                have yl := (HB3.out _ HX5.out).lt
                go_wp2_with fail
                clear a0 al l0 ll x0 x1 xl y0 y1 yl
                refine (HKx.out _ (HX0.out.trans HX5.out)).mono ?_
                rintro e9 w6 ⟨rfl, hx6⟩
                have HX6 := Lib.hid (HX5.out.trans hx6)
                clear hx6
                have a0 := (HB0.out _ HX6.out).cell 0
                have al := (HB0.out _ HX6.out).lt
                have l0 := (HB1.out _ HX6.out).cell 0
                have ll := (HB1.out _ HX6.out).lt
                have x0 := (HB2.out _ HX6.out).cell 0
                have x1 := (HB2.out _ HX6.out).cell 1
                have xl := (HB2.out _ HX6.out).lt
                have y0 := (HB3.out _ HX6.out).cell 0
                have y1 := (HB3.out _ HX6.out).cell 1
                have yl := (HB3.out _ HX6.out).lt
                go_wp2_with fail
                clear a0 al l0 ll x0 x1 xl y0 y1 yl
                refine (HKy.out _ (HX0.out.trans HX6.out)).mono ?_
                rintro e9 w7 ⟨rfl, hx7⟩
                have HX7 := Lib.hid (HX6.out.trans hx7)
                clear hx7
                have a0 := (HB0.out _ HX7.out).cell 0
                have al := (HB0.out _ HX7.out).lt
                have l0 := (HB1.out _ HX7.out).cell 0
                have ll := (HB1.out _ HX7.out).lt
                have x0 := (HB2.out _ HX7.out).cell 0
                have x1 := (HB2.out _ HX7.out).cell 1
                have xl := (HB2.out _ HX7.out).lt
                have y0 := (HB3.out _ HX7.out).cell 0
                have y1 := (HB3.out _ HX7.out).cell 1
                have yl := (HB3.out _ HX7.out).lt
                go_wp2_with fail
                clear a0 al l0 ll x0 x1 xl y0 y1 yl
                have HZg := Lib.hid (fun (p q : Nat × Nat) w' (h : Ex w w') (hp : CkP l p) (hq : CkP l q) => zigT_c t A c l B lc p q w' (HT.out w' h) HTs.out hcap (HL.out w' h) HLs.out HV0.out hp hq)
                refine (pairLines_c t A c l B lc (xpn, xin) (ypn, yin) _ _ _ w7 (HT.out _ (HX0.out.trans HX7.out)) HTs.out HV0.out (HL.out _ (HX0.out.trans HX7.out)) HLs.out HCx.out HCy.out (HB2.out _ HX7.out) (HB1.out _ HX7.out) (HB3.out _ HX7.out)).mono ?_
                rintro e9 w8 ⟨rfl, hT8, hx8⟩
                have HX8 := Lib.hid (HX7.out.trans hx8)
                have HBt : Hid (∀ w', Ex w8 w' → Blk w' w7.heap.size 4 [.bool (((prodL l).filter (conB t)).any (togB l (xpn, xin) (ypn, yin)))]) := fun w' h => hT8.ex h
                clear hT8 hx8
                generalize ((prodL l).filter (conB t)).any (togB l (xpn, xin) (ypn, yin)) = tg at *
                have a0 := (HB0.out _ HX8.out).cell 0
                have al := (HB0.out _ HX8.out).lt
                have l0 := (HB1.out _ HX8.out).cell 0
                have ll := (HB1.out _ HX8.out).lt
                have x0 := (HB2.out _ HX8.out).cell 0
                have x1 := (HB2.out _ HX8.out).cell 1
                have xl := (HB2.out _ HX8.out).lt
                have y0 := (HB3.out _ HX8.out).cell 0
                have y1 := (HB3.out _ HX8.out).cell 1
                have yl := (HB3.out _ HX8.out).lt
                obtain ⟨W1, hW1⟩ : ∃ W1, W1 = w8.alloc (.cells #[.int .i64 (xpn : Nat), .int .i64 (xin : Nat), .int .i64 (ypn : Nat), .int .i64 (yin : Nat)] 27) := ⟨_, rfl⟩
                have HXW : Hid (Ex w8 W1) := by rw [hW1]; exact (Ex.refl _).alloc _
                have HId : Hid (∀ w', Ex W1 w' → Blk w' w8.heap.size 27 (idCs [(xpn, xin), (ypn, yin)])) := fun w' h => by
                  have : Blk W1 w8.heap.size 27 (idCs [(xpn, xin), (ypn, yin)]) := by rw [hW1]; exact Blk.new _ _ _
                  exact this.ex h
                have HW1 := Lib.hid hW1
                clear hW1
                go_wp2_with fail
                rw [← HW1.out]
                clear a0 al l0 ll x0 x1 xl y0 y1 yl
                have HXV : Hid (Ex W0 W1) := HX8.out.trans HXW.out
                go_loopw [10, 68] (fun pv q wr => ∃ k : Nat, q = .int .i64 k ∧ k ≤ 2 ∧ pv = .bool (accB l (msgs t) (xpn, xin) (ypn, yin) (2 * k)) ∧ Hid (Ex W1 wr)) (fun _ q _ => 2 - (intOf q).toNat)
                case atStart => exact ⟨0, rfl, by omega, by simp [accB], Lib.hid (Ex.refl _)⟩
                case round =>
                  obtain ⟨k, rfl, hk, rfl, HX⟩ := hrel
                  by_cases hkn : k < 2
                  · have m0 : (0 : Int) ≤ (k : Int) := by omega
                    have m1 : (k : Int) < 2 := by omega
                    have i0 := ((HId.out _ HX.out).cell (k * 2)).trans (selP_cells _ _ hkn).1
                    have i1 := ((HId.out _ HX.out).cell (k * 2 + 1)).trans (selP_cells _ _ hkn).2
                    have il := (HId.out _ HX.out).lt
                    have HSk := Lib.hid (selP_ck HCx.out HCy.out k)
                    have HAk := Lib.hid (fun (j : Nat) (h : j < 2) => acc_step l (msgs t) (xpn, xin) (ypn, yin) hkn h)
                    have HSj := Lib.hid (fun (j : Nat) => selP_ck HCx.out HCy.out j)
                    have HSe := Lib.hid (fun (j : Nat) (h : j < 2) => selP_cells (xpn, xin) (ypn, yin) h)
                    have HXn := Lib.hid (HXV.out.trans HX.out)
                    have x0 := (HB2.out _ HXn.out).cell 0
                    have x1 := (HB2.out _ HXn.out).cell 1
                    have xl := (HB2.out _ HXn.out).lt
                    have y0 := (HB3.out _ HXn.out).cell 0
                    have y1 := (HB3.out _ HXn.out).cell 1
                    have yl := (HB3.out _ HXn.out).lt
                    generalize hxk : selP (xpn, xin) (ypn, yin) k = xk at *
                    clear hxk
                    obtain ⟨W3, hW3⟩ : ∃ W3, W3 = (wr.alloc (.cells #[.int .i64 (xk.1 : Nat), .int .i64 (xk.2 : Nat)] 27)).alloc (.cells #[.int .i64 (xpn : Nat), .int .i64 (xin : Nat), .int .i64 (ypn : Nat), .int .i64 (yin : Nat)] 27) := ⟨_, rfl⟩
                    have HX3 : Hid (Ex wr W3) := by rw [hW3]; exact ((Ex.refl _).alloc _).alloc _
                    have HK3 : Hid (∀ w', Ex W3 w' → Blk w' wr.heap.size 27 [.int .i64 (xk.1 : Nat), .int .i64 (xk.2 : Nat)]) := fun w' h => by
                      have : Blk W3 wr.heap.size 27 [.int .i64 (xk.1 : Nat), .int .i64 (xk.2 : Nat)] := by rw [hW3]; exact (Blk.new _ _ _).alloc _
                      exact this.ex h
                    have HI3 : Hid (∀ w', Ex W3 w' → Blk w' (wr.heap.size + 1) 27 (idCs [(xpn, xin), (ypn, yin)])) := fun w' h => by
                      have : Blk W3 (wr.heap.size + 1) 27 (idCs [(xpn, xin), (ypn, yin)]) := by
                        rw [hW3, show wr.heap.size + 1 = (wr.alloc (.cells #[.int .i64 (xk.1 : Nat), .int .i64 (xk.2 : Nat)] 27)).heap.size by simp]
                        exact Blk.new _ _ _
                      exact this.ex h
                    have HW3 := Lib.hid hW3
                    clear hW3
                    go_wp2_with fail
                    rw [← HW3.out]
                    clear x0 x1 xl y0 y1 yl i0 i1 il m0 m1
                    have HX3v : Hid (Ex W0 W3) := HXn.out.trans HX3.out
                    go_loopw [10, 76] (fun pv q w3 => ∃ j : Nat, q = .int .i64 j ∧ j ≤ 2 ∧ pv = .bool (accB l (msgs t) (xpn, xin) (ypn, yin) (2 * k + j)) ∧ Hid (Ex W3 w3)) (fun _ q _ => 2 - (intOf q).toNat)
                    case atStart => exact ⟨0, rfl, by omega, rfl, Lib.hid (Ex.refl _)⟩
                    case round =>
                      obtain ⟨j, rfl, hj, rfl, HY⟩ := hrel
                      by_cases hjn : j < 2
                      · have m0 : (0 : Int) ≤ (j : Int) := by omega
                        have m1 : (j : Int) < 2 := by omega
                        have i0 := ((HI3.out _ HY.out).cell (j * 2)).trans (HSe.out j hjn).1
                        have i1 := ((HI3.out _ HY.out).cell (j * 2 + 1)).trans (HSe.out j hjn).2
                        have il := (HI3.out _ HY.out).lt
                        have k0 := (HK3.out _ HY.out).cell 0
                        have k1 := (HK3.out _ HY.out).cell 1
                        have kl := (HK3.out _ HY.out).lt
                        have HYn := Lib.hid (HX3v.out.trans HY.out)
                        have a0 := (HB0.out _ HYn.out).cell 0
                        have al := (HB0.out _ HYn.out).lt
                        have l0 := (HB1.out _ HYn.out).cell 0
                        have ll := (HB1.out _ HYn.out).lt
                        have HSjj := Lib.hid (HSj.out j)
                        have HAj := Lib.hid (HAk.out j hjn)
                        generalize hxj : selP (xpn, xin) (ypn, yin) j = xj at *
                        clear hxj
                        have HXa : Hid (Ex wr (wr.alloc (.cells #[.int .i64 (xj.1 : Nat), .int .i64 (xj.2 : Nat)] 27))) := (Ex.refl _).alloc _
                        have HC := Lib.hid (HZg.out xk xj _ (HX0.out.trans (HYn.out.trans HXa.out)) HSk.out HSjj.out)
                        generalize accB l (msgs t) (xpn, xin) (ypn, yin) (2 * k + j) = pv at *
                        generalize zzB l (msgs t) xk xj = z at *
                        go_wp2_with fail
                        refine (HC.out).mono ?_
                        rintro e9 w5 ⟨rfl, hx5⟩
                        have HY2 := Lib.hid (HY.out.trans (HXa.out.trans hx5))
                        clear hx5 a0 al l0 ll k0 k1 kl i0 i1 il
                        cases pv with
                        | true =>
                          go_wp2_with fail
                          exact ⟨⟨j + 1, by go_num, by omega, by rw [HAj.out] <;> rfl, HY2⟩, by simp [intOf]; omega⟩
                        | false =>
                          go_wp2_with fail
                          exact ⟨⟨j + 1, by go_num, by omega, by rw [HAj.out] <;> rfl, HY2⟩, by simp [intOf]; omega⟩
                      · obtain rfl : j = 2 := by omega
                        go_wp2_with fail
                        exact ⟨⟨k + 1, by go_num, by omega, rfl, Lib.hid (HX.out.trans (HX3.out.trans HY.out))⟩, by simp [intOf]; omega⟩
                  · obtain rfl : k = 2 := by omega
                    have HR : Hid (tg = !(accB l (msgs t) (xpn, xin) (ypn, yin) (2 * 2))) := by
                      rw [HPi.out]
                      exact Lib.hid (by simp [accB, Bool.or_assoc])
                    have b0 := (HBt.out _ (HXW.out.trans HX.out)).cell 0
                    have bl := (HBt.out _ (HXW.out.trans HX.out)).lt
                    have HE := Lib.hid (HX0.out.trans (HXV.out.trans HX.out))
                    generalize accB l (msgs t) (xpn, xin) (ypn, yin) (2 * 2) = pv at *
                    have hR := HR.out
                    clear HPi HR
                    subst hR
                    cases pv with
                    | true =>
                      go_wp2_with fail
                      go_ret
                      exact Ret.mk rfl HE.out
                    | false =>
                      go_wp2_with fail
                      go_ret
                      exact Ret.mk rfl HE.out
end Go.Proofs.Ytdenojfbdkdpiaa
