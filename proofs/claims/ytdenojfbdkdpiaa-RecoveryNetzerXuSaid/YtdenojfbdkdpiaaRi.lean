/-
  The law RecoveryNetzerXu, walked.
  Conditions: as each theorem says.
-/
import Derived.Test.YtdenojfbdkdpiaaRh
namespace Go.Proofs.Ytdenojfbdkdpiaa
open Go.RowKit Go.Shelf
theorem enters_n1 : ∀ args w, (callFunc 29 args).run Try.prog w = .ok (.enter 29 args) w := enters_of Try.func29 (by kernel_rfl) rfl
theorem short_rows {l : List (List Int)} (h : shortB l = true) : ∀ r, r ∈ l → r.length ≤ 70 := by
  unfold shortB at h
  simp only [Bool.and_eq_true, decide_eq_true_eq, Bool.not_eq_true', List.any_eq_false] at h
  exact fun r hr => by have := h.2 r hr; omega
theorem SeenM.below {X Y : World} {b n k : Nat} {s : List (Nat × Nat)} (h : SeenM X b n s) (hb : Below k X Y) (hk : b < k) : SeenM Y b n s := by
  obtain ⟨D, ⟨es, clock, h1, h3⟩, h2⟩ := h
  exact ⟨D, ⟨es, clock, (hb.block b hk).trans h1, h3⟩, h2⟩
set_option maxHeartbeats 1600000 in
theorem netLines_c (t : List Pr) (A : Option Addr) (c : Nat) (l : List (List Int)) (B : Option Addr) (lc : Nat) (nl nm mb : Nat) (wd w : World) (hT : TcC wd A t) (hs : TSm t) (hv : cpB t l = true) (hL : LlC wd B l) (hls : LSm l) (hlen : l.length ≤ 12) (hsz : totL l ≤ 2000) (bl : Blk wd nl 25 [.slice B l.length lc]) (hxd : Ex wd w) (hmb : wd.heap.size ≤ mb) (hM : SeenM w mb 0 []) (hm : Blk w nm 53 [.map (some mb)]) :
    Calls Try.prog 18 #[.agg #[.slice A t.length c], .slice B l.length lc, .func (.func 29) #[] #[.pointer (some ⟨nl, 0, none⟩), .pointer (some ⟨nm, 0, none⟩)]] w (fun e w' => e = .returned (.tuple #[]) ∧ (∃ n, SeenM w' mb n (usedL l ((prodL l).filter (conB t)))) ∧ Blk w' nm 53 [.map (some mb)] ∧ Ex wd w') := by
  have hasc := cp_asc (cp_of hv).2
  refine (lines_c (N := 29) (caps := #[.pointer (some ⟨nl, 0, none⟩), .pointer (some ⟨nm, 0, none⟩)]) enters_n1 t A c l B lc (fun vs w' => SeenM w' mb (vs.length * l.length) (usedL l vs) ∧ Blk w' nm 53 [.map (some mb)]) wd w hT hs hv hL hls hxd ⟨by simpa [usedL] using hM, hm⟩ ?_ ?_).mono ?_
  · rintro vs X Y ⟨h1, h2⟩ hb
    exact ⟨h1.below hb hM.lt, (hb.block _ hm.lt).trans h2⟩
  · rintro vs cs Ac cc w' ⟨h1, h2⟩ hX hC hcl hLi hlt
    have hb : vs.length * l.length ≤ 2000 * 12 := Nat.mul_le_mul (by omega) hlen
    refine (netF_c l B lc cs Ac cc nl nm mb (vs.length * l.length) (usedL l vs) w' (hL.ex hX) hls hasc (by omega) hC (bl.ex hX) h2 h1 (by omega)).mono ?_
    rintro e w'' ⟨rfl, hS, hg⟩
    refine ⟨rfl, ⟨?_, h2.grown hg ?_⟩, ⟨hg.size, ?_, ?_⟩⟩
    · rw [usedL_snoc, List.length_append, List.length_singleton, Nat.add_mul, Nat.one_mul]
      exact hS
    · exact fun h => h2.noMap h1 (by cases h; rfl)
    · intro k hk hkw
      exact hg.block k hkw (fun h => by cases h; exact absurd hM.lt (Nat.not_lt.2 hk))
    · intro h
      exact h.grown hg (fun k hk => by cases hk; exact hmb)
  · rintro e w' ⟨rfl, ⟨hJ, hB⟩, hx, -⟩
    exact ⟨rfl, ⟨_, hJ⟩, hB, hx⟩
set_option maxRecDepth 100000 in
set_option maxHeartbeats 6400000 in
theorem netzer_law (t : List Pr) (A : Option Addr) (c : Nat) (l : List (List Int)) (B : Option Addr) (lc : Nat) (w : World) (hT : TcC w A t) (hcap : t.length ≤ c) (hL : LlC w B l) (htl : t.length ≤ 281474976710656) (hbig : ∀ x, x ∈ t → x.evs.length ≤ 281474976710656) :
    Calls Try.prog 6 #[.agg #[.slice A t.length c], .slice B l.length lc] w (Ret w (.bool true)) := by
  have HAw := Lib.hid awake_c
  have HFw := Lib.hid (fun w' (h : Ex w w') => few_c t A c 16 w' (hT.ex h) (by decide) htl hbig)
  have HSh := Lib.hid (fun w' (h : Ex w w') => short_c l B lc w' (hL.ex h))
  obtain ⟨W0, hW0⟩ : ∃ W0, W0 = (w.alloc (.cells #[.slice A t.length c] 24)).alloc (.cells #[.slice B l.length lc] 25) := ⟨_, rfl⟩
  have HX0 : Hid (Ex w W0) := by rw [hW0]; exact ((Ex.refl w).alloc _).alloc _
  have HB0 : Hid (∀ w', Ex W0 w' → Blk w' w.heap.size 24 [.slice A t.length c]) := fun w' hx => by
    have : Blk W0 w.heap.size 24 [.slice A t.length c] := by rw [hW0]; exact (Blk.new w _ _).alloc _
    exact this.ex hx
  have HB1 : Hid (∀ w', Ex W0 w' → Blk w' (w.heap.size + 1) 25 [.slice B l.length lc]) := fun w' hx => by
    have : Blk W0 (w.heap.size + 1) 25 [.slice B l.length lc] := by
      rw [hW0, show w.heap.size + 1 = (w.alloc (.cells #[.slice A t.length c] 24)).heap.size by simp]
      exact Blk.new _ _ _
    exact this.ex hx
  have HW0 := Lib.hid hW0
  clear hW0
  cases hfw : fewB t 16 with
  | false =>
    rw [hfw] at HFw
    clear hT hcap hL htl hbig hfw
    go_enter Try.func6, Try.ntmps6
    go_wp2_with fail
    rw [← HW0.out]
    refine (HAw.out _).mono ?_
    rintro e9 w1 ⟨rfl, hx1⟩
    have HX1 := Lib.hid (hx1)
    clear hx1
    have a0 := (HB0.out _ HX1.out).cell 0
    have al := (HB0.out _ HX1.out).lt
    have l0 := (HB1.out _ HX1.out).cell 0
    have ll := (HB1.out _ HX1.out).lt
    go_wp2_with fail
    clear a0 al l0 ll
    refine (HFw.out _ (HX0.out.trans HX1.out)).mono ?_
    rintro e9 w2 ⟨rfl, hx2⟩
    have HX2 := Lib.hid (HX1.out.trans hx2)
    clear hx2
    have a0 := (HB0.out _ HX2.out).cell 0
    have al := (HB0.out _ HX2.out).lt
    have l0 := (HB1.out _ HX2.out).cell 0
    have ll := (HB1.out _ HX2.out).lt
    go_wp2_with fail
    clear a0 al l0 ll
    refine (HAw.out _).mono ?_
    rintro e9 w9 ⟨rfl, hx9⟩
    have HX9 := Lib.hid (HX2.out.trans hx9)
    clear hx9
    go_wp2_with fail
    go_ret
    exact Ret.mk rfl (HX0.out.trans HX9.out)
  | true =>
    rw [hfw] at HFw
    obtain ⟨hs, hsum, htl10⟩ := few_small (by decide) hfw
    cases hsh : shortB l with
    | false =>
      rw [hsh] at HSh
      clear hT hcap hL htl hbig hfw hsh hs htl10 hsum
      go_enter Try.func6, Try.ntmps6
      go_wp2_with fail
      rw [← HW0.out]
      refine (HAw.out _).mono ?_
      rintro e9 w1 ⟨rfl, hx1⟩
      have HX1 := Lib.hid (hx1)
      clear hx1
      have a0 := (HB0.out _ HX1.out).cell 0
      have al := (HB0.out _ HX1.out).lt
      have l0 := (HB1.out _ HX1.out).cell 0
      have ll := (HB1.out _ HX1.out).lt
      go_wp2_with fail
      clear a0 al l0 ll
      refine (HFw.out _ (HX0.out.trans HX1.out)).mono ?_
      rintro e9 w2 ⟨rfl, hx2⟩
      have HX2 := Lib.hid (HX1.out.trans hx2)
      clear hx2
      have a0 := (HB0.out _ HX2.out).cell 0
      have al := (HB0.out _ HX2.out).lt
      have l0 := (HB1.out _ HX2.out).cell 0
      have ll := (HB1.out _ HX2.out).lt
      go_wp2_with fail
      clear a0 al l0 ll
      refine (HSh.out _ (HX0.out.trans HX2.out)).mono ?_
      rintro e9 w3 ⟨rfl, hx3⟩
      have HX3 := Lib.hid (HX2.out.trans hx3)
      clear hx3
      have a0 := (HB0.out _ HX3.out).cell 0
      have al := (HB0.out _ HX3.out).lt
      have l0 := (HB1.out _ HX3.out).cell 0
      have ll := (HB1.out _ HX3.out).lt
      go_wp2_with fail
      clear a0 al l0 ll
      refine (HAw.out _).mono ?_
      rintro e9 w9 ⟨rfl, hx9⟩
      have HX9 := Lib.hid (HX3.out.trans hx9)
      clear hx9
      go_wp2_with fail
      go_ret
      exact Ret.mk rfl (HX0.out.trans HX9.out)
    | true =>
      rw [hsh] at HSh
      have hls := short_small hsh
      have HV := Lib.hid (fun w' (h : Ex w w') => rCp_c t A c l B lc w' (hT.ex h) hs (hL.ex h) hls)
      cases hv : cpB t l with
      | false =>
        rw [hv] at HV
        clear hT hcap hL htl hbig hfw hsh hs htl10 hsum hls
        go_enter Try.func6, Try.ntmps6
        go_wp2_with fail
        rw [← HW0.out]
        refine (HAw.out _).mono ?_
        rintro e9 w1 ⟨rfl, hx1⟩
        have HX1 := Lib.hid (hx1)
        clear hx1
        have a0 := (HB0.out _ HX1.out).cell 0
        have al := (HB0.out _ HX1.out).lt
        have l0 := (HB1.out _ HX1.out).cell 0
        have ll := (HB1.out _ HX1.out).lt
        go_wp2_with fail
        clear a0 al l0 ll
        refine (HFw.out _ (HX0.out.trans HX1.out)).mono ?_
        rintro e9 w2 ⟨rfl, hx2⟩
        have HX2 := Lib.hid (HX1.out.trans hx2)
        clear hx2
        have a0 := (HB0.out _ HX2.out).cell 0
        have al := (HB0.out _ HX2.out).lt
        have l0 := (HB1.out _ HX2.out).cell 0
        have ll := (HB1.out _ HX2.out).lt
        go_wp2_with fail
        clear a0 al l0 ll
        refine (HSh.out _ (HX0.out.trans HX2.out)).mono ?_
        rintro e9 w3 ⟨rfl, hx3⟩
        have HX3 := Lib.hid (HX2.out.trans hx3)
        clear hx3
        have a0 := (HB0.out _ HX3.out).cell 0
        have al := (HB0.out _ HX3.out).lt
        have l0 := (HB1.out _ HX3.out).cell 0
        have ll := (HB1.out _ HX3.out).lt
        go_wp2_with fail
        clear a0 al l0 ll
        refine (HV.out _ (HX0.out.trans HX3.out)).mono ?_
        rintro e9 w4 ⟨rfl, hx4⟩
        have HX4 := Lib.hid (HX3.out.trans hx4)
        clear hx4
        have a0 := (HB0.out _ HX4.out).cell 0
        have al := (HB0.out _ HX4.out).lt
        have l0 := (HB1.out _ HX4.out).cell 0
        have ll := (HB1.out _ HX4.out).lt
        go_wp2_with fail
        clear a0 al l0 ll
        refine (HAw.out _).mono ?_
        rintro e9 w9 ⟨rfl, hx9⟩
        have HX9 := Lib.hid (HX4.out.trans hx9)
        clear hx9
        go_wp2_with fail
        go_ret
        exact Ret.mk rfl (HX0.out.trans HX9.out)
      | true =>
        rw [hv] at HV
        have HSz := Lib.hid (fun w' (h : Ex w w') => size_c l B lc w' (hL.ex h) hls)
        by_cases hz : 500 < sizeL l
        · have s1 : decide ((500 : Int) < ((sizeL l : Nat) : Int)) = true := decide_eq_true (by omega)
          clear hT hcap hL htl hbig hfw hsh hs htl10 hsum hls hv hz
          generalize ((sizeL l : Nat) : Int) = sz at *
          go_enter Try.func6, Try.ntmps6
          go_wp2_with fail
          rw [← HW0.out]
          refine (HAw.out _).mono ?_
          rintro e9 w1 ⟨rfl, hx1⟩
          have HX1 := Lib.hid (hx1)
          clear hx1
          have a0 := (HB0.out _ HX1.out).cell 0
          have al := (HB0.out _ HX1.out).lt
          have l0 := (HB1.out _ HX1.out).cell 0
          have ll := (HB1.out _ HX1.out).lt
          go_wp2_with fail
          clear a0 al l0 ll
          refine (HFw.out _ (HX0.out.trans HX1.out)).mono ?_
          rintro e9 w2 ⟨rfl, hx2⟩
          have HX2 := Lib.hid (HX1.out.trans hx2)
          clear hx2
          have a0 := (HB0.out _ HX2.out).cell 0
          have al := (HB0.out _ HX2.out).lt
          have l0 := (HB1.out _ HX2.out).cell 0
          have ll := (HB1.out _ HX2.out).lt
          go_wp2_with fail
          clear a0 al l0 ll
          refine (HSh.out _ (HX0.out.trans HX2.out)).mono ?_
          rintro e9 w3 ⟨rfl, hx3⟩
          have HX3 := Lib.hid (HX2.out.trans hx3)
          clear hx3
          have a0 := (HB0.out _ HX3.out).cell 0
          have al := (HB0.out _ HX3.out).lt
          have l0 := (HB1.out _ HX3.out).cell 0
          have ll := (HB1.out _ HX3.out).lt
          go_wp2_with fail
          clear a0 al l0 ll
          refine (HV.out _ (HX0.out.trans HX3.out)).mono ?_
          rintro e9 w4 ⟨rfl, hx4⟩
          have HX4 := Lib.hid (HX3.out.trans hx4)
          clear hx4
          have a0 := (HB0.out _ HX4.out).cell 0
          have al := (HB0.out _ HX4.out).lt
          have l0 := (HB1.out _ HX4.out).cell 0
          have ll := (HB1.out _ HX4.out).lt
          go_wp2_with fail
          clear a0 al l0 ll
          refine (HSz.out _ (HX0.out.trans HX4.out)).mono ?_
          rintro e9 w5 ⟨rfl, hx5⟩
          have HX5 := Lib.hid (HX4.out.trans hx5)
          clear hx5
          have a0 := (HB0.out _ HX5.out).cell 0
          have al := (HB0.out _ HX5.out).lt
          have l0 := (HB1.out _ HX5.out).cell 0
          have ll := (HB1.out _ HX5.out).lt
          go_wp2_with fail
          clear a0 al l0 ll
          refine (HAw.out _).mono ?_
          rintro e9 w9 ⟨rfl, hx9⟩
          have HX9 := Lib.hid (HX5.out.trans hx9)
          clear hx9
          go_wp2_with fail
          go_ret
          exact Ret.mk rfl (HX0.out.trans HX9.out)
        · have s1 : decide ((500 : Int) < ((sizeL l : Nat) : Int)) = false := decide_eq_false (by omega)
          have hlt : l.length ≤ 10 := by rw [(cp_of hv).2.1]; exact htl10
          have htot : totL l ≤ 2000 := Nat.le_of_lt (size_tot (fun r hr h => by
            obtain ⟨p, hp⟩ := List.mem_iff_getElem?.1 hr
            have := asc_pos (cp_asc (cp_of hv).2 p r hp)
            rw [h] at this
            exact absurd this (Nat.lt_irrefl _)) (by omega))
          have hck : ∀ p j, p < l.length → j ≤ (l.getD p []).length → (ckU l p j).length ≤ 1000000 := fun p j hp hj => by
            have h2 := ckU_le (short_rows hsh) p j
            have h4 : (l.getD p []).length ≤ 70 := by
              rw [List.getD_eq_getElem?_getD]
              cases hr : l[p]? with
              | none => simp
              | some r => exact short_rows hsh r (List.mem_of_getElem? hr)
            omega
          have hckl : (ckU l l.length 0).length ≤ 1000000 := by
            have h2 := ckU_le (short_rows hsh) l.length 0
            omega
          have HUs := Lib.hid (fun w' (h : Ex w w') => pUseless_c t A c l B lc w' (hT.ex h) hs hcap (hL.ex h) hls hck)
          have HCk := Lib.hid (fun w' (h : Ex w w') => rCks_c l B lc w' (hL.ex h) hls hck)
          have HLn := Lib.hid (fun wd w' nm mb (h : Ex w wd) (bl : Blk wd (w.heap.size + 1) 25 [.slice B l.length lc]) (hx : Ex wd w') (hmb : wd.heap.size ≤ mb) (hM : SeenM w' mb 0 []) (hm : Blk w' nm 53 [.map (some mb)]) => netLines_c t A c l B lc (w.heap.size + 1) nm mb wd w' (hT.ex h) hs hv (hL.ex h) hls (by omega) htot bl hx hmb hM hm)
          have HZg := Lib.hid (fun (p : Nat × Nat) w' (h : Ex w w') (hp : CkP l p) => zigT_c t A c l B lc p p w' (hT.ex h) hs hcap (hL.ex h) hls hv hp hp)
          have HSm := Lib.hid (fun (xs : List (Nat × Nat)) A1 A2 k1 k2 w' (h1 : Row w' A1 (idCs xs)) (h2 : Row w' A2 (idCs xs)) (hl : xs.length ≤ 1000000000) => sameIds_c xs A1 A2 k1 k2 w' h1 h2 hl)
          have HUi := Lib.hid (fun (x : Nat × Nat) (hx : CkP l x) => used_iff hv hx)
          have HCp := Lib.hid (fun (k : Nat) (x : Nat × Nat) (hk : (ckU l l.length 0)[k]? = some x) => mem_ckU.1 (List.mem_of_getElem? hk))
          have HFt : Hid (∀ x, CkP l x → FitI x) := fun x hx => ⟨by have := hx.1; omega, by
            have h1 := hx.2.2
            have h4 : (l.getD x.1 []).length ≤ 70 := by
              rw [List.getD_eq_getElem?_getD]
              cases hr : l[x.1]? with
              | none => simp
              | some r => exact short_rows hsh r (List.mem_of_getElem? hr)
            omega⟩
          unfold UseR at HUs
          have HV0 := Lib.hid hv
          have HUn := Lib.hid (useL_snoc l (msgs t))
          have HUt : Hid (∀ k, (useL l (msgs t) ((ckU l l.length 0).take k)).length ≤ 1000000) := fun k => Nat.le_trans (List.length_filter_le _ _) (Nat.le_trans (List.length_take_le' _ _) hckl)
          obtain ⟨i0, hi0, hz0, hz1, hz2⟩ := info_parts infoId
          clear hT hcap hL htl hbig hfw hsh hs htl10 hsum hls hv hz hck hlt htot
          generalize usedL l ((prodL l).filter (conB t)) = us at *
          generalize ckU l l.length 0 = U at *
          generalize msgs t = M at *
          generalize ((sizeL l : Nat) : Int) = sz at *
          go_enter Try.func6, Try.ntmps6
          go_wp2_with fail
          rw [← HW0.out]
          refine (HAw.out _).mono ?_
          rintro e9 w1 ⟨rfl, hx1⟩
          have HX1 := Lib.hid (hx1)
          clear hx1
          have a0 := (HB0.out _ HX1.out).cell 0
          have al := (HB0.out _ HX1.out).lt
          have l0 := (HB1.out _ HX1.out).cell 0
          have ll := (HB1.out _ HX1.out).lt
          go_wp2_with fail
          clear a0 al l0 ll
          refine (HFw.out _ (HX0.out.trans HX1.out)).mono ?_
          rintro e9 w2 ⟨rfl, hx2⟩
          have HX2 := Lib.hid (HX1.out.trans hx2)
          clear hx2
          have a0 := (HB0.out _ HX2.out).cell 0
          have al := (HB0.out _ HX2.out).lt
          have l0 := (HB1.out _ HX2.out).cell 0
          have ll := (HB1.out _ HX2.out).lt
          go_wp2_with fail
          clear a0 al l0 ll
          refine (HSh.out _ (HX0.out.trans HX2.out)).mono ?_
          rintro e9 w3 ⟨rfl, hx3⟩
          have HX3 := Lib.hid (HX2.out.trans hx3)
          clear hx3
          have a0 := (HB0.out _ HX3.out).cell 0
          have al := (HB0.out _ HX3.out).lt
          have l0 := (HB1.out _ HX3.out).cell 0
          have ll := (HB1.out _ HX3.out).lt
          go_wp2_with fail
          clear a0 al l0 ll
          refine (HV.out _ (HX0.out.trans HX3.out)).mono ?_
          rintro e9 w4 ⟨rfl, hx4⟩
          have HX4 := Lib.hid (HX3.out.trans hx4)
          clear hx4
          have a0 := (HB0.out _ HX4.out).cell 0
          have al := (HB0.out _ HX4.out).lt
          have l0 := (HB1.out _ HX4.out).cell 0
          have ll := (HB1.out _ HX4.out).lt
          go_wp2_with fail
          clear a0 al l0 ll
          refine (HSz.out _ (HX0.out.trans HX4.out)).mono ?_
          rintro e9 w5 ⟨rfl, hx5⟩
          have HX5 := Lib.hid (HX4.out.trans hx5)
          clear hx5
          have a0 := (HB0.out _ HX5.out).cell 0
          have al := (HB0.out _ HX5.out).lt
          have l0 := (HB1.out _ HX5.out).cell 0
          have ll := (HB1.out _ HX5.out).lt
          go_wp2_with fail
          clear a0 al l0 ll
          refine (HUs.out _ (HX0.out.trans HX5.out)).mono ?_
          rintro e9 w6 h6
          obtain ⟨UA, uc, rfl, hU6, hx6⟩ : ∃ A c, e9 = .returned (.tuple #[.slice A (useL l M U).length c, .int .i64 0]) ∧ OwnO w6 w5.heap.size 27 2 (.slice A (useL l M U).length c) (useL l M U).length (idCs (useL l M U)) ∧ Ex w5 w6 := by
            rcases h6 with ⟨h, -⟩ | ⟨-, h⟩
            · rw [HV0.out] at h; cases h
            · exact h
          have HX6 := Lib.hid (HX5.out.trans hx6)
          have HUr := Lib.hid hU6.row
          clear h6 hU6 hx6
          have hmm := @run_makeMap Try.prog
          have a0 := (HB0.out _ HX6.out).cell 0
          have al := (HB0.out _ HX6.out).lt
          have l0 := (HB1.out _ HX6.out).cell 0
          have ll := (HB1.out _ HX6.out).lt
          go_wp2_with fail
          clear a0 al l0 ll
          obtain ⟨W1, hW1⟩ : ∃ W1, W1 = (w6.alloc (.map #[] 0)).alloc (.cells #[.map (some w6.heap.size)] 53) := ⟨_, rfl⟩
          have HXW : Hid (Ex w6 W1) := by rw [hW1]; exact ((Ex.refl _).alloc _).alloc _
          have HM1 : Hid (SeenM W1 w6.heap.size 0 []) := by rw [hW1]; exact (SeenM.made w6).ex ((Ex.refl _).alloc _)
          have HB2 : Hid (Blk W1 (w6.heap.size + 1) 53 [.map (some w6.heap.size)]) := by
            rw [hW1, show w6.heap.size + 1 = (w6.alloc (.map #[] 0)).heap.size by simp]
            exact Blk.new _ _ _
          have HLn1 := Lib.hid (HLn.out w6 W1 (w6.heap.size + 1) w6.heap.size (HX0.out.trans HX6.out) (HB1.out _ HX6.out) HXW.out (Nat.le_refl _) HM1.out HB2.out)
          have HW1 := Lib.hid hW1
          clear hW1 hmm
          rw [← HW1.out]
          refine (HLn1.out).mono ?_
          rintro e9 w7 ⟨rfl, ⟨sn, hS7⟩, hm7, hx7⟩
          have HX7 := Lib.hid (HX6.out.trans hx7)
          have HS7 : Hid (∀ w', Ex w7 w' → SeenM w' w6.heap.size sn us) := fun w' h => hS7.ex h
          have HB7 : Hid (∀ w', Ex w7 w' → Blk w' (w6.heap.size + 1) 53 [.map (some w6.heap.size)]) := fun w' h => hm7.ex h
          have HUr7 : Hid (∀ w', Ex w7 w' → Row w' UA (idCs (useL l M U))) := fun w' h => HUr.out.ex (hx7.trans h)
          clear hS7 hm7 hx7 HLn1 HM1 HB2 HXW HW1 HUr
          generalize w6.heap.size = mb at *
          have a0 := (HB0.out _ HX7.out).cell 0
          have al := (HB0.out _ HX7.out).lt
          have l0 := (HB1.out _ HX7.out).cell 0
          have ll := (HB1.out _ HX7.out).lt
          go_wp2_with fail
          clear a0 al l0 ll
          refine (HCk.out _ (HX0.out.trans HX7.out)).mono ?_
          rintro e9 w8 ⟨CA, cc, rfl, hO8, hx8⟩
          have HX8 := Lib.hid (HX7.out.trans hx8)
          have HY8 := Lib.hid hx8
          have HCr : Hid (∀ w', Ex w8 w' → Row w' CA (idCs U)) := fun w' h => hO8.row.ex h
          clear hO8 hx8
          go_wp2_with fail
          go_loopw [8, 53] (fun ov q wr => ∃ (k : Nat) (A2 : Option Addr) (c2 : Nat), q = .int .i64 k ∧ k ≤ U.length ∧ ov = .slice A2 (useL l M (U.take k)).length c2 ∧ Hid (OwnO wr w8.heap.size 27 2 (.slice A2 (useL l M (U.take k)).length c2) (useL l M (U.take k)).length (idCs (useL l M (U.take k))) ∧ Ex w8 wr)) (fun _ q _ => U.length - (intOf q).toNat)
          case atStart => exact ⟨0, none, 0, rfl, Nat.zero_le _, rfl, Lib.hid ⟨OwnO.nil _ _ _ _, Ex.refl _⟩⟩
          case round =>
            obtain ⟨k, A2, c2, rfl, hk, rfl, HH⟩ := hrel
            by_cases hkl : k < U.length
            · have m0 : (0 : Int) ≤ (k : Int) := by omega
              have m1 : (k : Int) < (U.length : Int) := by omega
              obtain ⟨x, hx⟩ := get_at hkl
              have HCx := Lib.hid (HCp.out k x hx)
              have HFx := Lib.hid (HFt.out x HCx.out)
              have HSt : Hid (useL l M (U.take (k + 1)) = useL l M (U.take k) ++ (if zzB l M x x = true then [x] else [])) := by
                rw [List.take_add_one, hx]
                exact HUn.out _ _
              obtain ⟨b, o, hA, hb, i0', i1'⟩ := idRow_at (HCr.out _ HH.out.2) hx
              subst hA
              have hul := HUt.out k
              have HXr := Lib.hid (HX8.out.trans HH.out.2)
              have HXa : Hid (Ex wr (wr.alloc (.cells #[.int .i64 (x.1 : Nat), .int .i64 (x.2 : Nat)] 27))) := (Ex.refl _).alloc _
              have HBa : Hid (Blk (wr.alloc (.cells #[.int .i64 (x.1 : Nat), .int .i64 (x.2 : Nat)] 27)) wr.heap.size 27 [.int .i64 (x.1 : Nat), .int .i64 (x.2 : Nat)]) := Blk.new wr _ _
              have HC := Lib.hid (HZg.out x _ (HX0.out.trans (HXr.out.trans HXa.out)) HCx.out)
              have HUx := Lib.hid (HUi.out x HCx.out)
              have a0 := (HB0.out _ HXr.out).cell 0
              have al := (HB0.out _ HXr.out).lt
              have l0 := (HB1.out _ HXr.out).cell 0
              have ll := (HB1.out _ HXr.out).lt
              clear hx
              generalize zzB l M x x = z at *
              go_wp2_with fail
              refine (HC.out).mono ?_
              rintro e9 w5' ⟨rfl, hx5⟩
              have HX5' := Lib.hid (HH.out.2.trans (HXa.out.trans hx5))
              have hb5 := HBa.out.ex hx5
              have q0 := hb5.cell 0
              have q1 := hb5.cell 1
              have ql := hb5.lt
              have r0 := (HB7.out _ (HY8.out.trans HX5'.out)).cell 0
              have rl := (HB7.out _ (HY8.out.trans HX5'.out)).lt
              have hlk : (Instr.lookup 53 (.map (some mb)) (.agg #[.int .i64 (x.1 : Nat), .int .i64 (x.2 : Nat)]) false).run Try.prog w5' = .ok (.bool (!z)) w5' := by
                rw [← HUx.out]
                exact (HS7.out _ (HY8.out.trans HX5'.out)).look HFx.out
              have HO5 := Lib.hid (HH.out.1.ex (HXa.out.trans hx5))
              clear a0 al l0 ll hb5 hb i0' i1' hx5
              cases z with
              | false =>
                have HN : Hid (useL l M (U.take (k + 1)) = useL l M (U.take k)) := by
                  rw [HSt.out]
                  exact Lib.hid (by simp)
                clear HSt HUx
                go_wp2_with fail
                refine ⟨⟨k + 1, A2, c2, by go_num, by omega, by rw [HN.out], Lib.hid ⟨by rw [HN.out]; exact HO5.out, HX5'.out⟩⟩, by simp [intOf]; omega⟩
              | true =>
                have HN : Hid (useL l M (U.take (k + 1)) = useL l M (U.take k) ++ [x]) := by
                  rw [HSt.out]
                  exact Lib.hid (by simp)
                clear HSt HUx
                generalize useL l M (U.take k) = S at *
                generalize hS2 : useL l M (U.take (k + 1)) = S2 at *
                have HS2 := Lib.hid hS2
                clear hS2
                have hXs : Ex w5' (w5'.alloc (.cells #[.int .i64 (x.1 : Nat), .int .i64 (x.2 : Nat)] 27)) := (Ex.refl _).alloc _
                have HOs := Lib.hid (HO5.out.ex hXs)
                have HXs := Lib.hid (HX5'.out.trans hXs)
                have hbase := HX5'.out.below.size
                clear hXs
                go_wp2_with (at_builtin; refine wpList_append_one _ rfl _ _ 41 rfl w8.heap.size 27 i0 _ 2 16 Try.underlying41 hi0 hz0 hz1 hz2 rfl (.slice A2 S.length c2) S.length (idCs S) rfl HOs.out w5'.heap.size [.int .i64 (x.1 : Nat), .int .i64 (x.2 : Nat)] rfl rfl ?c1 ?c2 ?c3 ?c4 ?c5 ?_)
                case c1 => exact news_new rfl (by simp)
                case c2 => exact one_ints (by simp)
                case c3 => omega
                case c4 => omega
                case c5 => simp; omega
                intro A4 c4 w6' ho hg hat hEx
                have HX6' := Lib.hid (hEx w8 HXs.out (Nat.le_refl _))
                have hl2 : S2.length = S.length + 1 := by rw [HN.out]; simp
                have HO6 : Hid (OwnO w6' w8.heap.size 27 2 (.slice A4 S2.length c4) S2.length (idCs S2)) := by
                  rw [hl2, HN.out, idCs_snoc]
                  exact ho
                clear ho hg hat hEx q0 q1 ql r0 rl hlk
                go_wp2_with fail
                refine ⟨⟨k + 1, A4, c4, by go_num, by omega, by rw [HS2.out, hl2], Lib.hid ⟨by rw [HS2.out]; exact HO6.out, HX6'.out⟩⟩, by simp [intOf]; omega⟩
            · obtain rfl : k = U.length := by omega
              have s1 : decide ((U.length : Int) < (U.length : Int)) = false := decide_eq_false (by omega)
              have hut := HUt.out U.length
              rw [List.take_length] at HH hut ⊢
              have HE := Lib.hid (HX0.out.trans (HX8.out.trans HH.out.2))
              have HSm1 := Lib.hid (HSm.out (useL l M U) UA A2 uc c2 wr (HUr7.out _ (HY8.out.trans HH.out.2)) HH.out.1.row (by omega))
              go_wp2_with fail
              refine (HSm1.out).mono ?_
              rintro e9 w9 ⟨rfl, hx9⟩
              go_wp2_with fail
              go_ret
              exact Ret.mk rfl (HE.out.trans hx9)
end Go.Proofs.Ytdenojfbdkdpiaa
