/-
  The program's Zigzag, walked. The reference's Messages and Interval, walked. The reference's Zigzag, walked.
  Conditions: as each theorem says.
-/
import Derived.Test.YtdenojfbdkdpiaaYl
import Derived.Test.YtdenojfbdkdpiaaYj
import Derived.Deep.RegionHeld3
import Derived.Deep.CutRange
namespace Go.Proofs.Ytdenojfbdkdpiaa
section
open Go.RowKit Go.Shelf
theorem cp_asc {t : List Pr} {l : List (List Int)} (h : cpP t l) : ∀ (p : Nat) (r : List Int), l[p]? = some r → Asc r := fun p r hr => (h.2 p r hr).asc
theorem msg_is {t : List Pr} (hP : Paired t) {m : Msg} (h : m ∈ msgs t) : IsMsg t m := by
  have hin := rcv_mem hP h
  obtain ⟨x, -, hx⟩ := List.mem_flatMap.1 h
  unfold rcvE at hx
  split at hx
  · rename_i e he
    split at hx
    · rename_i hk
      rw [List.mem_singleton.1 hx] at hin ⊢
      have hi : InT t (x.1, x.2 + 1) := ⟨by simp, evAt_lt he⟩
      obtain ⟨-, f, h1, h2, h3⟩ := find_sent hP (y := (x.1, x.2 + 1)) hi he hk
      exact ⟨f, e, hin.1, hin.2, h1, he, h2, hk, h3⟩
    · exact absurd hx List.not_mem_nil
  · exact absurd hx List.not_mem_nil
theorem msg_fit {t : List Pr} {l : List (List Int)} (hP : Paired t) (hc : cpP t l) : LFit (msgs t) l := by
  refine ⟨cp_asc hc, fun m hm => ?_, fun m hm r hr => ?_⟩
  · obtain ⟨h1, h2⟩ := rcv_mem hP hm
    exact ⟨by rw [hc.1]; exact in_proc h1, by rw [hc.1]; exact in_proc h2, h2.1⟩
  · obtain ⟨h1, -⟩ := rcv_mem hP hm
    have := (hc.2 _ r hr).2.1
    exact ⟨_, List.mem_iff_getElem?.2 ⟨_, this⟩, by have := h1.2; omega⟩
theorem evN_le {t : List Pr} (hs : TSm t) (q : Nat) : evN t q ≤ 100000 := by
  unfold evN
  cases h : t[q]? with
  | none => simp
  | some x => exact (hs.each x (List.mem_of_getElem? h)).2.2.1
theorem msg_small {t : List Pr} (hs : TSm t) (hP : Paired t) {m : Msg} (h : m ∈ msgs t) : FitM m := by
  obtain ⟨h1, h2⟩ := rcv_mem hP h
  have a1 := in_proc h1
  have a2 := in_proc h2
  have a3 := h1.2
  have a4 := h2.2
  have b1 := evN_le hs m.1.1
  have b2 := evN_le hs m.2.1
  have b3 := hs.procs
  exact ⟨⟨by omega, by omega⟩, ⟨by omega, by omega⟩⟩
theorem ck_p {l : List (List Int)} {p i : Int} (h : ckB l p i = true) : CkP l (p.toNat, i.toNat) ∧ p = (p.toNat : Int) ∧ i = (i.toNat : Int) := by
  unfold ckB at h
  simp only [Bool.and_eq_true, decide_eq_true_eq] at h
  obtain ⟨h1, h2, h3, h4⟩ := h
  exact ⟨⟨by show p.toNat < _; omega, by show 1 ≤ i.toNat; omega, by show i.toNat ≤ (l.getD p.toNat []).length; omega⟩, by omega, by omega⟩
theorem OwnO.row {w : World} {base e size n cap : Nat} {D : Option Addr} {xs : List Value} (h : OwnO w base e size (.slice D n cap) n xs) : Row w D xs := by
  by_cases hn : 0 < n
  · obtain ⟨g, o, c, he, -, -, -, hlt, hc⟩ := h.open_ hn
    cases he
    exact .inr ⟨g, o, rfl, hlt, hc⟩
  · have := h.1
    obtain rfl : n = 0 := by omega
    exact .inl (List.eq_nil_of_length_eq_zero (by omega))
/-- what Zigzag says -/
noncomputable def zigO (t : List Pr) (l : List (List Int)) (xp xi yp yi : Int) : Bool × Nat :=
  if cpB t l = false then (false, 1) else if (ckB l xp xi && ckB l yp yi) = false then (false, 2) else (zzB l (msgs t) (xp.toNat, xi.toNat) (yp.toNat, yi.toNat), 0)
set_option maxRecDepth 20000 in
set_option maxHeartbeats 3200000 in
theorem pZigzag_c (t : List Pr) (A : Option Addr) (c : Nat) (l : List (List Int)) (B : Option Addr) (lc : Nat) (xp xi yp yi : Int) (w : World) (hT : TcC w A t) (hs : TSm t) (hcap : t.length ≤ c) (hL : LlC w B l) (hls : LSm l) :
    Calls Try.prog 13 #[.agg #[.slice A t.length c], .slice B l.length lc, .agg #[.int .i64 xp, .int .i64 xi], .agg #[.int .i64 yp, .int .i64 yi]] w (Ret w (.tuple #[.bool (zigO t l xp xi yp yi).1, .int .i64 ((zigO t l xp xi yp yi).2 : Nat)])) := by
  have HV := Lib.hid (fun w' (h : Ex w w') => pCp_c t A c l B lc w' (hT.ex h) hs hcap (hL.ex h) hls)
  have HK := Lib.hid (fun p i w' (h : Ex w w') => pCheckpoint_c l B lc p i w' (hL.ex h))
  have HKx := Lib.hid (HK.out xp xi)
  have HKy := Lib.hid (HK.out yp yi)
  obtain ⟨W0, hW0⟩ : ∃ W0, W0 = ((w.alloc (.cells #[.slice A t.length c] 24)).alloc (.cells #[.int .i64 xp, .int .i64 xi] 27)).alloc (.cells #[.int .i64 yp, .int .i64 yi] 27) := ⟨_, rfl⟩
  have HX0 : Hid (Ex w W0) := by rw [hW0]; exact (((Ex.refl w).alloc _).alloc _).alloc _
  have HB0 : Hid (∀ w', Ex W0 w' → Blk w' w.heap.size 24 [.slice A t.length c]) := fun w' hx => by
    have : Blk W0 w.heap.size 24 [.slice A t.length c] := by rw [hW0]; exact ((Blk.new w _ _).alloc _).alloc _
    exact this.ex hx
  have HB1 : Hid (∀ w', Ex W0 w' → Blk w' (w.heap.size + 1) 27 [.int .i64 xp, .int .i64 xi]) := fun w' hx => by
    have : Blk W0 (w.heap.size + 1) 27 [.int .i64 xp, .int .i64 xi] := by
      rw [hW0, show w.heap.size + 1 = (w.alloc (.cells #[.slice A t.length c] 24)).heap.size by simp]
      exact (Blk.new _ _ _).alloc _
    exact this.ex hx
  have HB2 : Hid (∀ w', Ex W0 w' → Blk w' (w.heap.size + 1 + 1) 27 [.int .i64 yp, .int .i64 yi]) := fun w' hx => by
    have : Blk W0 (w.heap.size + 1 + 1) 27 [.int .i64 yp, .int .i64 yi] := by
      rw [hW0, show w.heap.size + 1 + 1 = ((w.alloc (.cells #[.slice A t.length c] 24)).alloc (.cells #[.int .i64 xp, .int .i64 xi] 27)).heap.size by simp]
      exact Blk.new _ _ _
    exact this.ex hx
  have HW0 := Lib.hid hW0
  clear hW0 HK
  unfold zigO
  cases hV : cpB t l with
  | false =>
    rw [hV] at HV
    simp only [if_true]
    clear hV hT hs hcap hL hls
    have x0 := (HB0.out _ (Ex.refl _)).cell 0
    have xl := (HB0.out _ (Ex.refl _)).lt
    go_enter Try.func13, Try.ntmps13
    go_wp2_with fail
    rw [← HW0.out]
    go_wp2_with fail
    refine (HV.out _ HX0.out).mono ?_
    rintro e9 w' ⟨rfl, z, rfl⟩
    go_wp2_with fail
    exact bodyPost_ret (results_tt rfl rfl rfl) rfl ⟨rfl, HX0.out.ext z⟩
  | true =>
    rw [hV] at HV
    have hv := cp_of hV
    simp only [Bool.true_eq_false, if_false]
    have x0 := (HB0.out _ (Ex.refl _)).cell 0
    have xl := (HB0.out _ (Ex.refl _)).lt
    cases hkx : ckB l xp xi with
    | false =>
      rw [hkx] at HKx
      simp only [Bool.false_and, if_true]
      clear hV hT hs hcap hL hls hv hkx
      go_enter Try.func13, Try.ntmps13
      go_wp2_with fail
      rw [← HW0.out]
      go_wp2_with fail
      refine (HV.out _ HX0.out).mono ?_
      rintro e9 w' ⟨rfl, hx1⟩
      have HX1 := Lib.hid hx1
      have y0 := (HB1.out _ hx1).cell 0
      have y1 := (HB1.out _ hx1).cell 1
      have yl := (HB1.out _ hx1).lt
      clear hx1
      go_wp2_with fail
      refine (HKx.out _ (HX0.out.trans HX1.out)).mono ?_
      rintro e9 w2 ⟨rfl, z2, rfl⟩
      go_wp2_with fail
      exact bodyPost_ret (results_tt rfl rfl rfl) rfl ⟨rfl, (HX0.out.trans HX1.out).ext z2⟩
    | true =>
      rw [hkx] at HKx
      have hcx := ck_p hkx
      cases hky : ckB l yp yi with
      | false =>
        rw [hky] at HKy
        simp only [Bool.and_false, if_true]
        clear hV hT hs hcap hL hls hv hkx hky hcx
        go_enter Try.func13, Try.ntmps13
        go_wp2_with fail
        rw [← HW0.out]
        go_wp2_with fail
        refine (HV.out _ HX0.out).mono ?_
        rintro e9 w' ⟨rfl, hx1⟩
        have HX1 := Lib.hid hx1
        have y0 := (HB1.out _ hx1).cell 0
        have y1 := (HB1.out _ hx1).cell 1
        have yl := (HB1.out _ hx1).lt
        clear hx1
        go_wp2_with fail
        refine (HKx.out _ (HX0.out.trans HX1.out)).mono ?_
        rintro e9 w2 ⟨rfl, hx2⟩
        have HX2 := Lib.hid (HX1.out.trans hx2)
        have z0 := (HB2.out _ HX2.out).cell 0
        have z1 := (HB2.out _ HX2.out).cell 1
        have zl := (HB2.out _ HX2.out).lt
        clear hx2
        go_wp2_with fail
        refine (HKy.out _ (HX0.out.trans HX2.out)).mono ?_
        rintro e9 w3 ⟨rfl, z3, rfl⟩
        go_wp2_with fail
        exact bodyPost_ret (results_tt rfl rfl rfl) rfl ⟨rfl, (HX0.out.trans HX2.out).ext z3⟩
      | true =>
        rw [hky] at HKy
        have hcy := ck_p hky
        simp only [Bool.and_true, Bool.true_eq_false, if_false]
        have hP : Paired t := paired_of (fault_zero (of_decide_eq_true hv.1)).2.2.2.1
        have hml : (msgs t).length ≤ 100000 := Nat.le_trans (rcv_len t.length 0 (.inr ⟨Nat.le_refl _, rfl⟩)) hs.events
        have HMs := Lib.hid (fun w' (h : Ex w w') => messages_c t A c w' (hT.ex h) hs hcap hv.1)
        have hfit := msg_fit hP hv.2
        have HZ := Lib.hid (fun MA mc w' (h : Ex w w') (hM : Row w' MA (msgCs (msgs t))) => zigzag_c l B lc (msgs t) MA mc _ _ w' (hL.ex h) hls (cp_asc hv.2) hM hml (fun m hm => msg_small hs hP hm) (fun m hm => ⟨(hfit.bound m hm).1, (hfit.bound m hm).2.1⟩) hcx.1 hcy.1)
        unfold idV at HZ
        dsimp only at HZ
        rw [← hcx.2.1, ← hcx.2.2, ← hcy.2.1, ← hcy.2.2] at HZ
        unfold MsgsR at HMs
        generalize zzB l (msgs t) (xp.toNat, xi.toNat) (yp.toNat, yi.toNat) = zz at *
        generalize msgs t = M at *
        clear hV hT hs hcap hL hls hv hkx hky hcx hcy hP hfit
        go_enter Try.func13, Try.ntmps13
        go_wp2_with fail
        rw [← HW0.out]
        go_wp2_with fail
        refine (HV.out _ HX0.out).mono ?_
        rintro e9 w' ⟨rfl, hx1⟩
        have HX1 := Lib.hid hx1
        have y0 := (HB1.out _ hx1).cell 0
        have y1 := (HB1.out _ hx1).cell 1
        have yl := (HB1.out _ hx1).lt
        clear hx1
        go_wp2_with fail
        refine (HKx.out _ (HX0.out.trans HX1.out)).mono ?_
        rintro e9 w2 ⟨rfl, hx2⟩
        have HX2 := Lib.hid (HX1.out.trans hx2)
        have z0 := (HB2.out _ HX2.out).cell 0
        have z1 := (HB2.out _ HX2.out).cell 1
        have zl := (HB2.out _ HX2.out).lt
        clear hx2
        go_wp2_with fail
        refine (HKy.out _ (HX0.out.trans HX2.out)).mono ?_
        rintro e9 w3 ⟨rfl, hx3⟩
        have HX3 := Lib.hid (HX2.out.trans hx3)
        have l0 := (HB0.out _ HX3.out).cell 0
        have l1 := (HB1.out _ HX3.out).cell 0
        have l2 := (HB1.out _ HX3.out).cell 1
        have l3 := (HB2.out _ HX3.out).cell 0
        have l4 := (HB2.out _ HX3.out).cell 1
        clear hx3 x0 xl y0 y1 yl z0 z1 zl
        go_upto_region 5 with fail
        go_region_held3 (fun (w' : World) => w'.cell? ⟨w.heap.size, 0, none⟩ = some (.slice A t.length c) ∧ w'.cell? ⟨w.heap.size + 1, 0, none⟩ = some (.int .i64 xp) ∧ w'.cell? ⟨w.heap.size + 1, 1, none⟩ = some (.int .i64 xi) ∧ w'.cell? ⟨w.heap.size + 1 + 1, 0, none⟩ = some (.int .i64 yp) ∧ w'.cell? ⟨w.heap.size + 1 + 1, 1, none⟩ = some (.int .i64 yi))
          (first | exact ⟨l0, l1, l2, l3, l4⟩ | exact ⟨k0, k1, k2, k3, k4⟩ | go_keep)
          (first | (go_at_call 56; refine (HMs.out _ (HX0.out.trans (by repeat (first | exact HX3.out | apply Ex.drew)))).mono ?_; rintro e w5 ⟨A5, c5, rfl, ho5, hx5⟩; have hE5 : Ex W0 w5 := Ex.trans (by repeat (first | exact HX3.out | apply Ex.drew)) hx5; have k0 := (HB0.out _ hE5).cell 0; have k1 := (HB1.out _ hE5).cell 0; have k2 := (HB1.out _ hE5).cell 1; have k3 := (HB2.out _ hE5).cell 0; have k4 := (HB2.out _ hE5).cell 1) | (go_at_call 55; refine (HZ.out _ _ _ (HX0.out.trans hE5) ho5.row).mono ?_; rintro e w9 ⟨rfl, hx9⟩; have HE9 := Lib.hid (HX0.out.trans (hE5.trans hx9)); have k0 := (HB0.out _ (hE5.trans hx9)).cell 0; have k1 := (HB1.out _ (hE5.trans hx9)).cell 0; have k2 := (HB1.out _ (hE5.trans hx9)).cell 1; have k3 := (HB2.out _ (hE5.trans hx9)).cell 0; have k4 := (HB2.out _ (hE5.trans hx9)).cell 1))
        go_wp2_with fail
        exact bodyPost_ret (results_tt rfl rfl rfl) rfl ⟨rfl, HE9.out⟩
end
section
open Go.RowKit Go.Shelf
/-- the number of a message -/
def numE (t : List Pr) (m : Msg) : Int := match evAt t m.2.1 (m.2.2 - 1) with | some e => e.msg | none => 0
theorem num_find {t : List Pr} (hP : Paired t) {m : Msg} (h : m ∈ msgs t) : findO t 2 (numE t m) = m.1 ∧ findO t 3 (numE t m) = m.2 := by
  obtain ⟨e, f, h1, h2, h3, h4, h5, h6, h7⟩ := msg_is hP h
  unfold numE
  rw [h4]
  exact ⟨find_eq hP (by decide) h1 ⟨e, h3, h5, h7⟩, find_eq hP (by decide) h2 ⟨f, h4, h6, rfl⟩⟩
theorem numE_at {t : List Pr} {p j : Nat} {e : Ev} (h : evAt t p j = some e) (s : Nat × Nat) : numE t (s, (p, j + 1)) = e.msg := by
  unfold numE
  simp only [Nat.add_sub_cancel, h]
/-- what Messages hands back -/
def NumsR (t : List Pr) (w : World) (e : Ending) (w' : World) : Prop :=
  ∃ A c, e = .returned (.slice A (msgs t).length c) ∧ OwnO w' w.heap.size 3 1 (.slice A (msgs t).length c) (msgs t).length (intsV ((msgs t).map (numE t))) ∧ Ex w w'
set_option maxRecDepth 20000 in
set_option maxHeartbeats 3200000 in
theorem rMessages_c (t : List Pr) (A : Option Addr) (c : Nat) (w : World) (hT : TcC w A t) (hs : TSm t) :
    Calls Try.prog 57 #[.agg #[.slice A t.length c]] w (NumsR t w) := by
  have hl := hs.procs
  have hse := hs.events
  have HEl : Hid (∀ (p : Nat) (x : Pr), t[p]? = some x → x.evs.length ≤ 100000) := fun p x hx => (hs.each x (List.mem_of_getElem? hx)).2.2.1
  have HT : Hid (∀ w', Ex w w' → TcC w' A t) := fun w' hx => hT.ex hx
  have HLn : Hid (∀ p j, (p < t.length ∧ j ≤ evN t p) ∨ (p ≤ t.length ∧ j = 0) → (rcvL t p j).length ≤ sumN t) := fun p j h => rcv_len p j h
  obtain ⟨i0, hi0, hz0, hz1, hz2⟩ := info_parts infoInt
  obtain ⟨W0, hW0⟩ : ∃ W0, W0 = w.alloc (.cells #[.slice A t.length c] 24) := ⟨_, rfl⟩
  have HX0 : Hid (Ex w W0) := by rw [hW0]; exact (Ex.refl w).alloc _
  have HB0 : Hid (∀ w', Ex W0 w' → Blk w' w.heap.size 24 [.slice A t.length c]) := fun w' hx => by
    have : Blk W0 w.heap.size 24 [.slice A t.length c] := by rw [hW0]; exact Blk.new w _ _
    exact this.ex hx
  have HW0 := Lib.hid hW0
  clear hW0 hT hs
  unfold NumsR
  unfold msgs
  go_enter Try.func57, Try.ntmps57
  go_wp2_with fail
  rw [← HW0.out]
  go_wp2_with fail
  go_loopw [3, 4] (fun v k wr => ∃ (p : Nat) (A2 : Option Addr) (c2 : Nat), v = .slice A2 (rcvL t p 0).length c2 ∧ k = .int .i64 p ∧ p ≤ t.length ∧ Hid (OwnO wr W0.heap.size 3 1 (.slice A2 (rcvL t p 0).length c2) (rcvL t p 0).length (intsV ((rcvL t p 0).map (numE t))) ∧ Ex W0 wr)) (fun _ k _ => t.length - (intOf k).toNat)
  case atStart => exact ⟨0, none, 0, rfl, rfl, Nat.zero_le _, Lib.hid ⟨OwnO.nil _ _ _ _, Ex.refl _⟩⟩
  case round =>
    obtain ⟨p, A2, c2, rfl, rfl, hp, HH⟩ := hrel
    have x0 := (HB0.out _ HH.out.2).cell 0
    have l0 := (HB0.out _ HH.out.2).lt
    by_cases hpl : p < t.length
    · have m0 : (0 : Int) ≤ (p : Int) := by omega
      have m1 : (p : Int) < (t.length : Int) := by omega
      obtain ⟨x, hx⟩ := get_at hpl
      have hel := HEl.out p x hx
      have HEv := Lib.hid (evN_at hx)
      obtain ⟨b, o, hA, hbl0, V, vc, E, ec, k0, k1, k2, -, kE⟩ := HT.out _ HX0.out p x hx
      subst hA
      have HPx : Hid (∀ w', Ex W0 w' → b < w'.heap.size ∧ w'.cell? ⟨b, o + p * 3, none⟩ = some (.string x.name) ∧ w'.cell? ⟨b, o + p * 3 + 1, none⟩ = some (.slice V x.vars.length vc) ∧ w'.cell? ⟨b, o + p * 3 + 2, none⟩ = some (.slice E x.evs.length ec)) := fun w' h => ⟨Nat.lt_of_lt_of_le hbl0 h.below.size, (h.below.cell hbl0).trans k0, (h.below.cell hbl0).trans k1, (h.below.cell hbl0).trans k2⟩
      have HXe : Hid (∀ w', Ex W0 w' → EvsC w' E x.evs) := fun w' h => kE.ex h
      have HAt : Hid (∀ j e, x.evs[j]? = some e → evAt t p j = some e) := fun j e he => evAt_at hx he
      clear hx hbl0 k0 k1 k2 kE
      go_wp2_with fail
      clear x0 l0
      go_loopw [3, 5] (fun v k w2 => ∃ (j : Nat) (A3 : Option Addr) (c3 : Nat), v = .slice A3 (rcvL t p j).length c3 ∧ k = .int .i64 j ∧ j ≤ x.evs.length ∧ Hid (OwnO w2 W0.heap.size 3 1 (.slice A3 (rcvL t p j).length c3) (rcvL t p j).length (intsV ((rcvL t p j).map (numE t))) ∧ Ex W0 w2)) (fun _ k _ => x.evs.length - (intOf k).toNat)
      case atStart => exact ⟨0, A2, c2, rfl, rfl, Nat.zero_le _, HH⟩
      case round =>
        clear HH
        obtain ⟨j, A3, c3, rfl, rfl, hj, HH⟩ := hrel
        obtain ⟨hbl, g0, g1, g2⟩ := HPx.out _ HH.out.2
        have x0 := (HB0.out _ HH.out.2).cell 0
        have l0 := (HB0.out _ HH.out.2).lt
        by_cases hjl : j < x.evs.length
        · have m2 : (0 : Int) ≤ (j : Int) := by omega
          have m3 : (j : Int) < (x.evs.length : Int) := by omega
          obtain ⟨e, he⟩ := get_at hjl
          obtain ⟨b2, o2, hA2, hbl2, B, bc, e0, e1, e2, e3, e4, -⟩ := HXe.out _ HH.out.2 j e he
          subst hA2
          have hAt := HAt.out j e he
          by_cases hk : e.kind = 3
          · have s1 : (e.kind == 3) = true := by simp [hk]
            have hrl := HLn.out p j (.inl ⟨hpl, by rw [HEv.out]; omega⟩)
            have HG : Hid (intsV ((rcvL t p (j + 1)).map (numE t)) = intsV ((rcvL t p j).map (numE t)) ++ [.int .i64 e.msg] ∧ (rcvL t p (j + 1)).length = (rcvL t p j).length + 1) := by
              rw [rcv_got hAt hk, List.map_append, List.map_cons, List.map_nil, intsV_snoc, numE_at hAt]
              exact ⟨rfl, by simp⟩
            generalize rcvL t p j = L at *
            generalize hL2 : rcvL t p (j + 1) = L2 at *
            have HL2 := Lib.hid hL2
            have HO := Lib.hid (HH.out.1.ex ((Ex.refl _).alloc (.cells #[.int .i64 e.msg] 3)))
            have hbase : W0.heap.size ≤ wr.heap.size := HH.out.2.below.size
            clear he hk hAt hL2
            go_wp2_with (at_builtin; refine wpList_append_one _ rfl _ _ 39 rfl W0.heap.size 3 i0 _ 1 8 Try.underlying39 hi0 hz0 hz1 hz2 rfl (.slice A3 L.length c3) L.length (intsV (L.map (numE t))) rfl HO.out wr.heap.size [.int .i64 e.msg] rfl rfl ?c1 ?c2 ?c3 ?c4 ?c5 ?_)
            case c1 => exact news_new rfl (by simp)
            case c2 => exact one_ints (by simp)
            case c3 => omega
            case c4 => omega
            case c5 => simp; omega
            intro A4 c4 w4 ho hg hat hEx
            have HX4 := Lib.hid (hEx W0 (HH.out.2.alloc _) (Nat.le_refl _))
            have HO4 : Hid (OwnO w4 W0.heap.size 3 1 (.slice A4 L2.length c4) L2.length (intsV (L2.map (numE t)))) := by
              rw [HG.out.1, HG.out.2]; exact ho
            have hl2 : L2.length = L.length + 1 := HG.out.2
            clear hg hat hEx ho
            go_wp2_with fail
            refine ⟨⟨j + 1, A4, c4, by rw [HL2.out, hl2], by go_num, by omega, Lib.hid ⟨by rw [HL2.out]; exact HO4.out, HX4.out⟩⟩, by simp [intOf]; omega⟩
          · have s1 : (e.kind == 3) = false := by simp [hk]
            have HG := Lib.hid (rcv_other hAt hk)
            clear he hk hAt
            go_wp2_with fail
            refine ⟨⟨j + 1, A3, c3, by rw [HG.out], by go_num, by omega, Lib.hid ⟨by rw [HG.out]; exact HH.out.1, HH.out.2⟩⟩, by simp [intOf]; omega⟩
        · obtain rfl : j = x.evs.length := by omega
          have s1 : decide ((x.evs.length : Int) < (x.evs.length : Int)) = false := decide_eq_false (by omega)
          have HG : Hid (rcvL t p x.evs.length = rcvL t (p + 1) 0) := by rw [← HEv.out, rcv_next]; exact rfl
          go_wp2_with fail
          refine ⟨⟨p + 1, A3, c3, by rw [HG.out], by go_num, by omega, Lib.hid ⟨by rw [← HG.out]; exact HH.out.1, HH.out.2⟩⟩, by simp [intOf]; omega⟩
    · obtain rfl : p = t.length := by omega
      have s1 : decide ((t.length : Int) < (t.length : Int)) = false := decide_eq_false (by omega)
      go_wp2_with fail
      go_ret
      exact ⟨A2, c2, rfl, HH.out.1.mono HX0.out.below.size, HX0.out.trans HH.out.2⟩
theorem count_lt {r : List Int} (h : Asc r) (n : Int) : ∀ i, i ≤ r.length → (∀ j a, j < i → r[j]? = some a → a < n) → (∀ j a, i ≤ j → r[j]? = some a → n ≤ a) → r.countP (· < n) = i := fun i hi h1 h2 => by
  obtain ⟨k, g1, g2, g3, g4⟩ := split_at (n := n) (asc_sorted h)
  rw [g2]
  rcases Nat.lt_trichotomy k i with hlt | rfl | hlt
  · obtain ⟨a, ha⟩ := get_at (show k < r.length by omega)
    have := h1 k a hlt ha
    have := g4 k a (Nat.le_refl _) ha
    omega
  · rfl
  · obtain ⟨a, ha⟩ := get_at (show i < r.length by omega)
    have := g3 i a hlt ha
    have := h2 i a (Nat.le_refl _) ha
    omega
set_option maxRecDepth 20000 in
set_option maxHeartbeats 3200000 in
theorem rInterval_c (l : List (List Int)) (B : Option Addr) (lc p i : Nat) (w : World) (hL : LlC w B l) (hls : LSm l) (hA : ∀ (p : Nat) (r : List Int), l[p]? = some r → Asc r) (hp : p < l.length) :
    Calls Try.prog 59 #[.slice B l.length lc, .agg #[.int .i64 p, .int .i64 i]] w (Ret w (.int .i64 (ivN l p i : Nat))) := by
  obtain ⟨r, hr⟩ := get_at hp
  obtain ⟨b, o, hB, hbl, A3, c3, g0, -, hrow⟩ := hL p r hr
  subst hB
  have hasc := hA p r hr
  have hrl := hls.each r (List.mem_of_getElem? hr)
  obtain ⟨g, k, hA3, hgl, hcs⟩ := row_at hrow (fun he => by have := asc_pos hasc; rw [he] at this; exact absurd this (Nat.lt_irrefl _))
  subst hA3
  have hg : ivN l p i = r.countP (· < (i : Int)) := ivN_at hr i
  rw [hg]
  have HCn := Lib.hid (count_lt hasc (i : Int))
  have HAs := Lib.hid hasc
  generalize r.countP (· < (i : Int)) = kk at *
  have m0 : (0 : Int) ≤ (p : Int) := by omega
  have m1 : (p : Int) < (l.length : Int) := by omega
  obtain ⟨W0, hW0⟩ : ∃ W0, W0 = w.alloc (.cells #[.int .i64 p, .int .i64 i] 27) := ⟨_, rfl⟩
  have HX0 : Hid (Ex w W0) := by rw [hW0]; exact (Ex.refl w).alloc _
  have HB0 : Hid (∀ w', Ex W0 w' → Blk w' w.heap.size 27 [.int .i64 p, .int .i64 i]) := fun w' hx => by
    have : Blk W0 w.heap.size 27 [.int .i64 p, .int .i64 i] := by rw [hW0]; exact Blk.new w _ _
    exact this.ex hx
  have HC : Hid (∀ w', Ex w w' → b < w'.heap.size ∧ g < w'.heap.size ∧ w'.cell? ⟨b, o + p, none⟩ = some (.slice (some ⟨g, k, none⟩) r.length c3) ∧ ∀ j a, r[j]? = some a → w'.cell? ⟨g, k + j, none⟩ = some (.int .i64 a)) := fun w' h => ⟨Nat.lt_of_lt_of_le hbl h.below.size, Nat.lt_of_lt_of_le hgl h.below.size, (h.below.cell hbl).trans g0, fun j a hj => (h.below.cell hgl).trans (hcs j a hj)⟩
  have HW0 := Lib.hid hW0
  clear hW0 hL hls hA hr hrow hg hbl hgl g0 hcs hasc
  go_enter Try.func59, Try.ntmps59
  go_wp2_with fail
  rw [← HW0.out]
  go_wp2_with fail
  go_loopw [5, 6] (fun v q wr => ∃ (j n : Nat), v = .int .i64 n ∧ q = .int .i64 j ∧ j ≤ r.length ∧ n ≤ j ∧ Hid ((∀ j' a, j' < n → r[j']? = some a → a < (i : Int)) ∧ (∀ j' a, n ≤ j' → j' < j → r[j']? = some a → (i : Int) ≤ a) ∧ Ex W0 wr)) (fun _ q _ => r.length - (intOf q).toNat)
  case atStart => exact ⟨0, 0, rfl, rfl, Nat.zero_le _, Nat.le_refl _, Lib.hid ⟨fun j a h => absurd h (Nat.not_lt_zero _), fun j a _ h => absurd h (Nat.not_lt_zero _), Ex.refl _⟩⟩
  case round =>
    obtain ⟨j, n, rfl, rfl, hj, hn, HH⟩ := hrel
    obtain ⟨hbl, hgl, g0, hcs⟩ := HC.out _ (HX0.out.trans HH.out.2.2)
    have x0 := (HB0.out _ HH.out.2.2).cell 0
    have x1 := (HB0.out _ HH.out.2.2).cell 1
    have l0 := (HB0.out _ HH.out.2.2).lt
    by_cases hjl : j < r.length
    · have m2 : (0 : Int) ≤ (j : Int) := by omega
      have m3 : (j : Int) < (r.length : Int) := by omega
      obtain ⟨a, ha⟩ := get_at hjl
      have k0 := hcs j a ha
      have HA := Lib.hid ha
      clear hcs ha
      by_cases h1 : a < (i : Int)
      · have s1 : decide (a < (i : Int)) = true := decide_eq_true h1
        have HN : Hid ((∀ j' a, j' < j + 1 → r[j']? = some a → a < (i : Int)) ∧ ∀ j' a, j + 1 ≤ j' → j' < j + 1 → r[j']? = some a → (i : Int) ≤ a) := by
          refine ⟨fun j' a' h h' => ?_, fun j' a' h h' => by omega⟩
          by_cases he : j' = j
          · subst he; rw [HA.out] at h'; cases h'; exact h1
          · have := asc_lt HAs.out (show j' < j by omega) h' HA.out
            omega
        clear h1
        go_wp2_with fail
        go_quiet (fail)
        go_wp2_with fail
        refine ⟨⟨j + 1, j + 1, by go_num, by go_num, by omega, Nat.le_refl _, Lib.hid ⟨HN.out.1, HN.out.2, HH.out.2.2.drewN _⟩⟩, by simp [intOf]; omega⟩
      · have s1 : decide (a < (i : Int)) = false := decide_eq_false h1
        have HN : Hid (∀ j' a, n ≤ j' → j' < j + 1 → r[j']? = some a → (i : Int) ≤ a) := fun j' a' h h' hh => by
          by_cases he : j' = j
          · subst he; rw [HA.out] at hh; cases hh; omega
          · exact HH.out.2.1 j' a' h (by omega) hh
        clear h1
        go_wp2_with fail
        go_quiet (fail)
        go_wp2_with fail
        refine ⟨⟨j + 1, n, rfl, by go_num, by omega, by omega, Lib.hid ⟨HH.out.1, HN.out, HH.out.2.2.drewN _⟩⟩, by simp [intOf]; omega⟩
    · obtain rfl : j = r.length := by omega
      have s1 : decide ((r.length : Int) < (r.length : Int)) = false := decide_eq_false (by omega)
      have HE : Hid (kk = n) := HCn.out n hn HH.out.1 fun j' a h h' => HH.out.2.1 j' a h (List.getElem?_eq_some_iff.1 h').1 h'
      clear hcs
      go_wp2_with fail
      go_ret
      exact Ret.mk (by rw [HE.out]; rfl) (HX0.out.trans HH.out.2.2)
end
section
open Go.RowKit Go.Shelf
theorem idCs_get {L : List (Nat × Nat)} {i : Nat} {x : Nat × Nat} (h : L[i]? = some x) : (idCs L)[i * 2]? = some (.int .i64 (x.1 : Nat)) ∧ (idCs L)[i * 2 + 1]? = some (.int .i64 (x.2 : Nat)) :=
  pair_get (fun x : Nat × Nat => Value.int .i64 (x.1 : Nat)) (fun x => .int .i64 (x.2 : Nat)) L i x h
theorem OwnO.cell_at {w : World} {base e size n g o cap : Nat} {xs : List Value} {j : Nat} {u : Value} (h : OwnO w base e size (.slice (some ⟨g, o, none⟩) n cap) n xs) (hn : 0 < n) (hj : xs[j]? = some u) : w.cell? ⟨g, o + j, none⟩ = some u := by
  obtain ⟨g', o', c', he, -, -, -, -, hc⟩ := h.open_ hn
  cases he
  exact hc j u hj
/-- two rows of names of events -/
structure SR (base : Nat) (vs vr : Value) (n k : Nat) (S R : List (Nat × Nat)) (w : World) : Prop where
  s : OwnO w base 27 2 vs n (idCs S)
  r : OwnO w base 27 2 vr k (idCs R)
  dis : ∀ b, vs.ownBlock = some b → vr.ownBlock ≠ some b
theorem SR.ex {base : Nat} {vs vr : Value} {n k : Nat} {S R : List (Nat × Nat)} {w w' : World} (h : SR base vs vr n k S R w) (hx : Ex w w') : SR base vs vr n k S R w' := ⟨h.s.ex hx, h.r.ex hx, h.dis⟩
theorem SR.pushS {base : Nat} {vs vr vs' : Value} {n k : Nat} {S R S' : List (Nat × Nat)} {w w' : World} (h : SR base vs vr n k S R w) (hg : w.grownBy w' vs.ownBlock) (ho : OwnO w' base 27 2 vs' (n + 1) (idCs S')) (hat : vs'.ownBlock = vs.ownBlock ∨ vs'.ownBlock = some w.heap.size) : SR base vs' vr (n + 1) k S' R w' := by
  refine ⟨ho, h.r.kept hg ?_, fun b hb hb' => ?_⟩
  · cases hv : vr.ownBlock with
    | none => exact .inl rfl
    | some b => exact .inr fun he => h.dis b he.symm hv
  · rcases hat with he | he
    · exact h.dis b (he ▸ hb) hb'
    · rw [he] at hb
      cases hb
      have := (h.r.lt _ hb').2
      omega
theorem SR.pushR {base : Nat} {vs vr vr' : Value} {n k : Nat} {S R R' : List (Nat × Nat)} {w w' : World} (h : SR base vs vr n k S R w) (hg : w.grownBy w' vr.ownBlock) (ho : OwnO w' base 27 2 vr' (k + 1) (idCs R')) (hat : vr'.ownBlock = vr.ownBlock ∨ vr'.ownBlock = some w.heap.size) : SR base vs vr' n (k + 1) S R' w' := by
  refine ⟨h.s.kept hg ?_, ho, fun b hb hb' => ?_⟩
  · cases hv : vs.ownBlock with
    | none => exact .inl rfl
    | some b => exact .inr fun he => h.dis b hv he.symm
  · rcases hat with he | he
    · exact h.dis b hb (he ▸ hb')
    · rw [he] at hb'
      cases hb'
      have := (h.s.lt _ hb).2
      omega
def boolsV (R : List Bool) : List Value := R.map Value.bool
theorem boolsV_get {R : List Bool} {i : Nat} {b : Bool} (h : R[i]? = some b) : (boolsV R)[i]? = some (.bool b) := by
  unfold boolsV
  rw [List.getElem?_map, h]
  rfl
theorem boolsV_set (R : List Bool) (i : Nat) (b : Bool) : (boolsV R).set i (.bool b) = boolsV (R.set i b) := by
  unfold boolsV
  rw [List.map_set]
theorem mrk_bools (n : Nat) : mrk [] 0 n = boolsV (List.replicate n false) := by
  apply List.ext_getElem?
  intro i
  unfold mrk boolsV
  by_cases h : i < n
  · simp [h]
  · simp [h]
theorem unset_le (R : List Bool) : unset R ≤ R.length := List.countP_le_length
/-- the parts of the lists of messages -/
theorem map_at {M : List Msg} {i : Nat} {m : Msg} (h : M[i]? = some m) : (M.map fun m => m.1)[i]? = some m.1 ∧ (M.map fun m => m.2)[i]? = some m.2 := by simp [h]
set_option maxRecDepth 100000 in
set_option maxHeartbeats 6400000 in
theorem rZigzag_c (t : List Pr) (A : Option Addr) (c : Nat) (l : List (List Int)) (B : Option Addr) (lc : Nat) (x y : Nat × Nat) (w : World) (hT : TcC w A t) (hs : TSm t) (hL : LlC w B l) (hls : LSm l) (hv : cpB t l = true) (hx : CkP l x) (hy : CkP l y) :
    Calls Try.prog 16 #[.agg #[.slice A t.length c], .slice B l.length lc, idV x, idV y] w (Ret w (.bool (zzB l (msgs t) x y))) := by
  have hvv := cp_of hv
  have hP : Paired t := paired_of (fault_zero (of_decide_eq_true hvv.1)).2.2.2.1
  have hml : (msgs t).length ≤ 100000 := Nat.le_trans (rcv_len t.length 0 (.inr ⟨Nat.le_refl _, rfl⟩)) hs.events
  have HFt := Lib.hid (msg_fit hP hvv.2)
  have HMs := Lib.hid (fun w' (h : Ex w w') => rMessages_c t A c w' (hT.ex h) hs)
  have HFi := Lib.hid (fun k n w' (h : Ex w w') => rFind_c t A c k n w' (hT.ex h) hs)
  have HNf : Hid (∀ (i : Nat) (m : Msg), (msgs t)[i]? = some m → (intsV ((msgs t).map (numE t)))[i]? = some (.int .i64 (numE t m)) ∧ findO t 2 (numE t m) = m.1 ∧ findO t 3 (numE t m) = m.2) := fun i m hm => ⟨intsV_get (by rw [List.getElem?_map, hm]; rfl), num_find hP (List.mem_of_getElem? hm)⟩
  have hll := hls.rows
  obtain ⟨bx, ox, Ax, nx, cx, gx, kx, hB, hbx, x0, hAx, hgx, x1, hnx, hnx2⟩ := hx.cell hL
  obtain ⟨by_, oy, Ay, ny, cy, gy, ky, hB2, -, y0, hAy, hgy, y1, hny, hny2⟩ := hy.cell hL
  have hrow : ∀ p, (l.getD p []).length ≤ 100000 := fun p => by
    rw [List.getD_eq_getElem?_getD]
    cases h : l[p]? with
    | none => simp
    | some r => exact hls.each r (List.mem_of_getElem? h)
  have hnx3 : nx ≤ 100000 := by rw [hnx2]; exact hrow _
  have hny3 : ny ≤ 100000 := by rw [hny2]; exact hrow _
  have HI := Lib.hid (fun p i w' (h : Ex w w') (hp : p < l.length) => rInterval_c l B lc p i w' (hL.ex h) hls (cp_asc hvv.2) hp)
  clear hnx2 hny2 hrow hs hT hls hL hv hvv hP
  subst hB
  cases hB2
  subst hAx hAy
  obtain ⟨xp, xi⟩ := x
  obtain ⟨yp, yi⟩ := y
  obtain ⟨xj, rfl⟩ : ∃ j, xi = j + 1 := ⟨xi - 1, by have := hx.2.1; dsimp only at this; omega⟩
  obtain ⟨yj, rfl⟩ : ∃ j, yi = j + 1 := ⟨yi - 1, by have := hy.2.1; dsimp only at this; omega⟩
  have hxl := hx.1
  have hyl := hy.1
  unfold zzB idV
  dsimp only at *
  generalize lvZ l (xp, xj + 1) = va at *
  generalize lvZ l (yp, yj + 1) = vb at *
  unfold NumsR at HMs
  generalize hMM : msgs t = M at *
  obtain ⟨W0, hW0⟩ : ∃ W0, W0 = ((w.alloc (.cells #[.slice A t.length c] 24)).alloc (.cells #[.int .i64 xp, .int .i64 ((xj : Int) + 1)] 27)).alloc (.cells #[.int .i64 yp, .int .i64 ((yj : Int) + 1)] 27) := ⟨_, rfl⟩
  have HX0 : Hid (Ex w W0) := by rw [hW0]; exact (((Ex.refl w).alloc _).alloc _).alloc _
  have HB0 : Hid (∀ w', Ex W0 w' → Blk w' w.heap.size 24 [.slice A t.length c]) := fun w' hx => by
    have : Blk W0 w.heap.size 24 [.slice A t.length c] := by rw [hW0]; exact ((Blk.new w _ _).alloc _).alloc _
    exact this.ex hx
  have HB1 : Hid (∀ w', Ex W0 w' → Blk w' (w.heap.size + 1) 27 [.int .i64 xp, .int .i64 ((xj : Int) + 1)]) := fun w' hx => by
    have : Blk W0 (w.heap.size + 1) 27 [.int .i64 xp, .int .i64 ((xj : Int) + 1)] := by
      rw [hW0, show w.heap.size + 1 = (w.alloc (.cells #[.slice A t.length c] 24)).heap.size by simp]
      exact (Blk.new _ _ _).alloc _
    exact this.ex hx
  have HB2 : Hid (∀ w', Ex W0 w' → Blk w' (w.heap.size + 1 + 1) 27 [.int .i64 yp, .int .i64 ((yj : Int) + 1)]) := fun w' hx => by
    have : Blk W0 (w.heap.size + 1 + 1) 27 [.int .i64 yp, .int .i64 ((yj : Int) + 1)] := by
      rw [hW0, show w.heap.size + 1 + 1 = ((w.alloc (.cells #[.slice A t.length c] 24)).alloc (.cells #[.int .i64 xp, .int .i64 ((xj : Int) + 1)] 27)).heap.size by simp]
      exact Blk.new _ _ _
    exact this.ex hx
  have HC : Hid (∀ w', Ex w w' → (w'.cell? ⟨bx, ox + xp, none⟩ = some (.slice (some ⟨gx, kx, none⟩) nx cx) ∧ w'.cell? ⟨gx, kx + xj, none⟩ = some (.int .i64 va)) ∧ (w'.cell? ⟨bx, ox + yp, none⟩ = some (.slice (some ⟨gy, ky, none⟩) ny cy) ∧ w'.cell? ⟨gy, ky + yj, none⟩ = some (.int .i64 vb)) ∧ bx < w'.heap.size ∧ gx < w'.heap.size ∧ gy < w'.heap.size) := fun w' h => ⟨⟨(h.below.cell hbx).trans x0, (h.below.cell hgx).trans x1⟩, ⟨(h.below.cell hbx).trans y0, (h.below.cell hgy).trans y1⟩, Nat.lt_of_lt_of_le hbx h.below.size, Nat.lt_of_lt_of_le hgx h.below.size, Nat.lt_of_lt_of_le hgy h.below.size⟩
  obtain ⟨i0, hi0, hz0, hz1, hz2⟩ := info_parts infoId
  have m0 : (0 : Int) ≤ (xp : Int) := by omega
  have m1 : (xp : Int) < (l.length : Int) := by omega
  have m2 : (0 : Int) ≤ (yp : Int) := by omega
  have m3 : (yp : Int) < (l.length : Int) := by omega
  have m4 : (0 : Int) ≤ (xj : Int) := by omega
  have m5 : (xj : Int) < (nx : Int) := by omega
  have m6 : (0 : Int) ≤ (yj : Int) := by omega
  have m7 : (yj : Int) < (ny : Int) := by omega
  have w1 : IntKind.i64.wrap ((xj : Int) + 1 - 1) = (xj : Int) := by rw [IntWalk.i64_in _ (by omega)]; omega
  have w2 : IntKind.i64.wrap ((yj : Int) + 1 - 1) = (yj : Int) := by rw [IntWalk.i64_in _ (by omega)]; omega
  have w3 : IntKind.i64.wrap (xj : Int) = (xj : Int) := IntWalk.i64_in _ (by omega)
  have w4 : IntKind.i64.wrap (yj : Int) = (yj : Int) := IntWalk.i64_in _ (by omega)
  have HW0 := Lib.hid hW0
  clear hW0 hbx hgx hgy x0 x1 y0 y1 hx hy hMM
  go_enter Try.func16, Try.ntmps16
  go_wp2_with fail
  rw [← HW0.out]
  have a0 := (HB0.out _ (Ex.refl _)).cell 0
  have al := (HB0.out _ (Ex.refl _)).lt
  go_wp2_with fail
  refine (HMs.out _ HX0.out).mono ?_
  rintro e9 w5 ⟨A5, c5, rfl, ho5, hx5⟩
  have HX5 := Lib.hid hx5
  have HO5 := Lib.hid ho5
  clear a0 al ho5 hx5
  go_wp2_with fail
  go_loopw [9, 10, 12] (fun vs vr q wr => ∃ (i : Nat) (As Ar : Option Addr) (cs cr : Nat), q = .int .i64 i ∧ i ≤ M.length ∧ vs = .slice As i cs ∧ vr = .slice Ar i cr ∧ Hid (SR w5.heap.size (.slice As i cs) (.slice Ar i cr) i i ((M.take i).map fun m => m.1) ((M.take i).map fun m => m.2) wr ∧ Ex w5 wr)) (fun _ _ q _ => M.length - (intOf q).toNat)
  case atStart => exact ⟨0, none, none, 0, 0, rfl, Nat.zero_le _, rfl, rfl, Lib.hid ⟨⟨OwnO.nil _ _ _ _, OwnO.nil _ _ _ _, fun b hb => by simp [Value.ownBlock] at hb⟩, Ex.refl _⟩⟩
  case round =>
    obtain ⟨i, As, Ar, cs, cr, rfl, hi, rfl, rfl, HH⟩ := hrel
    by_cases hil : i < M.length
    · have n0 : (0 : Int) ≤ (i : Int) := by omega
      have n1 : (i : Int) < (M.length : Int) := by omega
      obtain ⟨m, hm⟩ := get_at hil
      obtain ⟨g1, g2, g3⟩ := HNf.out i m hm
      obtain ⟨gm, om, cm, hvm, -, -, -, hgl, hcell⟩ := (HO5.out.ex HH.out.2).open_ (by omega)
      cases hvm
      have k0 := hcell _ _ g1
      have b0 := (HB0.out _ (HX5.out.trans HH.out.2)).cell 0
      have bl := (HB0.out _ (HX5.out.trans HH.out.2)).lt
      have HF1 := Lib.hid (HFi.out 2 (numE t m))
      have HF2 := Lib.hid (HFi.out 3 (numE t m))
      rw [g2] at HF1
      rw [g3] at HF2
      have HTk : Hid (idCs ((M.take (i + 1)).map fun m => m.1) = idCs ((M.take i).map fun m => m.1) ++ [.int .i64 (m.1.1 : Nat), .int .i64 (m.1.2 : Nat)] ∧ idCs ((M.take (i + 1)).map fun m => m.2) = idCs ((M.take i).map fun m => m.2) ++ [.int .i64 (m.2.1 : Nat), .int .i64 (m.2.2 : Nat)]) := by
        rw [take_snoc hm]
        exact Lib.hid (by simp [idCs])
      clear g2 g3 hcell hm
      unfold idV at HF1 HF2
      have hXr : Ex w wr := HX0.out.trans (HX5.out.trans HH.out.2)
      have HXr := Lib.hid hXr
      clear hXr
      go_wp2_with fail
      go_region_held3 (fun (w' : World) => w'.cell? ⟨w.heap.size, 0, none⟩ = some (.slice A t.length c) ∧ w'.cell? ⟨gm, om + i, none⟩ = some (.int .i64 (numE t m)))
        (first | exact ⟨b0, k0⟩ | exact ⟨p0, p1⟩ | exact ⟨q0, q1⟩ | go_keep)
        (first | (go_at_call 58; refine (HF1.out _ (by repeat (first | exact HXr.out | apply Ex.drew))).mono ?_; rintro e9 w6 ⟨rfl, hx6⟩; have hE6 : Ex wr w6 := Ex.trans (by repeat (first | exact Ex.refl _ | apply Ex.drew)) hx6; have p0 := (HB0.out _ (HX5.out.trans (HH.out.2.trans hE6))).cell 0; have p1 := (hE6.below.cell (p := ⟨gm, om + i, none⟩) hgl).trans k0) | (refine step_append_one _ (by rfl) _ _ 41 (by rfl) w5.heap.size 27 i0 _ 2 16 Try.underlying41 hi0 hz0 hz1 hz2 (by rfl) _ i (idCs ((M.take i).map fun m => m.1)) (by rfl) (HH.out.1.s.ex (by repeat (first | exact hE6 | apply Ex.drew | apply Ex.alloc))) w6.heap.size [.int .i64 (m.1.1 : Nat), .int .i64 (m.1.2 : Nat)] (by rfl) (by rfl) (by first | exact news_new rfl rfl | exact fun j u h => news_new (W := w6) (w := w6.alloc _) rfl rfl j u h) (one_ints (by simp)) (by omega) (by omega) (by have := (HH.out.2.trans hE6).below.size; first | exact this | (simp; omega)) ?_; intro A7 c7 w7 ho hg hat hEx; have HR7 : Hid (SR w5.heap.size (.slice A7 (i + 1) c7) (.slice Ar i cr) (i + 1) i ((M.take (i + 1)).map fun m => m.1) ((M.take i).map fun m => m.2) w7) := SR.pushS (HH.out.1.ex (by repeat (first | exact hE6 | apply Ex.drew | apply Ex.alloc))) hg (by rw [HTk.out.1]; exact ho) hat; have HX7 : Hid (Ex w5 w7) := hEx w5 (by repeat (first | exact HH.out.2.trans hE6 | apply Ex.drew | apply Ex.alloc)) (Nat.le_refl _); have q0 := (HB0.out _ (HX5.out.trans HX7.out)).cell 0; have q1 := (HO5.out.ex HX7.out).cell_at (by omega) g1))
      have hX7r : Ex w w7 := HX0.out.trans (HX5.out.trans HX7.out)
      have HX7r := Lib.hid hX7r
      have hgl7 : gm < w7.heap.size := by
        obtain ⟨g', o', c', he, -, -, -, hlt, -⟩ := (HO5.out.ex HX7.out).open_ (by omega)
        cases he
        exact hlt
      clear hX7r ho hg hat hEx p0 p1 hE6 hx6 b0 bl k0 hgl
      go_wp2_with fail
      go_region_held3 (fun (w' : World) => w'.cell? ⟨w.heap.size, 0, none⟩ = some (.slice A t.length c) ∧ w'.cell? ⟨gm, om + i, none⟩ = some (.int .i64 (numE t m)))
        (first | exact ⟨q0, q1⟩ | exact ⟨p0, p1⟩ | exact ⟨r0, r1⟩ | go_keep)
        (first | (go_at_call 58; refine (HF2.out _ (by repeat (first | exact HX7r.out | apply Ex.drew))).mono ?_; rintro e9 w8 ⟨rfl, hx8⟩; have hE8 : Ex w7 w8 := Ex.trans (by repeat (first | exact Ex.refl _ | apply Ex.drew)) hx8; have p0 := (HB0.out _ (HX5.out.trans (HX7.out.trans hE8))).cell 0; have p1 := (hE8.below.cell (p := ⟨gm, om + i, none⟩) hgl7).trans q1) | (refine step_append_one _ (by rfl) _ _ 41 (by rfl) w5.heap.size 27 i0 _ 2 16 Try.underlying41 hi0 hz0 hz1 hz2 (by rfl) _ i (idCs ((M.take i).map fun m => m.2)) (by rfl) (HR7.out.r.ex (by repeat (first | exact hE8 | apply Ex.drew | apply Ex.alloc))) w8.heap.size [.int .i64 (m.2.1 : Nat), .int .i64 (m.2.2 : Nat)] (by rfl) (by rfl) (by first | exact news_new rfl rfl | exact fun j u h => news_new (W := w8) (w := w8.alloc _) rfl rfl j u h) (one_ints (by simp)) (by omega) (by omega) (by have := (HX7.out.trans hE8).below.size; first | exact this | (simp; omega)) ?_; intro A9 c9 w9 ho hg hat hEx; have HR9 : Hid (SR w5.heap.size (.slice A7 (i + 1) c7) (.slice A9 (i + 1) c9) (i + 1) (i + 1) ((M.take (i + 1)).map fun m => m.1) ((M.take (i + 1)).map fun m => m.2) w9) := SR.pushR (HR7.out.ex (by repeat (first | exact hE8 | apply Ex.drew | apply Ex.alloc))) hg (by rw [HTk.out.2]; exact ho) hat; have HX9 : Hid (Ex w5 w9) := hEx w5 (by repeat (first | exact HX7.out.trans hE8 | apply Ex.drew | apply Ex.alloc)) (Nat.le_refl _); have r0 := (HB0.out _ (HX5.out.trans HX9.out)).cell 0; have r1 := (HO5.out.ex HX9.out).cell_at (by omega) g1))
      clear ho hg hat hEx p0 p1 hE8 hx8 q0 q1 r0 r1
      go_wp2_with fail
      refine ⟨⟨i + 1, A7, A9, c7, c9, by go_num, by omega, rfl, rfl, Lib.hid ⟨HR9.out, HX9.out⟩⟩, by simp [intOf]; omega⟩
    · obtain rfl : i = M.length := by omega
      have s1 : decide ((M.length : Int) < (M.length : Int)) = false := decide_eq_false (by omega)
      rw [List.take_length] at HH
      have hmk := fun W => mk_bools 0 M.length (M.length : Int) rfl (by omega) W
      go_wp2_with fail
      clear hmk
      have HS2 : Hid (SR w5.heap.size (.slice As M.length cs) (.slice Ar M.length cr) M.length M.length (M.map fun m => m.1) (M.map fun m => m.2) wr ∧ Ex w5 wr) := HH
      have HRb : Hid (Blk (wr.alloc (.cells (mrk [] 0 M.length).toArray 4)) wr.heap.size 4 (boolsV (List.replicate M.length false))) := by
        rw [mrk_bools]; exact Blk.new wr _ _
      clear HH
      have hW2s : wr.heap.size ≤ (wr.alloc (.cells (mrk [] 0 M.length).toArray 4)).heap.size := by simp
      have HX2 : Hid (Ex wr (wr.alloc (.cells (mrk [] 0 M.length).toArray 4))) := Lib.hid ((Ex.refl _).alloc _)
      generalize (wr.alloc (.cells (mrk [] 0 M.length).toArray 4)) = W3 at *
      clear hW2s
      obtain ⟨W2, hW2⟩ : ∃ W2, W2 = wr := ⟨_, rfl⟩
      rw [← hW2] at HS2 HX2 HRb
      rw [← hW2]
      have HW2 := Lib.hid hW2
      clear hW2
      generalize hgr : W2.heap.size = gr at *
      have HGr : Hid (∀ w', Ex W2 w' → ∀ u, Ex W2 (w'.setCell ⟨gr, u, none⟩ (.bool true))) := fun w' h u => h.setCell (p := ⟨gr, u, none⟩) (by show W2.heap.size ≤ gr; omega) _
      have HXw : Hid (Ex w W2) := HX0.out.trans (HX5.out.trans HS2.out.2)
      have HB0' := Lib.hid (fun w' (h : Ex W2 w') => HB0.out w' (HX5.out.trans (HS2.out.2.trans h)))
      have HB1' := Lib.hid (fun w' (h : Ex W2 w') => HB1.out w' (HX5.out.trans (HS2.out.2.trans h)))
      have HB2' := Lib.hid (fun w' (h : Ex W2 w') => HB2.out w' (HX5.out.trans (HS2.out.2.trans h)))
      have HSc : Hid (∀ w', Ex W2 w' → ∀ (i : Nat) (m : Msg), M[i]? = some m → ∃ gs os gq oq, As = some ⟨gs, os, none⟩ ∧ Ar = some ⟨gq, oq, none⟩ ∧ gs < w'.heap.size ∧ gq < w'.heap.size ∧ w'.cell? ⟨gs, os + i * 2, none⟩ = some (.int .i64 (m.1.1 : Nat)) ∧ w'.cell? ⟨gs, os + i * 2 + 1, none⟩ = some (.int .i64 (m.1.2 : Nat)) ∧ w'.cell? ⟨gq, oq + i * 2, none⟩ = some (.int .i64 (m.2.1 : Nat)) ∧ w'.cell? ⟨gq, oq + i * 2 + 1, none⟩ = some (.int .i64 (m.2.2 : Nat))) := fun w' h i m hm => by
        have hlt := (List.getElem?_eq_some_iff.1 hm).1
        obtain ⟨gs, os, c1, e1, -, -, -, l1, f1⟩ := (HS2.out.1.s.ex h).open_ (by omega)
        obtain ⟨gq, oq, c2, e2, -, -, -, l2, f2⟩ := (HS2.out.1.r.ex h).open_ (by omega)
        obtain ⟨p1, p2⟩ := map_at hm
        obtain ⟨q1, q2⟩ := idCs_get p1
        obtain ⟨q3, q4⟩ := idCs_get p2
        cases e1; cases e2
        exact ⟨gs, os, gq, oq, rfl, rfl, l1, l2, f1 _ _ q1, by rw [Nat.add_assoc]; exact f1 _ _ q2, f2 _ _ q3, by rw [Nat.add_assoc]; exact f2 _ _ q4⟩
      have HZe : Hid (∀ (R : List Bool), (∀ (i : Nat) (m : Msg), M[i]? = some m → Mok M (stX (oneX xp va)) (nxB l) R m → R[i]? = some true) → (∀ (i : Nat) (m : Msg), R[i]? = some true → M[i]? = some m → goX (oneX yp vb) m = false) → zB M (stX (oneX xp va)) (nxB l) (goX (oneX yp vb)) = false) := fun R h1 h2 => zB_none h1 h2
      have HZf : Hid (∀ (R : List Bool), Mrk M (stX (oneX xp va)) (nxB l) R → ∀ (i : Nat) (m : Msg), R[i]? = some true → M[i]? = some m → goX (oneX yp vb) m = true → zB M (stX (oneX xp va)) (nxB l) (goX (oneX yp vb)) = true) := fun R h1 i m h2 h3 h4 => zB_found h1 h2 h3 h4
      have HSt : Hid (∀ m, stX (oneX xp va) m = (decide (m.1.1 = xp) && decide (va < (m.1.2 : Int)))) := fun m => stX_one xp va m
      have HGo : Hid (∀ m, goX (oneX yp vb) m = (decide (m.2.1 = yp) && decide ((m.2.2 : Int) ≤ vb))) := fun m => goX_one yp vb m
      generalize hZB : zB M (stX (oneX xp va)) (nxB l) (goX (oneX yp vb)) = ZB at *
      generalize stX (oneX xp va) = st at *
      generalize goX (oneX yp vb) = go at *
      clear hZB HB0 HB1 HB2 HO5 HFi HNf HMs hgr s1
      go_loopg [14] (M.length + 1) (fun gg ch wr => ∃ (b : Bool) (R : List Bool), ch = .bool b ∧ unset R + (if b then 1 else 0) ≤ gg ∧ unset R + (if b then 1 else 0) ≤ M.length + 1 ∧ Hid (Mrk M st (nxB l) R ∧ Blk wr gr 4 (boolsV R) ∧ Ex W2 wr ∧ (b = false → ∀ (i : Nat) (m : Msg), M[i]? = some m → Mok M st (nxB l) R m → R[i]? = some true)))
      case atStart => exact ⟨true, List.replicate M.length false, rfl, by have := unset_le (List.replicate M.length false); rw [List.length_replicate] at this; exact Nat.succ_le_succ this, by have := unset_le (List.replicate M.length false); rw [List.length_replicate] at this; exact Nat.succ_le_succ this, Lib.hid ⟨Mrk.zero _ _ _, HRb.out, HX2.out, fun h => by cases h⟩⟩
      case round =>
        clear HRb HX2
        obtain ⟨b, R, rfl, hgg, hgb, HH⟩ := hrel
        cases b with
        | false =>
          have HCl := Lib.hid (HH.out.2.2.2 rfl)
          go_wp2_with fail
          go_loopw [18] (fun q w7 => ∃ i : Nat, q = .int .i64 i ∧ i ≤ M.length ∧ Hid ((∀ (j : Nat) (m : Msg), j < i → R[j]? = some true → M[j]? = some m → go m = false) ∧ Ex wr w7)) (fun q _ => M.length - (intOf q).toNat)
          case atStart => exact ⟨0, rfl, Nat.zero_le _, Lib.hid ⟨fun j m h => absurd h (Nat.not_lt_zero _), Ex.refl _⟩⟩
          case round =>
            obtain ⟨i, rfl, hi, HJ⟩ := hrel
            by_cases hil : i < M.length
            · have n0 : (0 : Int) ≤ (i : Int) := by omega
              have n1 : (i : Int) < (M.length : Int) := by omega
              obtain ⟨m, hm⟩ := get_at hil
              obtain ⟨rb, hrb⟩ := get_at (show i < R.length by rw [HH.out.1.1]; exact hil)
              have hx7 := HH.out.2.2.1.trans HJ.out.2
              obtain ⟨gs, os, gq, oq, hAs, hAr, l1, l2, k0, k1, k2, k3⟩ := HSc.out _ hx7 i m hm
              subst hAs hAr
              have hBr := HH.out.2.1.ex HJ.out.2
              have r0 := (hBr.cell i).trans (boolsV_get hrb)
              have rl := hBr.lt
              have z0 := (HB2'.out _ hx7).cell 0
              have z1 := (HB2'.out _ hx7).cell 1
              have zl := (HB2'.out _ hx7).lt
              obtain ⟨-, ⟨d2, d3⟩, e0, -, e2⟩ := HC.out _ (HXw.out.trans hx7)
              have HNx : Hid ((rb = true → go m = false) → ∀ (j : Nat) (m : Msg), j < i + 1 → R[j]? = some true → M[j]? = some m → go m = false) := fun h j m' hj hr hm' => by
                by_cases he : j = i
                · subst he
                  rw [hm] at hm'; rw [hrb] at hr
                  cases hm'; cases hr
                  exact h rfl
                · exact HJ.out.1 j m' (by omega) hr hm'
              have HFd : Hid (rb = true → go m = true → ZB = true) := fun h1 h2 => HZf.out R HH.out.1 i m (by rw [hrb, h1]) hm h2
              have hgo := HGo.out m
              clear hBr hm hrb hx7
              cases rb with
              | false =>
                have HN := Lib.hid (HNx.out fun h => by cases h)
                clear HNx HFd
                go_wp2_with fail
                go_quiet (fail)
                go_wp2_with fail
                refine ⟨⟨i + 1, by go_num, by omega, Lib.hid ⟨HN.out, HJ.out.2.drewN _⟩⟩, by simp [intOf]; omega⟩
              | true =>
                by_cases h1 : m.2.1 = yp
                · have s1 : (((m.2.1 : Nat) : Int) == (yp : Int)) = true := by simp [h1]
                  by_cases h2 : ((m.2.2 : Nat) : Int) ≤ vb
                  · have s2 : decide (((m.2.2 : Nat) : Int) ≤ vb) = true := decide_eq_true h2
                    rw [decide_eq_true h1, s2] at hgo
                    have HE := Lib.hid (HFd.out rfl hgo)
                    clear h1 h2 HNx HFd
                    go_wp2_with fail
                    go_quiet (fail)
                    go_wp2_with fail
                    go_ret
                    exact Ret.mk (by rw [HE.out]; rfl) ((HXw.out.trans (HH.out.2.2.1.trans HJ.out.2)).drewN _)
                  · have s2 : decide (((m.2.2 : Nat) : Int) ≤ vb) = false := decide_eq_false h2
                    rw [decide_eq_true h1, s2] at hgo
                    have HN := Lib.hid (HNx.out fun _ => hgo)
                    clear h1 h2 HNx HFd
                    go_wp2_with fail
                    go_quiet (fail)
                    go_wp2_with fail
                    refine ⟨⟨i + 1, by go_num, by omega, Lib.hid ⟨HN.out, HJ.out.2.drewN _⟩⟩, by simp [intOf]; omega⟩
                · have s1 : (((m.2.1 : Nat) : Int) == (yp : Int)) = false := beq_eq_false_iff_ne.2 (by omega)
                  rw [decide_eq_false h1] at hgo
                  have HN := Lib.hid (HNx.out fun _ => hgo)
                  clear h1 HNx HFd
                  go_wp2_with fail
                  go_quiet (fail)
                  go_wp2_with fail
                  refine ⟨⟨i + 1, by go_num, by omega, Lib.hid ⟨HN.out, HJ.out.2.drewN _⟩⟩, by simp [intOf]; omega⟩
            · obtain rfl : i = M.length := by omega
              have s1 : decide ((M.length : Int) < (M.length : Int)) = false := decide_eq_false (by omega)
              have HE : Hid (ZB = false) := HZe.out R HCl.out fun j m hr hm => HJ.out.1 j m (List.getElem?_eq_some_iff.1 hm).1 hr hm
              go_wp2_with fail
              go_ret
              exact Ret.mk (by rw [HE.out]; rfl) (HXw.out.trans (HH.out.2.2.1.trans HJ.out.2))
        | true =>
          simp only [if_true] at hgg hgb
          go_wp2_with fail
          go_loopw [14, 15] (fun ch q w7 => ∃ (b : Bool) (i : Nat) (R2 : List Bool), ch = .bool b ∧ q = .int .i64 i ∧ i ≤ M.length ∧ unset R2 ≤ unset R ∧ (b = true → unset R2 < unset R) ∧ Hid (Mrk M st (nxB l) R2 ∧ Blk w7 gr 4 (boolsV R2) ∧ Ex W2 w7 ∧ (b = false → R2 = R ∧ ∀ (j : Nat) (m : Msg), j < i → M[j]? = some m → Mok M st (nxB l) R m → R[j]? = some true))) (fun _ q _ => M.length - (intOf q).toNat)
          case atStart => exact ⟨false, 0, R, rfl, rfl, Nat.zero_le _, Nat.le_refl _, (fun h => by cases h), Lib.hid ⟨HH.out.1, HH.out.2.1, HH.out.2.2.1, fun _ => ⟨rfl, fun j m h => absurd h (Nat.not_lt_zero _)⟩⟩⟩
          case round =>
            clear HH
            obtain ⟨b, i, R2, rfl, rfl, hi, hu1, hu2, HH⟩ := hrel
            by_cases hil : i < M.length
            · have n0 : (0 : Int) ≤ (i : Int) := by omega
              have n1 : (i : Int) < (M.length : Int) := by omega
              obtain ⟨m, hm⟩ := get_at hil
              have hx7 := HH.out.2.2.1
              obtain ⟨gs, os, gq, oq, hAs, hAr, l1, l2, k0, k1, -, -⟩ := HSc.out _ hx7 i m hm
              subst hAs hAr
              have z0 := (HB1'.out _ hx7).cell 0
              have z1 := (HB1'.out _ hx7).cell 1
              have zl := (HB1'.out _ hx7).lt
              obtain ⟨⟨d0, d1⟩, -, e0, e1, -⟩ := HC.out _ (HXw.out.trans hx7)
              have HM := Lib.hid hm
              have hst := HSt.out m
              clear hx7 hm
              go_upto_region 15 with fail
              go_cut [16] from 49 to 133 (fun ok wx => ok = .bool (st m) ∧ Hid (Blk wx gr 4 (boolsV R2) ∧ Ex W2 wx))
              case first =>
                by_cases h1 : m.1.1 = xp
                · have s1 : (((m.1.1 : Nat) : Int) == (xp : Int)) = true := by simp [h1]
                  by_cases h2 : va < ((m.1.2 : Nat) : Int)
                  · have s2 : decide (va < ((m.1.2 : Nat) : Int)) = true := decide_eq_true h2
                    rw [decide_eq_true h1, s2] at hst
                    clear h1 h2
                    go_quiet (fail)
                    go_wp2_with fail
                    go_meet
                    exact ⟨by rw [hst]; rfl, Lib.hid ⟨HH.out.2.1.ex ((Ex.refl _).drewN _), HH.out.2.2.1.drewN _⟩⟩
                  · have s2 : decide (va < ((m.1.2 : Nat) : Int)) = false := decide_eq_false h2
                    rw [decide_eq_true h1, s2] at hst
                    clear h1 h2
                    go_quiet (fail)
                    go_wp2_with fail
                    go_meet
                    exact ⟨by rw [hst]; rfl, Lib.hid ⟨HH.out.2.1.ex ((Ex.refl _).drewN _), HH.out.2.2.1.drewN _⟩⟩
                · have s1 : (((m.1.1 : Nat) : Int) == (xp : Int)) = false := beq_eq_false_iff_ne.2 (by omega)
                  rw [decide_eq_false h1] at hst
                  clear h1
                  go_quiet (fail)
                  go_wp2_with fail
                  go_meet
                  exact ⟨by rw [hst]; rfl, Lib.hid ⟨HH.out.2.1.ex ((Ex.refl _).drewN _), HH.out.2.2.1.drewN _⟩⟩
              case rest =>
                obtain ⟨rfl, HK⟩ := hcut
                clear z0 z1 zl d0 d1 e0 e1 k0 k1 l1 l2 hst
                go_wp2_with fail
                go_loopw [16, 17] (fun okv q w8 => ∃ (b2 : Bool) (k : Nat), okv = .bool b2 ∧ q = .int .i64 k ∧ k ≤ M.length ∧ Hid ((b2 = true → Mok M st (nxB l) R2 m) ∧ (b2 = false → st m = false ∧ ∀ (k' : Nat) (u : Msg), k' < k → R2[k']? = some true → M[k']? = some u → nxB l u m = false) ∧ Blk w8 gr 4 (boolsV R2) ∧ Ex W2 w8)) (fun _ q _ => M.length - (intOf q).toNat)
                case atStart => exact ⟨st m, 0, rfl, rfl, Nat.zero_le _, Lib.hid ⟨fun h => .inl h, fun h => ⟨h, fun k' u h' => absurd h' (Nat.not_lt_zero _)⟩, HK.out.1, HK.out.2⟩⟩
                case round =>
                  clear HK
                  obtain ⟨b2, k, rfl, rfl, hk, HJ⟩ := hrel
                  obtain ⟨ri, hri⟩ := get_at (show i < R2.length by rw [HH.out.1.1]; exact hil)
                  have HRi := Lib.hid hri
                  have r0 := (HJ.out.2.2.1.cell i).trans (boolsV_get hri)
                  have rl := HJ.out.2.2.1.lt
                  have rf := HJ.out.2.2.1.frozen i
                  clear hri
                  cases b2 with
                  | true =>
                    have HMok := Lib.hid (HJ.out.1 rfl)
                    cases ri with
                    | true =>
                      have HN : Hid (b = false → R2 = R ∧ ∀ (j : Nat) (m : Msg), j < i + 1 → M[j]? = some m → Mok M st (nxB l) R m → R[j]? = some true) := fun hb => by
                        obtain ⟨e1, e2⟩ := HH.out.2.2.2 hb
                        refine ⟨e1, fun j m' hj hm' ho => ?_⟩
                        by_cases he : j = i
                        · rw [he, ← e1]; exact HRi.out
                        · exact e2 j m' (by omega) hm' ho
                      go_wp2_with fail
                      refine ⟨⟨b, i + 1, R2, rfl, by go_num, by omega, hu1, hu2, Lib.hid ⟨HH.out.1, HJ.out.2.2.1, HJ.out.2.2.2, HN.out⟩⟩, by simp [intOf]; omega⟩
                    | false =>
                      have hlt := unset_set HRi.out
                      have HN : Hid (Mrk M st (nxB l) (R2.set i true)) := HH.out.1.set HM.out HMok.out
                      go_wp2_with fail
                      refine ⟨⟨true, i + 1, R2.set i true, rfl, by go_num, by omega, by omega, fun _ => by omega, Lib.hid ⟨HN.out, by rw [← boolsV_set]; exact HJ.out.2.2.1.set_ i _, HGr.out _ HJ.out.2.2.2 i, fun h => by cases h⟩⟩, by simp [intOf]; omega⟩
                  | false =>
                    have HFl := Lib.hid (HJ.out.2.1 rfl)
                    by_cases hkl : k < M.length
                    · clear r0 rf HRi
                      have q0 : (0 : Int) ≤ (k : Int) := by omega
                      have q1 : (k : Int) < (M.length : Int) := by omega
                      obtain ⟨u, hu⟩ := get_at hkl
                      obtain ⟨rk, hrk⟩ := get_at (show k < R2.length by rw [HH.out.1.1]; exact hkl)
                      have r0 := (HJ.out.2.2.1.cell k).trans (boolsV_get hrk)
                      obtain ⟨gs', os', gq', oq', hAs, hAr, l1, l2, -, -, k2, k3⟩ := HSc.out _ HJ.out.2.2.2 k u hu
                      cases hAs; cases hAr
                      obtain ⟨gs', os', gq', oq', hAs, hAr, -, -, k0, k1, -, -⟩ := HSc.out _ HJ.out.2.2.2 i m HM.out
                      cases hAs; cases hAr
                      have hmb := (HFt.out.bound m (List.mem_of_getElem? HM.out)).1
                      have hub := (HFt.out.bound u (List.mem_of_getElem? hu)).2.1
                      have HNo : Hid ((rk = true → nxB l u m = false) → ∀ (k' : Nat) (u : Msg), k' < k + 1 → R2[k']? = some true → M[k']? = some u → nxB l u m = false) := fun h k' u' hk' hr hu' => by
                        by_cases he : k' = k
                        · subst he
                          rw [hu] at hu'; rw [hrk] at hr
                          cases hu'; cases hr
                          exact h rfl
                        · exact HFl.out.2 k' u' (by omega) hr hu'
                      have HYes : Hid (rk = true → nxB l u m = true → Mok M st (nxB l) R2 m) := fun h1 h2 => .inr ⟨k, u, by rw [hrk, h1], hu, h2⟩
                      have HXJ := Lib.hid (HXw.out.trans HJ.out.2.2.2)
                      clear hu hrk
                      cases rk with
                      | false =>
                        have HN := Lib.hid (HNo.out fun h => by cases h)
                        clear HNo HYes
                        go_wp2_with fail
                        go_quiet (fail)
                        go_wp2_with fail
                        refine ⟨⟨false, k + 1, rfl, by go_num, by omega, Lib.hid ⟨(fun h => by cases h), fun _ => ⟨HFl.out.1, HN.out⟩, HJ.out.2.2.1.ex ((Ex.refl _).drewN _), HJ.out.2.2.2.drewN _⟩⟩, by simp [intOf]; omega⟩
                      | true =>
                        by_cases h1 : m.1.1 = u.2.1
                        · have s1 : (((u.2.1 : Nat) : Int) == ((m.1.1 : Nat) : Int)) = true := by simp [h1]
                          have HI1 := Lib.hid (fun w' (h : Ex w w') => HI.out m.1.1 m.1.2 w' h hmb)
                          have HI2 := Lib.hid (fun w' (h : Ex w w') => HI.out u.2.1 u.2.2 w' h hub)
                          have HNx : Hid (nxB l u m = decide (ivN l u.2.1 u.2.2 ≤ ivN l m.1.1 m.1.2)) := by
                            unfold nxB
                            rw [decide_eq_true h1]
                            exact Lib.hid (Bool.true_and _)
                          generalize ivN l m.1.1 m.1.2 = iv1 at *
                          generalize ivN l u.2.1 u.2.2 = iv2 at *
                          clear h1
                          go_wp2_with fail
                          refine wp_region_ext (by kernel_rfl) (by kernel_rfl) ?_
                          repeat (go_big_quiet_step ((go_at_call 59; with_reducible exact quiet_ext (HI1.out _ (HXJ.out.ext _)))))
                          repeat (go_big_quiet_step ((go_at_call 59; with_reducible exact quiet_ext (HI2.out _ (HXJ.out.ext _)))))
                          refine wpQuiet_end (fun z2 => ?_)
                          go_wp2_with fail
                          refine ⟨⟨decide (iv2 ≤ iv1), k + 1, by simp, by go_num, by omega, Lib.hid ⟨fun h => HYes.out trivial (by rw [HNx.out, h]), fun h => ⟨HFl.out.1, HNo.out fun _ => by rw [HNx.out, h]⟩, HJ.out.2.2.1.ex ((Ex.refl _).ext _), HJ.out.2.2.2.ext _⟩⟩, by simp [intOf]; omega⟩
                        · have s1 : (((u.2.1 : Nat) : Int) == ((m.1.1 : Nat) : Int)) = false := beq_eq_false_iff_ne.2 (by omega)
                          have HN := Lib.hid (HNo.out fun _ => by unfold nxB; rw [decide_eq_false h1]; rfl)
                          clear HNo HYes h1
                          go_wp2_with fail
                          refine wp_region_ext (by kernel_rfl) (by kernel_rfl) ?_
                          repeat (go_big_quiet_step (fail))
                          refine wpQuiet_end (fun z2 => ?_)
                          go_wp2_with fail
                          refine ⟨⟨false, k + 1, rfl, by go_num, by omega, Lib.hid ⟨(fun h => by cases h), fun _ => ⟨HFl.out.1, HN.out⟩, HJ.out.2.2.1.ex ((Ex.refl _).ext _), HJ.out.2.2.2.ext _⟩⟩, by simp [intOf]; omega⟩
                    · obtain rfl : k = M.length := by omega
                      have s1 : decide ((M.length : Int) < (M.length : Int)) = false := decide_eq_false (by omega)
                      have HN : Hid (b = false → R2 = R ∧ ∀ (j : Nat) (m : Msg), j < i + 1 → M[j]? = some m → Mok M st (nxB l) R m → R[j]? = some true) := fun hb => by
                        obtain ⟨e1, e2⟩ := HH.out.2.2.2 hb
                        refine ⟨e1, fun j m' hj hm' ho => ?_⟩
                        by_cases he : j = i
                        · subst he
                          rw [HM.out] at hm'
                          cases hm'
                          rcases ho with ho | ⟨k', u, g1, g2, g3⟩
                          · rw [HFl.out.1] at ho; cases ho
                          · have := HFl.out.2 k' u (List.getElem?_eq_some_iff.1 g2).1 (by rw [e1]; exact g1) g2
                            rw [g3] at this; cases this
                        · exact e2 j m' (by omega) hm' ho
                      go_wp2_with fail
                      refine ⟨⟨b, i + 1, R2, rfl, by go_num, by omega, hu1, hu2, Lib.hid ⟨HH.out.1, HJ.out.2.2.1, HJ.out.2.2.2, HN.out⟩⟩, by simp [intOf]; omega⟩
            · obtain rfl : i = M.length := by omega
              have s1 : decide ((M.length : Int) < (M.length : Int)) = false := decide_eq_false (by omega)
              have HCl : Hid (b = false → ∀ (i : Nat) (m : Msg), M[i]? = some m → Mok M st (nxB l) R2 m → R2[i]? = some true) := fun hb j m hm ho => by
                obtain ⟨e1, e2⟩ := HH.out.2.2.2 hb
                rw [e1] at ho ⊢
                exact e2 j m (List.getElem?_eq_some_iff.1 hm).1 hm ho
              have hms : unset R2 + (if b = true then 1 else 0) < unset R + 1 := by
                cases b with
                | true => have := hu2 rfl; simp only [if_true]; omega
                | false => simp only [Bool.false_eq_true, if_false]; omega
              go_wp2_with fail
              go_roundg (unset R2 + (if b then 1 else 0))
              case measure => omega
              case rel => exact ⟨b, R2, rfl, Nat.le_refl _, by omega, Lib.hid ⟨HH.out.1, HH.out.2.1, HH.out.2.2.1, HCl.out⟩⟩
end
end Go.Proofs.Ytdenojfbdkdpiaa
