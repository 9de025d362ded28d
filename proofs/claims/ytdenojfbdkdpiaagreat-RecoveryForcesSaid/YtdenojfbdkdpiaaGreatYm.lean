/-
  The program's Zigzag, walked. The reference's Messages and Interval, walked. The reference's Zigzag, walked.
  Conditions: as each theorem says.
-/
import Derived.Test.YtdenojfbdkdpiaaGreatYl
import Derived.Test.YtdenojfbdkdpiaaGreatYj
import Derived.Deep.RegionHeld3
import Derived.Deep.CutRange
namespace Go.Proofs.YtdenojfbdkdpiaaGreat
section
open Go.RowKit Go.Shelf
theorem cp_asc {t : List Pr} {l : List (List Int)} (h : cpP t l) : ∀ (p : Nat) (r : List Int), l[p]? = some r → Asc r := fun p r hr => (h.2 p r hr).asc
theorem msg_is {t : List Pr} (hP : Paired t) {m : Msg} (h : m ∈ msgs t) : IsMsg t m := by
  have hin := rcv_mem hP h
  obtain ⟨x, -, hx⟩ := List.mem_flatMap.1 h
  unfold rcvE at hx
  split at hx
  · rename_i e he
    split at hx
    · rename_i hk
      rw [List.mem_singleton.1 hx] at hin ⊢
      have hi : InT t (x.1, x.2 + 1) := ⟨by simp, evAt_lt he⟩
      obtain ⟨-, f, h1, h2, h3⟩ := find_sent hP (y := (x.1, x.2 + 1)) hi he hk
      exact ⟨f, e, hin.1, hin.2, h1, he, h2, hk, h3⟩
    · exact absurd hx List.not_mem_nil
  · exact absurd hx List.not_mem_nil
theorem msg_fit {t : List Pr} {l : List (List Int)} (hP : Paired t) (hc : cpP t l) : LFit (msgs t) l := by
  refine ⟨cp_asc hc, fun m hm => ?_, fun m hm r hr => ?_⟩
  · obtain ⟨h1, h2⟩ := rcv_mem hP hm
    exact ⟨by rw [hc.1]; exact in_proc h1, by rw [hc.1]; exact in_proc h2, h2.1⟩
  · obtain ⟨h1, -⟩ := rcv_mem hP hm
    have := (hc.2 _ r hr).2.1
    exact ⟨_, List.mem_iff_getElem?.2 ⟨_, this⟩, by have := h1.2; omega⟩
theorem evN_le {t : List Pr} (hs : TSm t) (q : Nat) : evN t q ≤ 100000 := by
  unfold evN
  cases h : t[q]? with
  | none => simp
  | some x => exact (hs.each x (List.mem_of_getElem? h)).2.2.1
theorem msg_small {t : List Pr} (hs : TSm t) (hP : Paired t) {m : Msg} (h : m ∈ msgs t) : FitM m := by
  obtain ⟨h1, h2⟩ := rcv_mem hP h
  have a1 := in_proc h1
  have a2 := in_proc h2
  have a3 := h1.2
  have a4 := h2.2
  have b1 := evN_le hs m.1.1
  have b2 := evN_le hs m.2.1
  have b3 := hs.procs
  exact ⟨⟨by omega, by omega⟩, ⟨by omega, by omega⟩⟩
theorem ck_p {l : List (List Int)} {p i : Int} (h : ckB l p i = true) : CkP l (p.toNat, i.toNat) ∧ p = (p.toNat : Int) ∧ i = (i.toNat : Int) := by
  unfold ckB at h
  simp only [Bool.and_eq_true, decide_eq_true_eq] at h
  obtain ⟨h1, h2, h3, h4⟩ := h
  exact ⟨⟨by show p.toNat < _; omega, by show 1 ≤ i.toNat; omega, by show i.toNat ≤ (l.getD p.toNat []).length; omega⟩, by omega, by omega⟩
theorem OwnO.row {w : World} {base e size n cap : Nat} {D : Option Addr} {xs : List Value} (h : OwnO w base e size (.slice D n cap) n xs) : Row w D xs := by
  by_cases hn : 0 < n
  · obtain ⟨g, o, c, he, -, -, -, hlt, hc⟩ := h.open_ hn
    cases he
    exact .inr ⟨g, o, rfl, hlt, hc⟩
  · have := h.1
    obtain rfl : n = 0 := by omega
    exact .inl (List.eq_nil_of_length_eq_zero (by omega))
/-- what Zigzag says -/
noncomputable def zigO (t : List Pr) (l : List (List Int)) (xp xi yp yi : Int) : Bool × Nat :=
  if cpB t l = false then (false, 1) else if (ckB l xp xi && ckB l yp yi) = false then (false, 2) else (zzB l (msgs t) (xp.toNat, xi.toNat) (yp.toNat, yi.toNat), 0)
set_option maxRecDepth 20000 in
set_option maxHeartbeats 3200000 in
theorem pZigzag_c (t : List Pr) (A : Option Addr) (c : Nat) (l : List (List Int)) (B : Option Addr) (lc : Nat) (xp xi yp yi : Int) (w : World) (hT : TcC w A t) (hs : TSm t) (hcap : t.length ≤ c) (hL : LlC w B l) (hls : LSm l) :
    Calls Tryz.prog 19 #[.agg #[.slice A t.length c], .slice B l.length lc, .agg #[.int .i64 xp, .int .i64 xi], .agg #[.int .i64 yp, .int .i64 yi]] w (Ret w (.tuple #[.bool (zigO t l xp xi yp yi).1, .int .i64 ((zigO t l xp xi yp yi).2 : Nat)])) := by
  have HV := Lib.hid (fun w' (h : Ex w w') => pCp_c t A c l B lc w' (hT.ex h) hs hcap (hL.ex h) hls)
  have HK := Lib.hid (fun p i w' (h : Ex w w') => pCheckpoint_c l B lc p i w' (hL.ex h))
  have HKx := Lib.hid (HK.out xp xi)
  have HKy := Lib.hid (HK.out yp yi)
  obtain ⟨W0, hW0⟩ : ∃ W0, W0 = ((w.alloc (.cells #[.slice A t.length c] 24)).alloc (.cells #[.int .i64 xp, .int .i64 xi] 57)).alloc (.cells #[.int .i64 yp, .int .i64 yi] 57) := ⟨_, rfl⟩
  have HX0 : Hid (Ex w W0) := by rw [hW0]; exact (((Ex.refl w).alloc _).alloc _).alloc _
  have HB0 : Hid (∀ w', Ex W0 w' → Blk w' w.heap.size 24 [.slice A t.length c]) := fun w' hx => by
    have : Blk W0 w.heap.size 24 [.slice A t.length c] := by rw [hW0]; exact ((Blk.new w _ _).alloc _).alloc _
    exact this.ex hx
  have HB1 : Hid (∀ w', Ex W0 w' → Blk w' (w.heap.size + 1) 57 [.int .i64 xp, .int .i64 xi]) := fun w' hx => by
    have : Blk W0 (w.heap.size + 1) 57 [.int .i64 xp, .int .i64 xi] := by
      rw [hW0, show w.heap.size + 1 = (w.alloc (.cells #[.slice A t.length c] 24)).heap.size by simp]
      exact (Blk.new _ _ _).alloc _
    exact this.ex hx
  have HB2 : Hid (∀ w', Ex W0 w' → Blk w' (w.heap.size + 1 + 1) 57 [.int .i64 yp, .int .i64 yi]) := fun w' hx => by
    have : Blk W0 (w.heap.size + 1 + 1) 57 [.int .i64 yp, .int .i64 yi] := by
      rw [hW0, show w.heap.size + 1 + 1 = ((w.alloc (.cells #[.slice A t.length c] 24)).alloc (.cells #[.int .i64 xp, .int .i64 xi] 57)).heap.size by simp]
      exact Blk.new _ _ _
    exact this.ex hx
  have HW0 := Lib.hid hW0
  clear hW0 HK
  unfold zigO
  cases hV : cpB t l with
  | false =>
    rw [hV] at HV
    simp only [if_true]
    clear hV hT hs hcap hL hls
    have x0 := (HB0.out _ (Ex.refl _)).cell 0
    have xl := (HB0.out _ (Ex.refl _)).lt
    go_enter Tryz.func19, Tryz.ntmps19
    go_wp2_with fail
    rw [← HW0.out]
    go_wp2_with fail
    refine (HV.out _ HX0.out).mono ?_
    rintro e9 w' ⟨rfl, z, rfl⟩
    go_wp2_with fail
    exact bodyPost_ret (results_tt rfl rfl rfl) rfl ⟨rfl, HX0.out.ext z⟩
  | true =>
    rw [hV] at HV
    have hv := cp_of hV
    simp only [Bool.true_eq_false, if_false]
    have x0 := (HB0.out _ (Ex.refl _)).cell 0
    have xl := (HB0.out _ (Ex.refl _)).lt
    cases hkx : ckB l xp xi with
    | false =>
      rw [hkx] at HKx
      simp only [Bool.false_and, if_true]
      clear hV hT hs hcap hL hls hv hkx
      go_enter Tryz.func19, Tryz.ntmps19
      go_wp2_with fail
      rw [← HW0.out]
      go_wp2_with fail
      refine (HV.out _ HX0.out).mono ?_
      rintro e9 w' ⟨rfl, hx1⟩
      have HX1 := Lib.hid hx1
      have y0 := (HB1.out _ hx1).cell 0
      have y1 := (HB1.out _ hx1).cell 1
      have yl := (HB1.out _ hx1).lt
      clear hx1
      go_wp2_with fail
      refine (HKx.out _ (HX0.out.trans HX1.out)).mono ?_
      rintro e9 w2 ⟨rfl, z2, rfl⟩
      go_wp2_with fail
      exact bodyPost_ret (results_tt rfl rfl rfl) rfl ⟨rfl, (HX0.out.trans HX1.out).ext z2⟩
    | true =>
      rw [hkx] at HKx
      have hcx := ck_p hkx
      cases hky : ckB l yp yi with
      | false =>
        rw [hky] at HKy
        simp only [Bool.and_false, if_true]
        clear hV hT hs hcap hL hls hv hkx hky hcx
        go_enter Tryz.func19, Tryz.ntmps19
        go_wp2_with fail
        rw [← HW0.out]
        go_wp2_with fail
        refine (HV.out _ HX0.out).mono ?_
        rintro e9 w' ⟨rfl, hx1⟩
        have HX1 := Lib.hid hx1
        have y0 := (HB1.out _ hx1).cell 0
        have y1 := (HB1.out _ hx1).cell 1
        have yl := (HB1.out _ hx1).lt
        clear hx1
        go_wp2_with fail
        refine (HKx.out _ (HX0.out.trans HX1.out)).mono ?_
        rintro e9 w2 ⟨rfl, hx2⟩
        have HX2 := Lib.hid (HX1.out.trans hx2)
        have z0 := (HB2.out _ HX2.out).cell 0
        have z1 := (HB2.out _ HX2.out).cell 1
        have zl := (HB2.out _ HX2.out).lt
        clear hx2
        go_wp2_with fail
        refine (HKy.out _ (HX0.out.trans HX2.out)).mono ?_
        rintro e9 w3 ⟨rfl, z3, rfl⟩
        go_wp2_with fail
        exact bodyPost_ret (results_tt rfl rfl rfl) rfl ⟨rfl, (HX0.out.trans HX2.out).ext z3⟩
      | true =>
        rw [hky] at HKy
        have hcy := ck_p hky
        simp only [Bool.and_true, Bool.true_eq_false, if_false]
        have hP : Paired t := paired_of (fault_zero (of_decide_eq_true hv.1)).2.2.2.1
        have hml : (msgs t).length ≤ 100000 := Nat.le_trans (rcv_len t.length 0 (.inr ⟨Nat.le_refl _, rfl⟩)) hs.events
        have HMs := Lib.hid (fun w' (h : Ex w w') => messages_c t A c w' (hT.ex h) hs hcap hv.1)
        have hfit := msg_fit hP hv.2
        have HZ := Lib.hid (fun MA mc w' (h : Ex w w') (hM : Row w' MA (msgCs (msgs t))) => zigzag_c l B lc (msgs t) MA mc _ _ w' (hL.ex h) hls (cp_asc hv.2) hM hml (fun m hm => msg_small hs hP hm) (fun m hm => ⟨(hfit.bound m hm).1, (hfit.bound m hm).2.1⟩) hcx.1 hcy.1)
        unfold idV at HZ
        dsimp only at HZ
        rw [← hcx.2.1, ← hcx.2.2, ← hcy.2.1, ← hcy.2.2] at HZ
        unfold MsgsR at HMs
        generalize zzB l (msgs t) (xp.toNat, xi.toNat) (yp.toNat, yi.toNat) = zz at *
        generalize msgs t = M at *
        clear hV hT hs hcap hL hls hv hkx hky hcx hcy hP hfit
        go_enter Tryz.func19, Tryz.ntmps19
        go_wp2_with fail
        rw [← HW0.out]
        go_wp2_with fail
        refine (HV.out _ HX0.out).mono ?_
        rintro e9 w' ⟨rfl, hx1⟩
        have HX1 := Lib.hid hx1
        have y0 := (HB1.out _ hx1).cell 0
        have y1 := (HB1.out _ hx1).cell 1
        have yl := (HB1.out _ hx1).lt
        clear hx1
        go_wp2_with fail
        refine (HKx.out _ (HX0.out.trans HX1.out)).mono ?_
        rintro e9 w2 ⟨rfl, hx2⟩
        have HX2 := Lib.hid (HX1.out.trans hx2)
        have z0 := (HB2.out _ HX2.out).cell 0
        have z1 := (HB2.out _ HX2.out).cell 1
        have zl := (HB2.out _ HX2.out).lt
        clear hx2
        go_wp2_with fail
        refine (HKy.out _ (HX0.out.trans HX2.out)).mono ?_
        rintro e9 w3 ⟨rfl, hx3⟩
        have HX3 := Lib.hid (HX2.out.trans hx3)
        have l0 := (HB0.out _ HX3.out).cell 0
        have l1 := (HB1.out _ HX3.out).cell 0
        have l2 := (HB1.out _ HX3.out).cell 1
        have l3 := (HB2.out _ HX3.out).cell 0
        have l4 := (HB2.out _ HX3.out).cell 1
        clear hx3 x0 xl y0 y1 yl z0 z1 zl
        go_upto_region 5 with fail
        go_region_held3 (fun (w' : World) => w'.cell? ⟨w.heap.size, 0, none⟩ = some (.slice A t.length c) ∧ w'.cell? ⟨w.heap.size + 1, 0, none⟩ = some (.int .i64 xp) ∧ w'.cell? ⟨w.heap.size + 1, 1, none⟩ = some (.int .i64 xi) ∧ w'.cell? ⟨w.heap.size + 1 + 1, 0, none⟩ = some (.int .i64 yp) ∧ w'.cell? ⟨w.heap.size + 1 + 1, 1, none⟩ = some (.int .i64 yi))
          (first | exact ⟨l0, l1, l2, l3, l4⟩ | exact ⟨k0, k1, k2, k3, k4⟩ | go_keep)
          (first | (go_at_call 39; refine (HMs.out _ (HX0.out.trans (by repeat (first | exact HX3.out | apply Ex.drew)))).mono ?_; rintro e w5 ⟨A5, c5, rfl, ho5, hx5⟩; have hE5 : Ex W0 w5 := Ex.trans (by repeat (first | exact HX3.out | apply Ex.drew)) hx5; have k0 := (HB0.out _ hE5).cell 0; have k1 := (HB1.out _ hE5).cell 0; have k2 := (HB1.out _ hE5).cell 1; have k3 := (HB2.out _ hE5).cell 0; have k4 := (HB2.out _ hE5).cell 1) | (go_at_call 40; refine (HZ.out _ _ _ (HX0.out.trans hE5) ho5.row).mono ?_; rintro e w9 ⟨rfl, hx9⟩; have HE9 := Lib.hid (HX0.out.trans (hE5.trans hx9)); have k0 := (HB0.out _ (hE5.trans hx9)).cell 0; have k1 := (HB1.out _ (hE5.trans hx9)).cell 0; have k2 := (HB1.out _ (hE5.trans hx9)).cell 1; have k3 := (HB2.out _ (hE5.trans hx9)).cell 0; have k4 := (HB2.out _ (hE5.trans hx9)).cell 1))
        go_wp2_with fail
        exact bodyPost_ret (results_tt rfl rfl rfl) rfl ⟨rfl, HE9.out⟩
end
section
open Go.RowKit Go.Shelf
/-- the number of a message -/
def numE (t : List Pr) (m : Msg) : Int := match evAt t m.2.1 (m.2.2 - 1) with | some e => e.msg | none => 0
theorem num_find {t : List Pr} (hP : Paired t) {m : Msg} (h : m ∈ msgs t) : findO t 2 (numE t m) = m.1 ∧ findO t 3 (numE t m) = m.2 := by
  obtain ⟨e, f, h1, h2, h3, h4, h5, h6, h7⟩ := msg_is hP h
  unfold numE
  rw [h4]
  exact ⟨find_eq hP (by decide) h1 ⟨e, h3, h5, h7⟩, find_eq hP (by decide) h2 ⟨f, h4, h6, rfl⟩⟩
theorem numE_at {t : List Pr} {p j : Nat} {e : Ev} (h : evAt t p j = some e) (s : Nat × Nat) : numE t (s, (p, j + 1)) = e.msg := by
  unfold numE
  simp only [Nat.add_sub_cancel, h]
/-- what Messages hands back -/
def NumsR (t : List Pr) (w : World) (e : Ending) (w' : World) : Prop :=
  ∃ A c, e = .returned (.slice A (msgs t).length c) ∧ OwnO w' w.heap.size 3 1 (.slice A (msgs t).length c) (msgs t).length (intsV ((msgs t).map (numE t))) ∧ Ex w w'
theorem count_lt {r : List Int} (h : Asc r) (n : Int) : ∀ i, i ≤ r.length → (∀ j a, j < i → r[j]? = some a → a < n) → (∀ j a, i ≤ j → r[j]? = some a → n ≤ a) → r.countP (· < n) = i := fun i hi h1 h2 => by
  obtain ⟨k, g1, g2, g3, g4⟩ := split_at (n := n) (asc_sorted h)
  rw [g2]
  rcases Nat.lt_trichotomy k i with hlt | rfl | hlt
  · obtain ⟨a, ha⟩ := get_at (show k < r.length by omega)
    have := h1 k a hlt ha
    have := g4 k a (Nat.le_refl _) ha
    omega
  · rfl
  · obtain ⟨a, ha⟩ := get_at (show i < r.length by omega)
    have := g3 i a hlt ha
    have := h2 i a (Nat.le_refl _) ha
    omega
end
section
open Go.RowKit Go.Shelf
theorem idCs_get {L : List (Nat × Nat)} {i : Nat} {x : Nat × Nat} (h : L[i]? = some x) : (idCs L)[i * 2]? = some (.int .i64 (x.1 : Nat)) ∧ (idCs L)[i * 2 + 1]? = some (.int .i64 (x.2 : Nat)) :=
  pair_get (fun x : Nat × Nat => Value.int .i64 (x.1 : Nat)) (fun x => .int .i64 (x.2 : Nat)) L i x h
theorem OwnO.cell_at {w : World} {base e size n g o cap : Nat} {xs : List Value} {j : Nat} {u : Value} (h : OwnO w base e size (.slice (some ⟨g, o, none⟩) n cap) n xs) (hn : 0 < n) (hj : xs[j]? = some u) : w.cell? ⟨g, o + j, none⟩ = some u := by
  obtain ⟨g', o', c', he, -, -, -, -, hc⟩ := h.open_ hn
  cases he
  exact hc j u hj
/-- two rows of names of events -/
structure SR (base : Nat) (vs vr : Value) (n k : Nat) (S R : List (Nat × Nat)) (w : World) : Prop where
  s : OwnO w base 57 2 vs n (idCs S)
  r : OwnO w base 57 2 vr k (idCs R)
  dis : ∀ b, vs.ownBlock = some b → vr.ownBlock ≠ some b
theorem SR.ex {base : Nat} {vs vr : Value} {n k : Nat} {S R : List (Nat × Nat)} {w w' : World} (h : SR base vs vr n k S R w) (hx : Ex w w') : SR base vs vr n k S R w' := ⟨h.s.ex hx, h.r.ex hx, h.dis⟩
theorem SR.pushS {base : Nat} {vs vr vs' : Value} {n k : Nat} {S R S' : List (Nat × Nat)} {w w' : World} (h : SR base vs vr n k S R w) (hg : w.grownBy w' vs.ownBlock) (ho : OwnO w' base 57 2 vs' (n + 1) (idCs S')) (hat : vs'.ownBlock = vs.ownBlock ∨ vs'.ownBlock = some w.heap.size) : SR base vs' vr (n + 1) k S' R w' := by
  refine ⟨ho, h.r.kept hg ?_, fun b hb hb' => ?_⟩
  · cases hv : vr.ownBlock with
    | none => exact .inl rfl
    | some b => exact .inr fun he => h.dis b he.symm hv
  · rcases hat with he | he
    · exact h.dis b (he ▸ hb) hb'
    · rw [he] at hb
      cases hb
      have := (h.r.lt _ hb').2
      omega
theorem SR.pushR {base : Nat} {vs vr vr' : Value} {n k : Nat} {S R R' : List (Nat × Nat)} {w w' : World} (h : SR base vs vr n k S R w) (hg : w.grownBy w' vr.ownBlock) (ho : OwnO w' base 57 2 vr' (k + 1) (idCs R')) (hat : vr'.ownBlock = vr.ownBlock ∨ vr'.ownBlock = some w.heap.size) : SR base vs vr' n (k + 1) S R' w' := by
  refine ⟨h.s.kept hg ?_, ho, fun b hb hb' => ?_⟩
  · cases hv : vs.ownBlock with
    | none => exact .inl rfl
    | some b => exact .inr fun he => h.dis b hv he.symm
  · rcases hat with he | he
    · exact h.dis b hb (he ▸ hb')
    · rw [he] at hb'
      cases hb'
      have := (h.s.lt _ hb).2
      omega
def boolsV (R : List Bool) : List Value := R.map Value.bool
theorem boolsV_get {R : List Bool} {i : Nat} {b : Bool} (h : R[i]? = some b) : (boolsV R)[i]? = some (.bool b) := by
  unfold boolsV
  rw [List.getElem?_map, h]
  rfl
theorem boolsV_set (R : List Bool) (i : Nat) (b : Bool) : (boolsV R).set i (.bool b) = boolsV (R.set i b) := by
  unfold boolsV
  rw [List.map_set]
theorem mrk_bools (n : Nat) : mrk [] 0 n = boolsV (List.replicate n false) := by
  apply List.ext_getElem?
  intro i
  unfold mrk boolsV
  by_cases h : i < n
  · simp [h]
  · simp [h]
theorem unset_le (R : List Bool) : unset R ≤ R.length := List.countP_le_length
/-- the parts of the lists of messages -/
theorem map_at {M : List Msg} {i : Nat} {m : Msg} (h : M[i]? = some m) : (M.map fun m => m.1)[i]? = some m.1 ∧ (M.map fun m => m.2)[i]? = some m.2 := by simp [h]
end
end Go.Proofs.YtdenojfbdkdpiaaGreat
