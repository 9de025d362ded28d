/-
  The law RecoveryForces, walked.
  Conditions: as each theorem says.
-/
import Derived.Test.YtdenojfbdkdpiaaGreatQb
namespace Go.Proofs.YtdenojfbdkdpiaaGreat
open Go.RowKit Go.Shelf
theorem llc_row {w : World} {B : Option Addr} {l : List (List Int)} (h : LlC w B l) {p : Nat} {r : List Int} (hr : l[p]? = some r) : ∃ b o A c, B = some ⟨b, o, none⟩ ∧ b < w.heap.size ∧ w.cell? ⟨b, o + p, none⟩ = some (.slice A r.length c) ∧ Row w A (intsV r) := by
  obtain ⟨b, o, hB, hb, A, c, g0, -, hrow⟩ := h p r hr
  exact ⟨b, o, A, c, hB, hb, g0, hrow⟩
theorem pUselessN_c (t : List Pr) (A : Option Addr) (c : Nat) (l : List (List Int)) (B : Option Addr) (lc n : Nat) (w : World) (hn : l.length = n) (hT : TcC w A t) (hs : TSm t) (hcap : t.length ≤ c) (hL : LlC w B l) (hls : LSm l) (hsm : ∀ p j, p < l.length → j ≤ (l.getD p []).length → (ckU l p j).length ≤ 1000000) :
    Calls Tryz.prog 16 #[.agg #[.slice A t.length c], .slice B n lc] w (UseR t l w) := by
  subst hn
  exact pUseless_c t A c l B lc w hT hs hcap hL hls hsm
theorem pForcedN_c (t : List Pr) (A : Option Addr) (c : Nat) (l : List (List Int)) (B : Option Addr) (lc n : Nat) (w : World) (hn : l.length = n) (hT : TcC w A t) (hs : TSm t) (hcap : t.length ≤ c) (hL : LlC w B l) (hls : LSm l) :
    Calls Tryz.prog 9 #[.agg #[.slice A t.length c], .slice B n lc] w (FrcR t l w) := by
  subst hn
  exact pForced_c t A c l B lc w hT hs hcap hL hls
theorem pCpN_c (t : List Pr) (A : Option Addr) (c : Nat) (l : List (List Int)) (B : Option Addr) (lc n : Nat) (w : World) (hn : l.length = n) (hT : TcC w A t) (hs : TSm t) (hcap : t.length ≤ c) (hL : LlC w B l) (hls : LSm l) :
    Calls Tryz.prog 14 #[.agg #[.slice A t.length c], .slice B n lc] w (Ret w (.bool (cpB t l))) := by
  subst hn
  exact pCp_c t A c l B lc w hT hs hcap hL hls
theorem rCpN_c (t : List Pr) (A : Option Addr) (c : Nat) (l : List (List Int)) (B : Option Addr) (lc n : Nat) (w : World) (hn : l.length = n) (hT : TcC w A t) (hs : TSm t) (hL : LlC w B l) (hls : LSm l) :
    Calls Tryz.prog 10 #[.agg #[.slice A t.length c], .slice B n lc] w (Ret w (.bool (cpB t l))) := by
  subst hn
  exact rCp_c t A c l B lc w hT hs hL hls
set_option maxRecDepth 100000 in
set_option maxHeartbeats 6400000 in
theorem forces_law (t : List Pr) (A : Option Addr) (c : Nat) (l : List (List Int)) (B : Option Addr) (lc : Nat) (w : World) (hT : TcC w A t) (hcap : t.length ≤ c) (hL : LlC w B l) (htl : t.length ≤ 281474976710656) (hbig : ∀ x, x ∈ t → x.evs.length ≤ 281474976710656) :
    Calls Tryz.prog 4 #[.agg #[.slice A t.length c], .slice B l.length lc] w (Ret w (.bool true)) := by
  have HAw := Lib.hid awake_c
  have HFw := Lib.hid (fun w' (h : Ex w w') => few_c t A c 30 w' (hT.ex h) (by decide) htl hbig)
  have HSh := Lib.hid (fun w' (h : Ex w w') => short_c l B lc w' (hL.ex h))
  obtain ⟨W0, hW0⟩ : ∃ W0, W0 = w.alloc (.cells #[.slice A t.length c] 24) := ⟨_, rfl⟩
  have HX0 : Hid (Ex w W0) := by rw [hW0]; exact (Ex.refl w).alloc _
  have HB0 : Hid (∀ w', Ex W0 w' → Blk w' w.heap.size 24 [.slice A t.length c]) := fun w' hx => by
    have : Blk W0 w.heap.size 24 [.slice A t.length c] := by rw [hW0]; exact Blk.new w _ _
    exact this.ex hx
  have HW0 := Lib.hid hW0
  clear hW0
  cases hfw : fewB t 30 with
  | false =>
    rw [hfw] at HFw
    clear hT hcap hL htl hbig hfw
    go_enter Tryz.func4, Tryz.ntmps4
    go_wp2_with fail
    rw [← HW0.out]
    refine (HAw.out _).mono ?_
    rintro e9 w1 ⟨rfl, hx1⟩
    have HX1 := Lib.hid (hx1)
    try clear a0 al
    clear hx1
    have a0 := (HB0.out _ HX1.out).cell 0
    have al := (HB0.out _ HX1.out).lt
    go_wp2_with fail
    refine (HFw.out _ (HX0.out.trans HX1.out)).mono ?_
    rintro e9 w2 ⟨rfl, hx2⟩
    have HX2 := Lib.hid (HX1.out.trans hx2)
    try clear a0 al
    clear hx2
    have a0 := (HB0.out _ HX2.out).cell 0
    have al := (HB0.out _ HX2.out).lt
    go_wp2_with fail
    refine (HAw.out _).mono ?_
    rintro e9 w3 ⟨rfl, hx3⟩
    have HX3 := Lib.hid (HX2.out.trans hx3)
    try clear a0 al
    clear hx3
    go_wp2_with fail
    go_ret
    exact Ret.mk (by first | rfl | simp) (HX0.out.trans HX3.out)
  | true =>
    rw [hfw] at HFw
    obtain ⟨hs, hsum, htl10⟩ := few_small (by decide) hfw
    cases hsh : shortB l with
    | false =>
      rw [hsh] at HSh
      clear hT hcap hL htl hbig hfw hsh hs htl10 hsum
      go_enter Tryz.func4, Tryz.ntmps4
      go_wp2_with fail
      rw [← HW0.out]
      refine (HAw.out _).mono ?_
      rintro e9 w1 ⟨rfl, hx1⟩
      have HX1 := Lib.hid (hx1)
      try clear a0 al
      clear hx1
      have a0 := (HB0.out _ HX1.out).cell 0
      have al := (HB0.out _ HX1.out).lt
      go_wp2_with fail
      refine (HFw.out _ (HX0.out.trans HX1.out)).mono ?_
      rintro e9 w2 ⟨rfl, hx2⟩
      have HX2 := Lib.hid (HX1.out.trans hx2)
      try clear a0 al
      clear hx2
      have a0 := (HB0.out _ HX2.out).cell 0
      have al := (HB0.out _ HX2.out).lt
      go_wp2_with fail
      refine (HSh.out _ (HX0.out.trans HX2.out)).mono ?_
      rintro e9 w3 ⟨rfl, hx3⟩
      have HX3 := Lib.hid (HX2.out.trans hx3)
      try clear a0 al
      clear hx3
      have a0 := (HB0.out _ HX3.out).cell 0
      have al := (HB0.out _ HX3.out).lt
      go_wp2_with fail
      refine (HAw.out _).mono ?_
      rintro e9 w4 ⟨rfl, hx4⟩
      have HX4 := Lib.hid (HX3.out.trans hx4)
      try clear a0 al
      clear hx4
      go_wp2_with fail
      go_ret
      exact Ret.mk (by first | rfl | simp) (HX0.out.trans HX4.out)
    | true =>
      rw [hsh] at HSh
      have hls := short_small hsh
      have HV := Lib.hid (fun w' (h : Ex w w') => rCp_c t A c l B lc w' (hT.ex h) hs (hL.ex h) hls)
      cases hv : cpB t l with
      | false =>
        rw [hv] at HV
        clear hT hcap hL htl hbig hfw hsh hs htl10 hsum hls
        go_enter Tryz.func4, Tryz.ntmps4
        go_wp2_with fail
        rw [← HW0.out]
        refine (HAw.out _).mono ?_
        rintro e9 w1 ⟨rfl, hx1⟩
        have HX1 := Lib.hid (hx1)
        try clear a0 al
        clear hx1
        have a0 := (HB0.out _ HX1.out).cell 0
        have al := (HB0.out _ HX1.out).lt
        go_wp2_with fail
        refine (HFw.out _ (HX0.out.trans HX1.out)).mono ?_
        rintro e9 w2 ⟨rfl, hx2⟩
        have HX2 := Lib.hid (HX1.out.trans hx2)
        try clear a0 al
        clear hx2
        have a0 := (HB0.out _ HX2.out).cell 0
        have al := (HB0.out _ HX2.out).lt
        go_wp2_with fail
        refine (HSh.out _ (HX0.out.trans HX2.out)).mono ?_
        rintro e9 w3 ⟨rfl, hx3⟩
        have HX3 := Lib.hid (HX2.out.trans hx3)
        try clear a0 al
        clear hx3
        have a0 := (HB0.out _ HX3.out).cell 0
        have al := (HB0.out _ HX3.out).lt
        go_wp2_with fail
        refine (HV.out _ (HX0.out.trans HX3.out)).mono ?_
        rintro e9 w4 ⟨rfl, hx4⟩
        have HX4 := Lib.hid (HX3.out.trans hx4)
        try clear a0 al
        clear hx4
        have a0 := (HB0.out _ HX4.out).cell 0
        have al := (HB0.out _ HX4.out).lt
        go_wp2_with fail
        refine (HAw.out _).mono ?_
        rintro e9 w5 ⟨rfl, hx5⟩
        have HX5 := Lib.hid (HX4.out.trans hx5)
        try clear a0 al
        clear hx5
        go_wp2_with fail
        go_ret
        exact Ret.mk (by first | rfl | simp) (HX0.out.trans HX5.out)
      | true =>
        rw [hv] at HV
        have hvv := cp_of hv
        have hfs := frcL_small hls (show sumN t ≤ 80 by omega)
        have hfcp := frcL_cp hvv.2
        have hfv : cpB t (frcL t l) = true := cp_true hvv.1 hfcp
        have hfk : ∀ p j, p < (frcL t l).length → j ≤ ((frcL t l).getD p []).length → (ckU (frcL t l) p j).length ≤ 1000000 := fun p j hp hj => by
          have h1 : ∀ r, r ∈ frcL t l → r.length ≤ 100 := fun r hr => by
            obtain ⟨q, hq, rfl⟩ := List.mem_map.1 hr
            have h1 := frc_len (l.getD q []) (evsOf t q) 0 false
            have h2 : (evsOf t q).length ≤ 30 := by
              unfold evsOf
              cases hx : t[q]? with
              | none => simp
              | some x => have := evs_sum t x (List.mem_of_getElem? hx); simp only; omega
            unfold frcP
            omega
          have h2 := ckU_le h1 p j
          rw [frcL_len] at hp
          have h3 : l.length ≤ 10 := by rw [hvv.2.1]; exact htl10
          have h4 : ((frcL t l).getD p []).length ≤ 100 := by
            rw [List.getD_eq_getElem?_getD]
            cases hr : (frcL t l)[p]? with
            | none => simp
            | some r => exact h1 r (List.mem_of_getElem? hr)
          omega
        have HFc := Lib.hid (fun w' (h : Ex w w') => pForced_c t A c l B lc w' (hT.ex h) hs hcap (hL.ex h) hls)
        have HPv := Lib.hid (fun A5 c5 w' (h : Ex w w') (h5 : LlC w' A5 (frcL t l)) => pCpN_c t A c (frcL t l) A5 c5 l.length w' (frcL_len t l) (hT.ex h) hs hcap h5 hfs)
        have HRv := Lib.hid (fun A5 c5 w' (h : Ex w w') (h5 : LlC w' A5 (frcL t l)) => rCpN_c t A c (frcL t l) A5 c5 l.length w' (frcL_len t l) (hT.ex h) hs h5 hfs)
        have HUs := Lib.hid (fun A5 c5 w' (h : Ex w w') (h5 : LlC w' A5 (frcL t l)) => pUselessN_c t A c (frcL t l) A5 c5 l.length w' (frcL_len t l) (hT.ex h) hs hcap h5 hfs hfk)
        have HFa := Lib.hid (fun A5 c5 w' (h : Ex w w') (h5 : LlC w' A5 (frcL t l)) => pForcedN_c t A c (frcL t l) A5 c5 l.length w' (frcL_len t l) (hT.ex h) hs hcap h5 hfs)
        have HSm := Lib.hid (fun A1 A2 c1 c2 w' (h1 : LlC w' A1 (frcL t l)) (h2 : LlC w' A2 (frcL t l)) => sameN_c (frcL t l) (frcL t l) A1 A2 c1 c2 l.length l.length w' (frcL_len t l) (frcL_len t l) h1 h2 hfs hfs)
        rw [hfv] at HPv HRv
        unfold FrcR at HFc HFa
        unfold UseR at HUs
        rw [frcL_again hvv.2, frcL_len] at HFa
        rw [useless_none hvv.1 hvv.2] at HUs
        have hlt : l.length ≤ t.length := Nat.le_of_eq hvv.2.1
        have HPr : Hid (∀ p, p < l.length → ∃ x r, t[p]? = some x ∧ l[p]? = some r ∧ (frcL t l)[p]? = some (frc r x.evs 0 false) ∧ okRow x.evs.length r ∧ r.length ≤ 100000 ∧ x.evs.length ≤ 100000 ∧ (frc r x.evs 0 false).length ≤ 100001) := fun p hp => by
          obtain ⟨f, hf⟩ := get_at (show p < (frcL t l).length by rw [frcL_len]; exact hp)
          obtain ⟨x, r, hx, hr, rfl⟩ := frcL_row hvv.2 hf
          have hok := hvv.2.2 p r hr
          rw [evN_at hx] at hok
          have h1 := (hs.each x (List.mem_of_getElem? hx)).2.2.1
          exact ⟨x, r, hx, hr, hf, hok, hls.each r (List.mem_of_getElem? hr), h1, by have := frc_len r x.evs 0 false; omega⟩
        have HT : Hid (∀ w', Ex w w' → TcC w' A t) := fun w' h => hT.ex h
        have HL : Hid (∀ w', Ex w w' → LlC w' B l) := fun w' h => hL.ex h
        have htp := hs.procs
        clear hT hcap hL htl hbig hfw hsh hs htl10 hsum hls hvv hfs hfcp hfk
        generalize hfl : frcL t l = fl at *
        clear hfl
        go_enter Tryz.func4, Tryz.ntmps4
        go_wp2_with fail
        rw [← HW0.out]
        refine (HAw.out _).mono ?_
        rintro e9 w1 ⟨rfl, hx1⟩
        have HX1 := Lib.hid (hx1)
        try clear a0 al
        clear hx1
        have a0 := (HB0.out _ HX1.out).cell 0
        have al := (HB0.out _ HX1.out).lt
        go_wp2_with fail
        refine (HFw.out _ (HX0.out.trans HX1.out)).mono ?_
        rintro e9 w2 ⟨rfl, hx2⟩
        have HX2 := Lib.hid (HX1.out.trans hx2)
        try clear a0 al
        clear hx2
        have a0 := (HB0.out _ HX2.out).cell 0
        have al := (HB0.out _ HX2.out).lt
        go_wp2_with fail
        refine (HSh.out _ (HX0.out.trans HX2.out)).mono ?_
        rintro e9 w3 ⟨rfl, hx3⟩
        have HX3 := Lib.hid (HX2.out.trans hx3)
        try clear a0 al
        clear hx3
        have a0 := (HB0.out _ HX3.out).cell 0
        have al := (HB0.out _ HX3.out).lt
        go_wp2_with fail
        refine (HV.out _ (HX0.out.trans HX3.out)).mono ?_
        rintro e9 w4 ⟨rfl, hx4⟩
        have HX4 := Lib.hid (HX3.out.trans hx4)
        try clear a0 al
        clear hx4
        have a0 := (HB0.out _ HX4.out).cell 0
        have al := (HB0.out _ HX4.out).lt
        go_wp2_with fail
        refine (HFc.out _ (HX0.out.trans HX4.out)).mono ?_
        rintro e9 w5 h5
        obtain ⟨A5, c5, rfl, hL5, -, hx5⟩ : ∃ A c, e9 = .returned (.tuple #[.slice A l.length c, .int .i64 0]) ∧ LlC w5 A fl ∧ l.length ≤ c ∧ Ex w4 w5 := by
          rcases h5 with ⟨h, -⟩ | ⟨-, h⟩
          · rw [hv] at h; cases h
          · exact h
        have HX5 := Lib.hid (HX4.out.trans hx5)
        have HL5 : Hid (∀ w', Ex w5 w' → LlC w' A5 fl) := fun w' h => hL5.ex h
        clear h5 hL5
        try clear a0 al
        clear hx5
        have a0 := (HB0.out _ HX5.out).cell 0
        have al := (HB0.out _ HX5.out).lt
        go_wp2_with fail
        refine (HPv.out A5 c5 _ (HX0.out.trans HX5.out) (HL5.out _ (Ex.refl _))).mono ?_
        rintro e9 w6 ⟨rfl, hx6⟩
        have HX6 := Lib.hid (HX5.out.trans hx6)
        have HY6 := Lib.hid hx6
        try clear a0 al
        clear hx6
        have a0 := (HB0.out _ HX6.out).cell 0
        have al := (HB0.out _ HX6.out).lt
        go_wp2_with fail
        refine (HRv.out A5 c5 _ (HX0.out.trans HX6.out) (HL5.out _ HY6.out)).mono ?_
        rintro e9 w7 ⟨rfl, hx7⟩
        have HX7 := Lib.hid (HX6.out.trans hx7)
        have HY7 := Lib.hid (HY6.out.trans hx7)
        try clear a0 al
        clear hx7
        have a0 := (HB0.out _ HX7.out).cell 0
        have al := (HB0.out _ HX7.out).lt
        go_wp2_with fail
        clear a0 al
        go_loopw [56] (fun q wr => ∃ p : Nat, q = .int .i64 p ∧ p ≤ l.length ∧ Hid (Ex w7 wr)) (fun q _ => l.length - (intOf q).toNat)
        case atStart => exact ⟨0, rfl, Nat.zero_le _, Lib.hid (Ex.refl _)⟩
        case round =>
          obtain ⟨p, rfl, hp, HH⟩ := hrel
          by_cases hpl : p < l.length
          · have m0 : (0 : Int) ≤ (p : Int) := by omega
            have m1 : (p : Int) < (l.length : Int) := by omega
            have m2 : (p : Int) < (t.length : Int) := by omega
            obtain ⟨x, r, hx, hr, hf, hok, hrl, hel, hfl⟩ := HPr.out p hpl
            have hXw := HX0.out.trans (HX7.out.trans HH.out)
            have hYw := HY7.out.trans HH.out
            obtain ⟨b, o, hA, hbl, V, vc, E, ec, k0, k1, k2, -, kE⟩ := HT.out _ hXw p x hx
            subst hA
            obtain ⟨bb, oo, A7, c7, hBB, hbb, r0, hrow⟩ := llc_row (HL.out _ hXw) hr
            subst hBB
            obtain ⟨bf, of, A8, c8, hBF, hbf, f0, hfrow⟩ := llc_row (HL5.out _ hYw) hf
            subst hBF
            have hfne : frc r x.evs 0 false ≠ [] := fun h => by
              have := (frc_ok hok).1
              rw [h] at this
              simp at this
            have hrne : r ≠ [] := fun h => by have := hok.1; rw [h] at this; simp at this
            have HFr : Hid (∀ w', Ex wr w' → bf < w'.heap.size ∧ w'.cell? ⟨bf, of + p, none⟩ = some (.slice A8 (frc r x.evs 0 false).length c8)) := fun w' h => ⟨Nat.lt_of_lt_of_le hbf h.below.size, (h.below.cell hbf).trans f0⟩
            have HRr : Hid (∀ w', Ex wr w' → bb < w'.heap.size ∧ w'.cell? ⟨bb, oo + p, none⟩ = some (.slice A7 r.length c7)) := fun w' h => ⟨Nat.lt_of_lt_of_le hbb h.below.size, (h.below.cell hbb).trans r0⟩
            have HEr : Hid (∀ w', Ex wr w' → b < w'.heap.size ∧ w'.cell? ⟨b, o + p * 3 + 2, none⟩ = some (.slice E x.evs.length ec)) := fun w' h => ⟨Nat.lt_of_lt_of_le hbl h.below.size, (h.below.cell hbl).trans k2⟩
            have HXe : Hid (∀ w', Ex wr w' → EvsC w' E x.evs) := fun w' h => kE.ex h
            have HRw : Hid (∀ w', Ex wr w' → Row w' A7 (intsV r)) := fun w' h => hrow.ex h
            have HFw2 : Hid (∀ w', Ex wr w' → Row w' A8 (intsV (frc r x.evs 0 false))) := fun w' h => hfrow.ex h
            have HBx := Lib.hid (fun w' (h : Ex wr w') => HB0.out w' (HX7.out.trans (HH.out.trans h)))
            have HCf := Lib.hid (fun k w' (h : Ex wr w') => contains_c (frc r x.evs 0 false) A8 c8 k w' (hfrow.ex h) hfne (by omega))
            have HCr := Lib.hid (fun k w' (h : Ex wr w') => contains_c r A7 c7 k w' (hrow.ex h) hrne (by omega))
            have HOld : Hid (∀ k, k ∈ r → decide (k ∈ frc r x.evs 0 false) = true) := fun k hk => decide_eq_true (by
              have h1 := asc_nonneg hok.asc hk
              have h2 := okRow_le hok hk
              have := frc_old r x.evs 0 false k.toNat (Nat.zero_le _) (by omega) (by rw [show ((k.toNat : Nat) : Int) = k by omega]; exact hk)
              rwa [show ((k.toNat : Nat) : Int) = k by omega] at this)
            have HNew : Hid (∀ k, k ∈ frc r x.evs 0 false → decide (k ∈ r) = true ∨ (decide (k ∈ r) = false ∧ ∃ (i : Nat) (e : Ev), k = (i : Int) ∧ x.evs[i]? = some e ∧ e.kind = 3)) := fun k hk => by
              by_cases hkr : k ∈ r
              · exact .inl (decide_eq_true hkr)
              · rcases frc_new r x.evs 0 false k hk with h | ⟨i, e, h1, h2, h3⟩
                · exact absurd h hkr
                · exact .inr ⟨decide_eq_false hkr, i, e, by rw [h1]; simp, h2, h3⟩
            generalize frc r x.evs 0 false = f at *
            clear hx hr hf hok hXw hYw k0 k1 k2 kE hrow hfrow hfne hrne hbl hbf f0
            go_wp2_with fail
            clear r0 hbb
            go_loopw [64] (fun q w3 => ∃ i : Nat, q = .int .i64 i ∧ i ≤ r.length ∧ Hid (Ex wr w3)) (fun q _ => r.length - (intOf q).toNat)
            case atStart => exact ⟨0, rfl, Nat.zero_le _, Lib.hid (Ex.refl _)⟩
            case round =>
              obtain ⟨i, rfl, hi, HJ⟩ := hrel
              by_cases hil : i < r.length
              · have n0 : (0 : Int) ≤ (i : Int) := by omega
                have n1 : (i : Int) < (r.length : Int) := by omega
                obtain ⟨k, hk⟩ := get_at hil
                obtain ⟨b1, o1, hA7, hb1, hc1⟩ := row_at (HRw.out _ HJ.out) (fun h => by rw [h] at hil; exact absurd hil (Nat.not_lt_zero _))
                subst hA7
                have d0 := hc1 i k hk
                obtain ⟨g1, g2⟩ := HFr.out _ HJ.out
                have HC := Lib.hid (HCf.out k _ HJ.out)
                rw [HOld.out k (List.mem_of_getElem? hk)] at HC
                clear hc1 hk
                go_wp2_with fail
                refine (HC.out).mono ?_
                rintro e9 w5' ⟨rfl, hx5'⟩
                have HX5' := Lib.hid hx5'
                clear hx5' d0 hb1 g1 g2
                go_wp2_with fail
                refine ⟨⟨i + 1, by go_num, by omega, Lib.hid (HJ.out.trans HX5'.out)⟩, by simp [intOf]; omega⟩
              · obtain rfl : i = r.length := by omega
                have s1 : decide ((r.length : Int) < (r.length : Int)) = false := decide_eq_false (by omega)
                obtain ⟨g1, g2⟩ := HFr.out _ HJ.out
                go_wp2_with fail
                clear g1 g2
                go_loopw [81] (fun q w3 => ∃ i : Nat, q = .int .i64 i ∧ i ≤ f.length ∧ Hid (Ex wr w3)) (fun q _ => f.length - (intOf q).toNat)
                case atStart => exact ⟨0, rfl, Nat.zero_le _, Lib.hid (Ex.refl _)⟩
                case round =>
                  obtain ⟨i, rfl, hi, HJ2⟩ := hrel
                  by_cases hil : i < f.length
                  · have n0 : (0 : Int) ≤ (i : Int) := by omega
                    have n1 : (i : Int) < (f.length : Int) := by omega
                    obtain ⟨k, hk⟩ := get_at hil
                    have HJJ := Lib.hid (HJ.out.trans HJ2.out)
                    obtain ⟨b1, o1, hA8, hb1, hc1⟩ := row_at (HFw2.out _ HJJ.out) (fun h => by rw [h] at hil; exact absurd hil (Nat.not_lt_zero _))
                    subst hA8
                    have d0 := hc1 i k hk
                    obtain ⟨g1, g2⟩ := HRr.out _ HJJ.out
                    have HC := Lib.hid (HCr.out k _ HJJ.out)
                    rcases HNew.out k (List.mem_of_getElem? hk) with hkr | ⟨hkr, i2, e, rfl, he, h3⟩
                    · rw [hkr] at HC
                      clear hc1 hk hkr
                      go_wp2_with fail
                      refine (HC.out).mono ?_
                      rintro e9 w5' ⟨rfl, hx5'⟩
                      have HX5' := Lib.hid hx5'
                      clear hx5' d0 hb1 g1 g2
                      go_wp2_with fail
                      refine ⟨⟨i + 1, by go_num, by omega, Lib.hid (HJ2.out.trans HX5'.out)⟩, by simp [intOf]; omega⟩
                    · rw [hkr] at HC
                      have s3 : (e.kind == 3) = true := by simp [h3]
                      have hi2 := (List.getElem?_eq_some_iff.1 he).1
                      have q0 : (0 : Int) ≤ (i2 : Int) := by omega
                      have q1 : (i2 : Int) < (x.evs.length : Int) := by omega
                      have q2 : decide ((x.evs.length : Int) ≤ (i2 : Int)) = false := decide_eq_false (by omega)
                      have HEe := Lib.hid he
                      have H3 := Lib.hid h3
                      clear hc1 hk hkr he h3
                      go_wp2_with fail
                      refine (HC.out).mono ?_
                      rintro e9 w5' ⟨rfl, hx5'⟩
                      have HX5' := Lib.hid hx5'
                      have hxj := HJJ.out.trans hx5'
                      obtain ⟨u1, u2⟩ := HEr.out _ hxj
                      obtain ⟨be, oe, hE, hbe, Bs, bs, e0, -, -, -, -, -⟩ := HXe.out _ hxj i2 e HEe.out
                      subst hE
                      have y0 := (HBx.out _ hxj).cell 0
                      have yl := (HBx.out _ hxj).lt
                      rw [H3.out] at e0
                      clear hx5' d0 hb1 g1 g2 hxj
                      go_wp2_with fail
                      refine ⟨⟨i + 1, by go_num, by omega, Lib.hid (HJ2.out.trans HX5'.out)⟩, by simp [intOf]; omega⟩
                  · obtain rfl : i = f.length := by omega
                    have s1 : decide ((f.length : Int) < (f.length : Int)) = false := decide_eq_false (by omega)
                    go_wp2_with fail
                    refine ⟨⟨p + 1, by go_num, by omega, Lib.hid (HH.out.trans (HJ.out.trans HJ2.out))⟩, by simp [intOf]; omega⟩
          · obtain rfl : p = l.length := by omega
            have s1 : decide ((l.length : Int) < (l.length : Int)) = false := decide_eq_false (by omega)
            have HXr := Lib.hid (HX7.out.trans HH.out)
            have HYr := Lib.hid (HY7.out.trans HH.out)
            have a0 := (HB0.out _ HXr.out).cell 0
            have al := (HB0.out _ HXr.out).lt
            go_wp2_with fail
            refine (HUs.out A5 c5 _ (HX0.out.trans HXr.out) (HL5.out _ HYr.out)).mono ?_
            rintro e9 v1 h1
            obtain ⟨A6, c6, rfl, hx1⟩ : ∃ A c, e9 = .returned (.tuple #[.slice A 0 c, .int .i64 0]) ∧ Ex _ v1 := by
              rcases h1 with ⟨h, -⟩ | ⟨-, A, c, h, -, h'⟩
              · rw [hfv] at h; cases h
              · exact ⟨A, c, h, h'⟩
            have HXs := Lib.hid (HXr.out.trans hx1)
            have HYs := Lib.hid (HYr.out.trans hx1)
            clear h1 hx1 a0 al
            have a0 := (HB0.out _ HXs.out).cell 0
            have al := (HB0.out _ HXs.out).lt
            go_wp2_with fail
            refine (HFa.out A5 c5 _ (HX0.out.trans HXs.out) (HL5.out _ HYs.out)).mono ?_
            rintro e9 v2 h2
            obtain ⟨A7, c7, rfl, hL7, -, hx2⟩ : ∃ A c, e9 = .returned (.tuple #[.slice A l.length c, .int .i64 0]) ∧ LlC v2 A fl ∧ l.length ≤ c ∧ Ex v1 v2 := by
              rcases h2 with ⟨h, -⟩ | ⟨-, h⟩
              · rw [hfv] at h; cases h
              · exact h
            have HXt := Lib.hid (HXs.out.trans hx2)
            have HSm2 := Lib.hid (HSm.out A5 A7 c5 c7 _ (HL5.out _ (HYs.out.trans hx2)) hL7)
            clear h2 hx2 hL7 a0 al
            have hde : decide (fl = fl) = true := decide_eq_true rfl
            go_wp2_with fail
            refine (HSm2.out).mono ?_
            rintro e9 v3 ⟨rfl, hx3⟩
            have HXu := Lib.hid (HXt.out.trans hx3)
            clear hx3
            go_wp2_with fail
            go_ret
            exact Ret.mk (by first | rfl | simp) (HX0.out.trans HXu.out)
end Go.Proofs.YtdenojfbdkdpiaaGreat
