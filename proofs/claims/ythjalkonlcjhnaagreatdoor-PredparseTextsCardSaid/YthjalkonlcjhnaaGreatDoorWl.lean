/-
  PROVED HERE: the reference's parse answers what the plain parser answers. The reference's Parse, walked.
  Conditions: as each theorem says.
-/
import Derived.Test.YthjalkonlcjhnaaGreatDoorWj
import Derived.Test.YthjalkonlcjhnaaGreatDoorPo
import Derived.Test.YthjalkonlcjhnaaGreatDoorQt
import Derived.RegionTactic
import Derived.BigRegion
import Derived.ChangeAlike
namespace Go.Proofs.YthjalkonlcjhnaaGreatDoor
open Go.RowKit
theorem pz_l2 (f : Nat) (ks : List K) : pz (f + 1) 2 none ks = match pick prefs (hd ks) with
    | some k => (pz f 2 none ks.tail).bind fun t r => .ok (nd k [t]) r
    | none => pz f 3 none ks := by
  conv => lhs; unfold pz
  rw [if_pos rfl]
  cases pick prefs (hd ks) <;> rfl
def cmpR (f : Nat) (t : Tr) (r : List K) : PR := match pick cmp1 (hd r) with
  | some k => (pz f 4 none r.tail).bind fun u r' => .ok (nd k [t, u]) r'
  | none => match pick cmp2 (hd r) with
    | some k => (pz f 4 none r.tail).bind fun u r' => .ok (nd k [u, t]) r'
    | none => .ok t r
theorem pz_l3 (f : Nat) (ks : List K) : pz (f + 1) 3 none ks = (pz f 4 none ks).bind (cmpR f) := by
  conv => lhs; unfold pz
  rw [if_neg (by omega), if_pos rfl]
  congr 1
theorem pz_l6 (f : Nat) (ks : List K) : pz (f + 1) 6 none ks = if isT (hd ks) [45] then (pz f 6 none ks.tail).bind fun t r => .ok (nd 5 [t]) r else pz f 7 none ks := by
  conv => lhs; unfold pz
  rw [if_neg (by omega), if_neg (by omega), if_pos rfl]
theorem pz_l7 (f : Nat) (ks : List K) : pz (f + 1) 7 none ks = atomP (fun r => pz f 0 none r) ks := by
  conv => lhs; unfold pz
  rw [if_neg (by omega), if_neg (by omega), if_neg (by omega), if_pos rfl]
theorem pz_lo (f lv : Nat) (ks : List K) (h2 : lv ≠ 2) (h3 : lv ≠ 3) (h6 : lv ≠ 6) (h7 : lv ≠ 7) : pz (f + 1) lv none ks = (pz f (lv + 1) none ks).bind fun t r => pz f lv (some t) r := by
  conv => lhs; unfold pz
  rw [if_neg h2, if_neg h3, if_neg h6, if_neg h7]
theorem cmp_other {x : Wd} (hx : Gw x) (h : x.kind ≠ 3 ∨ (x.text ≠ [61] ∧ x.text ≠ [33, 61] ∧ x.text ≠ [60] ∧ x.text ≠ [60, 61] ∧ x.text ≠ [62] ∧ x.text ≠ [62, 61])) : pick cmp1 (key x) = none ∧ pick cmp2 (key x) = none := by
  have hS : ∀ S : List UInt8, (x.kind ≠ 3 ∨ x.text ≠ S) → isS x S = false := fun S h => by
    unfold isS
    rcases h with h | h
    · rw [decide_eq_false h]; rfl
    · rw [decide_eq_false h]; simp
  have e0 : isT (key x) [61] = false := by
    rw [← is_T hx (show firstL [61] = (3, 1, 0) by decide)]
    refine hS _ ?_
    rcases h with h | h
    · exact .inl h
    · exact .inr h.1
  have e1 : isT (key x) [33, 61] = false := by
    rw [← is_T hx (show firstL [33, 61] = (3, 2, 0) by decide)]
    refine hS _ ?_
    rcases h with h | h
    · exact .inl h
    · exact .inr h.2.1
  have e2 : isT (key x) [60] = false := by
    rw [← is_T hx (show firstL [60] = (3, 1, 0) by decide)]
    refine hS _ ?_
    rcases h with h | h
    · exact .inl h
    · exact .inr h.2.2.1
  have e3 : isT (key x) [60, 61] = false := by
    rw [← is_T hx (show firstL [60, 61] = (3, 2, 0) by decide)]
    refine hS _ ?_
    rcases h with h | h
    · exact .inl h
    · exact .inr h.2.2.2.1
  have e4 : isT (key x) [62] = false := by
    rw [← is_T hx (show firstL [62] = (3, 1, 0) by decide)]
    refine hS _ ?_
    rcases h with h | h
    · exact .inl h
    · exact .inr h.2.2.2.2.1
  have e5 : isT (key x) [62, 61] = false := by
    rw [← is_T hx (show firstL [62, 61] = (3, 2, 0) by decide)]
    refine hS _ ?_
    rcases h with h | h
    · exact .inl h
    · exact .inr h.2.2.2.2.2
  constructor
  · unfold pick cmp1
    simp only [List.find?_cons, List.find?_nil, e0, e1, e2, e3]
    rfl
  · unfold pick cmp2
    simp only [List.find?_cons, List.find?_nil, e4, e5]
    rfl
set_option maxHeartbeats 1600000 in
theorem rparse_c : ∀ (F lv : Nat) (ws : List Wd) (b o c i : Nat) (w : World), lv ≤ 7 → WfW ws → Rw w b o (wdsV ws) → ws.length ≤ 100000 → i < ws.length → 10 * (ws.length - i) + (8 - lv) ≤ F → Calls Tryz.prog 53 #[.slice (some ⟨b, o, none⟩) ws.length c, .int .i64 (i : Nat), .int .i64 (lv : Nat)] w (ParR w ws (pz F lv none (ksAt ws i))) := by
  intro F
  induction F using Nat.strongRecOn with
  | _ F ih =>
    intro lv ws b o c i w hlv hW hrw hlen hi hF
    obtain ⟨f, rfl⟩ : ∃ f, F = f + 1 := ⟨F - 1, by omega⟩
    obtain ⟨x0, hx0⟩ : ∃ x, ws[i]? = some x := ⟨_, List.getElem?_eq_getElem hi⟩
    have g0 := hW.gw hx0
    have ens : ∀ j lv, lv ≤ 7 → 10 * (ws.length - j) + (8 - lv) ≤ f → pz f lv none (ksAt ws j) ≠ .stuck := fun j lv h1 h2 => enough f lv none (ksAt ws j) h1 (fun h => absurd rfl h) (by
      simp only [need, ksAt, List.length_map, List.length_drop]
      omega)
    have at_ : ∀ j lv, j < ws.length → ∀ t r, (pz f lv none (ksAt ws j) = .ok t r ∨ pz f lv none (ksAt ws j) = .bad r) → ∃ j2, j2 < ws.length ∧ r = ksAt ws j2 := fun j lv hj => pz_at hW hj f lv none
    have H : ∀ j lv, lv ≤ 7 → j < ws.length → 10 * (ws.length - j) + (8 - lv) ≤ f → ∀ w', Ex w w' → Calls Tryz.prog 53 #[.slice (some ⟨b, o, none⟩) ws.length c, .int .i64 (j : Nat), .int .i64 (lv : Nat)] w' (ParR w' ws (pz f lv none (ksAt ws j))) := fun j lv h1 h2 h3 w' hx => ih f (by omega) lv ws b o c j w' h1 hW (hrw.exx hx) hlen h2 h3
    have H1 : ∀ j lv, lv ≤ 7 → j + 1 < ws.length → 10 * (ws.length - (j + 1)) + (8 - lv) ≤ f → ∀ w', Ex w w' → Calls Tryz.prog 53 #[.slice (some ⟨b, o, none⟩) ws.length c, .int .i64 ((j : Int) + 1), .int .i64 (lv : Nat)] w' (ParR w' ws (pz f lv none (ksAt ws (j + 1)))) := fun j lv h1 h2 h3 w' hx => by
      have h9 := H (j + 1) lv h1 h2 h3 w' hx
      rw [show (((j + 1 : Nat)) : Int) = (j : Int) + 1 from by omega] at h9
      exact h9
    have more1 : ∀ {j : Nat} {x : Wd}, ws[j]? = some x → x.kind ≠ 4 → j + 1 < ws.length := fun hx hk => by
      obtain ⟨y, hy⟩ := hW.more hx hk
      exact (List.getElem?_eq_some_iff.1 hy).1
    by_cases h2 : lv = 2
    · subst h2
      rw [pz_l2, hd_at hx0, tail_at, pf_pick g0]
      by_cases hk : firK pfK (pfP x0) = 0
      · rw [if_pos hk]
        show Calls Tryz.prog 53 #[.slice (some ⟨b, o, none⟩) ws.length c, .int .i64 (i : Nat), .int .i64 2] w (ParR w ws (pz f 3 none (ksAt ws i)))
        have hI := H i 3 (by omega) hi (by omega)
        cases hX : pz f 3 none (ksAt ws i) with
        | stuck => exact absurd hX (ens i 3 (by omega) (by omega))
        | bad r =>
          rw [hX] at hI
          obtain ⟨j, hj, rfl⟩ := at_ i 3 hi (nd 0 []) r (.inr hX)
          exact (p2_no_bad ws b o c i x0 w j hrw hlen hi hx0 hk (fun w' hx => (hI w' hx).mono fun e w2 h => bad_par hj h)).mono fun e w2 h => ⟨j, hj, rfl, h.1, h.2⟩
        | ok t r =>
          rw [hX] at hI
          obtain ⟨j, hj, rfl⟩ := at_ i 3 hi t r (.inl hX)
          exact (p2_no_ok ws b o c i x0 w j t hrw hlen hi hx0 hk (fun w' hx => (hI w' hx).mono fun e w2 h => tree_par hj h)).mono fun e w2 h => par_tree hj h
      · rw [if_neg hk]
        have hk4 : x0.kind ≠ 4 := fun h4 => by
          have h8 := pf_pick g0
          rw [if_neg hk] at h8
          unfold pick at h8
          cases hf9 : prefs.find? (fun j => isT (key x0) j.1) with
          | none => rw [hf9] at h8; cases h8
          | some js => exact isT_kind (List.find?_some (p := fun (j : List UInt8 × Int) => isT (key x0) j.1) hf9) h4
        have hi1 := more1 hx0 hk4
        show Calls Tryz.prog 53 #[.slice (some ⟨b, o, none⟩) ws.length c, .int .i64 (i : Nat), .int .i64 2] w (ParR w ws ((pz f 2 none (ksAt ws (i + 1))).bind fun t r => .ok (nd (firK pfK (pfP x0)) [t]) r))
        have hI := H1 i 2 (by omega) hi1 (by omega)
        cases hX : pz f 2 none (ksAt ws (i + 1)) with
        | stuck => exact absurd hX (ens (i + 1) 2 (by omega) (by omega))
        | bad r =>
          rw [hX] at hI
          obtain ⟨j, hj, rfl⟩ := at_ (i + 1) 2 hi1 (nd 0 []) r (.inr hX)
          exact (p2_yes_bad ws b o c i x0 w j _ hrw hlen hi hx0 rfl hk (fun w' hx => (hI w' hx).mono fun e w2 h => bad_par hj h)).mono fun e w2 h => ⟨j, hj, rfl, h.1, h.2⟩
        | ok t r =>
          rw [hX] at hI
          obtain ⟨j, hj, rfl⟩ := at_ (i + 1) 2 hi1 t r (.inl hX)
          exact (p2_yes_ok ws b o c i x0 w j t _ hrw hlen hi hx0 rfl hk (fun w' hx => (hI w' hx).mono fun e w2 h => tree_par hj h)).mono fun e w2 h => par_tree hj h
    by_cases h6 : lv = 6
    · subst h6
      rw [pz_l6, hd_at hx0, tail_at, ← is_T g0 (show firstL [45] = (3, 1, 0) by decide)]
      cases hk : isS x0 [45] with
      | false =>
        rw [if_neg (by simp)]
        show Calls Tryz.prog 53 #[.slice (some ⟨b, o, none⟩) ws.length c, .int .i64 (i : Nat), .int .i64 6] w (ParR w ws (pz f 7 none (ksAt ws i)))
        have hI := H i 7 (by omega) hi (by omega)
        cases hX : pz f 7 none (ksAt ws i) with
        | stuck => exact absurd hX (ens i 7 (by omega) (by omega))
        | bad r =>
          rw [hX] at hI
          obtain ⟨j, hj, rfl⟩ := at_ i 7 hi (nd 0 []) r (.inr hX)
          exact (p6_no_bad ws b o c i x0 w j hrw hlen hi hx0 hk (fun w' hx => (hI w' hx).mono fun e w2 h => bad_par hj h)).mono fun e w2 h => ⟨j, hj, rfl, h.1, h.2⟩
        | ok t r =>
          rw [hX] at hI
          obtain ⟨j, hj, rfl⟩ := at_ i 7 hi t r (.inl hX)
          exact (p6_no_ok ws b o c i x0 w j t hrw hlen hi hx0 hk (fun w' hx => (hI w' hx).mono fun e w2 h => tree_par hj h)).mono fun e w2 h => par_tree hj h
      | true =>
        rw [if_pos rfl]
        have hi1 := more1 hx0 (isS_k hk)
        show Calls Tryz.prog 53 #[.slice (some ⟨b, o, none⟩) ws.length c, .int .i64 (i : Nat), .int .i64 6] w (ParR w ws ((pz f 6 none (ksAt ws (i + 1))).bind fun t r => .ok (nd 5 [t]) r))
        have hI := H1 i 6 (by omega) hi1 (by omega)
        cases hX : pz f 6 none (ksAt ws (i + 1)) with
        | stuck => exact absurd hX (ens (i + 1) 6 (by omega) (by omega))
        | bad r =>
          rw [hX] at hI
          obtain ⟨j, hj, rfl⟩ := at_ (i + 1) 6 hi1 (nd 0 []) r (.inr hX)
          exact (p6_yes_bad ws b o c i x0 w j hrw hlen hi hx0 hk (fun w' hx => (hI w' hx).mono fun e w2 h => bad_par hj h)).mono fun e w2 h => ⟨j, hj, rfl, h.1, h.2⟩
        | ok t r =>
          rw [hX] at hI
          obtain ⟨j, hj, rfl⟩ := at_ (i + 1) 6 hi1 t r (.inl hX)
          exact (p6_yes_ok ws b o c i x0 w j t hrw hlen hi hx0 hk (fun w' hx => (hI w' hx).mono fun e w2 h => tree_par hj h)).mono fun e w2 h => par_tree hj h
    by_cases h7 : lv = 7
    · subst h7
      rw [pz_l7]
      have hA := fun w' (hx : Ex w w') => atom_cc ws b o c i x0 w' (fun r => pz f 0 none r) hW (hrw.exx hx) hlen hx0 (fun h => at_ (i + 1) 0 h) (fun h => ens (i + 1) 0 (by omega) (by omega)) (fun h w2 hx2 => H1 i 0 (by omega) h (by omega) w2 (hx.trans hx2))
      show Calls Tryz.prog 53 #[.slice (some ⟨b, o, none⟩) ws.length c, .int .i64 (i : Nat), .int .i64 7] w (ParR w ws (atomP (fun r => pz f 0 none r) (ksAt ws i)))
      have hat7 : ∀ t r, (atomP (fun r => pz f 0 none r) (ksAt ws i) = .ok t r ∨ atomP (fun r => pz f 0 none r) (ksAt ws i) = .bad r) → ∃ j2, j2 < ws.length ∧ r = ksAt ws j2 := by
        have h9 := pz_at hW hi (f + 1) 7 none
        rw [pz_l7] at h9
        exact h9
      have hens7 : atomP (fun r => pz f 0 none r) (ksAt ws i) ≠ .stuck := by
        have h9 := enough (f + 1) 7 none (ksAt ws i) (by omega) (fun h => absurd rfl h) (by
          simp only [need, ksAt, List.length_map, List.length_drop]
          omega)
        rw [pz_l7] at h9
        exact h9
      cases hX : atomP (fun r => pz f 0 none r) (ksAt ws i) with
      | stuck => exact absurd hX hens7
      | bad r =>
        rw [hX] at hA
        obtain ⟨j, hj, rfl⟩ := hat7 (nd 0 []) r (.inr hX)
        exact (p7_bad ws b o c i w j hrw hlen hi (fun w' hx => (hA w' hx).mono fun e w2 h => bad_par hj h)).mono fun e w2 h => ⟨j, hj, rfl, h.1, h.2⟩
      | ok t r =>
        rw [hX] at hA
        obtain ⟨j, hj, rfl⟩ := hat7 t r (.inl hX)
        exact (p7_ok ws b o c i w j t hrw hlen hi (fun w' hx => (hA w' hx).mono fun e w2 h => tree_par hj h)).mono fun e w2 h => par_tree hj h
    by_cases h3 : lv = 3
    · subst h3
      rw [pz_l3]
      show Calls Tryz.prog 53 #[.slice (some ⟨b, o, none⟩) ws.length c, .int .i64 (i : Nat), .int .i64 3] w (ParR w ws ((pz f 4 none (ksAt ws i)).bind (cmpR f)))
      have hI := H i 4 (by omega) hi (by omega)
      cases hX : pz f 4 none (ksAt ws i) with
      | stuck => exact absurd hX (ens i 4 (by omega) (by omega))
      | bad r =>
        rw [hX] at hI
        obtain ⟨j, hj, rfl⟩ := at_ i 4 hi (nd 0 []) r (.inr hX)
        exact (p3_bad ws b o c i w j hrw hlen hi (fun w' hx => (hI w' hx).mono fun e w2 h => bad_par hj h)).mono fun e w2 h => ⟨j, hj, rfl, h.1, h.2⟩
      | ok t r =>
        rw [hX] at hI
        have hfin := fine f 4 (ksAt ws i)
        rw [hX] at hfin
        obtain ⟨j, hj, rfl⟩ := at_ i 4 hi t r (.inl hX)
        have hij : i < j := by
          have h9 := hfin.2
          simp [ksAt] at h9
          omega
        have hI' := fun w' (hx : Ex w w') => (hI w' hx).mono fun e w2 h => tree_par hj h
        obtain ⟨xj, hxj⟩ : ∃ x, ws[j]? = some x := ⟨_, List.getElem?_eq_getElem hj⟩
        have gj := hW.gw hxj
        show Calls Tryz.prog 53 #[.slice (some ⟨b, o, none⟩) ws.length c, .int .i64 (i : Nat), .int .i64 3] w (ParR w ws (cmpR f t (ksAt ws j)))
        unfold cmpR
        rw [hd_at hxj, tail_at]
        by_cases hk3 : xj.kind = 3
        · have hj1 := more1 hxj (by omega)
          have hJ := H1 j 4 (by omega) hj1 (by omega)
          have ensj := ens (j + 1) 4 (by omega) (by omega)
          have atj := at_ (j + 1) 4 hj1
          by_cases v0 : xj.text = [61]
          · have hkey : key xj = (3, [61]) := by unfold key; rw [hk3, v0]
            rw [hkey, show pick cmp1 (3, [61]) = some 9 from rfl]
            show Calls Tryz.prog 53 #[.slice (some ⟨b, o, none⟩) ws.length c, .int .i64 (i : Nat), .int .i64 3] w (ParR w ws ((pz f 4 none (ksAt ws (j + 1))).bind fun u r' => .ok (nd 9 [t, u]) r'))
            cases hY : pz f 4 none (ksAt ws (j + 1)) with
            | stuck => exact absurd hY ensj
            | bad r2 =>
              rw [hY] at hJ
              obtain ⟨j2, hj2, rfl⟩ := atj (nd 0 []) r2 (.inr hY)
              exact (p3_op0_bad ws b o c i xj w j j2 t hrw hlen hi hxj hI' hk3 v0 (fun w' hx => (hJ w' hx).mono fun e w2 h => bad_par hj2 h)).mono fun e w2 h => ⟨j2, hj2, rfl, h.1, h.2⟩
            | ok u r2 =>
              rw [hY] at hJ
              obtain ⟨j2, hj2, rfl⟩ := atj u r2 (.inl hY)
              exact (p3_op0_ok ws b o c i xj w j j2 t u hrw hlen hi hxj hI' hk3 v0 (fun w' hx => (hJ w' hx).mono fun e w2 h => tree_par hj2 h)).mono fun e w2 h => par_tree hj2 h
          by_cases v1 : xj.text = [33, 61]
          · have hkey : key xj = (3, [33, 61]) := by unfold key; rw [hk3, v1]
            rw [hkey, show pick cmp1 (3, [33, 61]) = some 10 from rfl]
            show Calls Tryz.prog 53 #[.slice (some ⟨b, o, none⟩) ws.length c, .int .i64 (i : Nat), .int .i64 3] w (ParR w ws ((pz f 4 none (ksAt ws (j + 1))).bind fun u r' => .ok (nd 10 [t, u]) r'))
            cases hY : pz f 4 none (ksAt ws (j + 1)) with
            | stuck => exact absurd hY ensj
            | bad r2 =>
              rw [hY] at hJ
              obtain ⟨j2, hj2, rfl⟩ := atj (nd 0 []) r2 (.inr hY)
              exact (p3_op1_bad ws b o c i xj w j j2 t hrw hlen hi hxj hI' hk3 v1 (fun w' hx => (hJ w' hx).mono fun e w2 h => bad_par hj2 h)).mono fun e w2 h => ⟨j2, hj2, rfl, h.1, h.2⟩
            | ok u r2 =>
              rw [hY] at hJ
              obtain ⟨j2, hj2, rfl⟩ := atj u r2 (.inl hY)
              exact (p3_op1_ok ws b o c i xj w j j2 t u hrw hlen hi hxj hI' hk3 v1 (fun w' hx => (hJ w' hx).mono fun e w2 h => tree_par hj2 h)).mono fun e w2 h => par_tree hj2 h
          by_cases v2 : xj.text = [60]
          · have hkey : key xj = (3, [60]) := by unfold key; rw [hk3, v2]
            rw [hkey, show pick cmp1 (3, [60]) = some 11 from rfl]
            show Calls Tryz.prog 53 #[.slice (some ⟨b, o, none⟩) ws.length c, .int .i64 (i : Nat), .int .i64 3] w (ParR w ws ((pz f 4 none (ksAt ws (j + 1))).bind fun u r' => .ok (nd 11 [t, u]) r'))
            cases hY : pz f 4 none (ksAt ws (j + 1)) with
            | stuck => exact absurd hY ensj
            | bad r2 =>
              rw [hY] at hJ
              obtain ⟨j2, hj2, rfl⟩ := atj (nd 0 []) r2 (.inr hY)
              exact (p3_op2_bad ws b o c i xj w j j2 t hrw hlen hi hxj hI' hk3 v2 (fun w' hx => (hJ w' hx).mono fun e w2 h => bad_par hj2 h)).mono fun e w2 h => ⟨j2, hj2, rfl, h.1, h.2⟩
            | ok u r2 =>
              rw [hY] at hJ
              obtain ⟨j2, hj2, rfl⟩ := atj u r2 (.inl hY)
              exact (p3_op2_ok ws b o c i xj w j j2 t u hrw hlen hi hxj hI' hk3 v2 (fun w' hx => (hJ w' hx).mono fun e w2 h => tree_par hj2 h)).mono fun e w2 h => par_tree hj2 h
          by_cases v3 : xj.text = [60, 61]
          · have hkey : key xj = (3, [60, 61]) := by unfold key; rw [hk3, v3]
            rw [hkey, show pick cmp1 (3, [60, 61]) = some 12 from rfl]
            show Calls Tryz.prog 53 #[.slice (some ⟨b, o, none⟩) ws.length c, .int .i64 (i : Nat), .int .i64 3] w (ParR w ws ((pz f 4 none (ksAt ws (j + 1))).bind fun u r' => .ok (nd 12 [t, u]) r'))
            cases hY : pz f 4 none (ksAt ws (j + 1)) with
            | stuck => exact absurd hY ensj
            | bad r2 =>
              rw [hY] at hJ
              obtain ⟨j2, hj2, rfl⟩ := atj (nd 0 []) r2 (.inr hY)
              exact (p3_op3_bad ws b o c i xj w j j2 t hrw hlen hi hxj hI' hk3 v3 (fun w' hx => (hJ w' hx).mono fun e w2 h => bad_par hj2 h)).mono fun e w2 h => ⟨j2, hj2, rfl, h.1, h.2⟩
            | ok u r2 =>
              rw [hY] at hJ
              obtain ⟨j2, hj2, rfl⟩ := atj u r2 (.inl hY)
              exact (p3_op3_ok ws b o c i xj w j j2 t u hrw hlen hi hxj hI' hk3 v3 (fun w' hx => (hJ w' hx).mono fun e w2 h => tree_par hj2 h)).mono fun e w2 h => par_tree hj2 h
          by_cases v4 : xj.text = [62]
          · have hkey : key xj = (3, [62]) := by unfold key; rw [hk3, v4]
            rw [hkey, show pick cmp1 (3, [62]) = none from rfl, show pick cmp2 (3, [62]) = some 11 from rfl]
            show Calls Tryz.prog 53 #[.slice (some ⟨b, o, none⟩) ws.length c, .int .i64 (i : Nat), .int .i64 3] w (ParR w ws ((pz f 4 none (ksAt ws (j + 1))).bind fun u r' => .ok (nd 11 [u, t]) r'))
            cases hY : pz f 4 none (ksAt ws (j + 1)) with
            | stuck => exact absurd hY ensj
            | bad r2 =>
              rw [hY] at hJ
              obtain ⟨j2, hj2, rfl⟩ := atj (nd 0 []) r2 (.inr hY)
              exact (p3_op4_bad ws b o c i xj w j j2 t hrw hlen hi hxj hI' hk3 v4 (fun w' hx => (hJ w' hx).mono fun e w2 h => bad_par hj2 h)).mono fun e w2 h => ⟨j2, hj2, rfl, h.1, h.2⟩
            | ok u r2 =>
              rw [hY] at hJ
              obtain ⟨j2, hj2, rfl⟩ := atj u r2 (.inl hY)
              exact (p3_op4_ok ws b o c i xj w j j2 t u hrw hlen hi hxj hI' hk3 v4 (fun w' hx => (hJ w' hx).mono fun e w2 h => tree_par hj2 h)).mono fun e w2 h => par_tree hj2 h
          by_cases v5 : xj.text = [62, 61]
          · have hkey : key xj = (3, [62, 61]) := by unfold key; rw [hk3, v5]
            rw [hkey, show pick cmp1 (3, [62, 61]) = none from rfl, show pick cmp2 (3, [62, 61]) = some 12 from rfl]
            show Calls Tryz.prog 53 #[.slice (some ⟨b, o, none⟩) ws.length c, .int .i64 (i : Nat), .int .i64 3] w (ParR w ws ((pz f 4 none (ksAt ws (j + 1))).bind fun u r' => .ok (nd 12 [u, t]) r'))
            cases hY : pz f 4 none (ksAt ws (j + 1)) with
            | stuck => exact absurd hY ensj
            | bad r2 =>
              rw [hY] at hJ
              obtain ⟨j2, hj2, rfl⟩ := atj (nd 0 []) r2 (.inr hY)
              exact (p3_op5_bad ws b o c i xj w j j2 t hrw hlen hi hxj hI' hk3 v5 (fun w' hx => (hJ w' hx).mono fun e w2 h => bad_par hj2 h)).mono fun e w2 h => ⟨j2, hj2, rfl, h.1, h.2⟩
            | ok u r2 =>
              rw [hY] at hJ
              obtain ⟨j2, hj2, rfl⟩ := atj u r2 (.inl hY)
              exact (p3_op5_ok ws b o c i xj w j j2 t u hrw hlen hi hxj hI' hk3 v5 (fun w' hx => (hJ w' hx).mono fun e w2 h => tree_par hj2 h)).mono fun e w2 h => par_tree hj2 h
          have hno := cmp_other gj (.inr ⟨v0, v1, v2, v3, v4, v5⟩)
          rw [hno.1, hno.2]
          exact (p3_stop_t ws b o c i xj w j t hrw hlen hi hxj hI' hk3 v0 v1 v2 v3 v4 v5).mono fun e w2 h => par_tree hj h
        · have hno := cmp_other gj (.inl hk3)
          rw [hno.1, hno.2]
          exact (p3_stop_k ws b o c i xj w j t hrw hlen hi hxj hI' hk3).mono fun e w2 h => par_tree hj h
    have hl4 : lv = 0 ∨ lv = 1 ∨ lv = 4 ∨ lv = 5 := by omega
    rw [pz_lo f lv _ h2 h3 h6 h7]
    have hI := H i (lv + 1) (by omega) hi (by omega)
    have e1 : (((lv + 1 : Nat)) : Int) = (lv : Int) + 1 := by omega
    rw [e1] at hI
    cases hX : pz f (lv + 1) none (ksAt ws i) with
    | stuck => exact absurd hX (ens i (lv + 1) (by omega) (by omega))
    | bad r =>
      rw [hX] at hI
      obtain ⟨j, hj, rfl⟩ := at_ i (lv + 1) hi (nd 0 []) r (.inr hX)
      exact (pc_bad ws b o c i w j lv hrw hlen hi h2 h3 h6 (by omega) (fun w' hx => (hI w' hx).mono fun e w2 h => bad_par hj h)).mono fun e w2 h => ⟨j, hj, rfl, h.1, h.2⟩
    | ok t r =>
      rw [hX] at hI
      have hfin := fine f (lv + 1) (ksAt ws i)
      rw [hX] at hfin
      obtain ⟨j, hj, rfl⟩ := at_ i (lv + 1) hi t r (.inl hX)
      have hij : i < j := by
        have h9 := hfin.2
        simp [ksAt] at h9
        omega
      refine pc_ok ws b o c i w j lv t hrw hlen hi h2 h3 h6 (by omega) hl4 hW (fun w' hx => (hI w' hx).mono fun e w2 h => tree_par hj h) hj _ (f + 1) f rfl (by omega) (by omega) (fun f' hf' j2 hj2 hb w' hx => ?_)
      have h9 := ih f' hf' (lv + 1) ws b o c (j2 + 1) w' (by omega) hW (hrw.exx hx) hlen hj2 hb
      rw [e1, show (((j2 + 1 : Nat)) : Int) = (j2 : Int) + 1 from by omega] at h9
      exact h9
set_option maxRecDepth 100000 in
set_option maxHeartbeats 6400000 in
theorem rparse_lex (s : ByteArray) (w : World) (p : Nat × Nat) (n : Nat) (hn : n ≠ 0) (H0 : ∀ w', Ex w w' → Calls Tryz.prog 52 #[.string s] w' (WordsR w' (.bad p n))) :
    Calls Tryz.prog 25 #[.string s] w (ParseR w (.err p n)) := by
  unfold ParseR
  have HS0 : Hid (Ex w ((w.alloc (.cells #[.int .i64 0, .int .i64 0, .int .i64 0, .int .i64 0, .string ⟨#[]⟩, .slice none 0 0] 24)).alloc (.cells #[.int .i64 0, .int .i64 0] 39)) ∧ Zero6 ((w.alloc (.cells #[.int .i64 0, .int .i64 0, .int .i64 0, .int .i64 0, .string ⟨#[]⟩, .slice none 0 0] 24)).alloc (.cells #[.int .i64 0, .int .i64 0] 39)) w.heap.size ∧ Blk ((w.alloc (.cells #[.int .i64 0, .int .i64 0, .int .i64 0, .int .i64 0, .string ⟨#[]⟩, .slice none 0 0] 24)).alloc (.cells #[.int .i64 0, .int .i64 0] 39)) (w.heap.size + 1) 39 [.int .i64 0, .int .i64 0]) := ⟨((Ex.refl w).alloc _).alloc _, (Blk.new w _ _).alloc _, Blk.new' _ (by simp) _ _⟩
  have H := Lib.hid H0
  unfold WordsR at H
  dsimp only at H ⊢
  obtain ⟨p1, p2⟩ := p
  dsimp only at H ⊢
  have e1 : (((n : Nat) : Int) != 0) = true := by rw [bne_iff_ne]; omega
  have e2 : (((n : Nat) : Int) == 0) = false := beq_eq_false_iff_ne.2 (by omega)
  have e3 : (n != 0) = true := by rw [bne_iff_ne]; exact hn
  have e4 : (n == 0) = false := beq_eq_false_iff_ne.2 hn
  have HNE : Hid (w.heap.size ≠ w.heap.size + 1) := by unfold Hid; omega
  have HLE : Hid (w.heap.size ≤ w.heap.size + 1) := by unfold Hid; omega
  clear H0 hn
  go_enter Tryz.func25, Tryz.ntmps25
  go_wp2_with fail
  generalize w.heap.size + 1 = nb at *
  have hne1 : nb ≠ w.heap.size := Ne.symm HNE.out
  have hne2 : w.heap.size ≠ nb := HNE.out
  refine (H.out _ HS0.out.1).mono ?_
  rintro e W1 ⟨rfl, hz⟩
  have HS1 : Hid (Ex w W1 ∧ Zero6 W1 w.heap.size ∧ Blk W1 nb 39 [.int .i64 0, .int .i64 0]) := ⟨HS0.out.1.trans hz, HS0.out.2.1.ex hz, HS0.out.2.2.ex hz⟩
  clear hz
  have lz := (HS1.out.2.1).lt
  have r0 := (HS1.out.2.1).cell 0
  have f0 := (HS1.out.2.1).frozen 0
  have r1 := (HS1.out.2.1).cell 1
  have f1 := (HS1.out.2.1).frozen 1
  have r2 := (HS1.out.2.1).cell 2
  have f2 := (HS1.out.2.1).frozen 2
  have r3 := (HS1.out.2.1).cell 3
  have f3 := (HS1.out.2.1).frozen 3
  have r4 := (HS1.out.2.1).cell 4
  have f4 := (HS1.out.2.1).frozen 4
  have r5 := (HS1.out.2.1).cell 5
  have f5 := (HS1.out.2.1).frozen 5
  simp only [List.getElem?_cons_zero, List.getElem?_cons_succ] at r0 r1 r2 r3 r4 r5
  have lq := (HS1.out.2.2).lt
  have q0 := (HS1.out.2.2).cell 0
  have q1 := (HS1.out.2.2).cell 1
  have g0 := (HS1.out.2.2).frozen 0
  have g1 := (HS1.out.2.2).frozen 1
  simp only [List.getElem?_cons_zero, List.getElem?_cons_succ] at q0 q1
  go_wp2_with fail
  go_region
  all_goals go_wp2_with fail
  all_goals
    have hb1 := (((blk8 HS1.out.2.1 HNE.out (.int .i64 0) (.int .i64 0) (.int .i64 0) (.int .i64 0) (.string ⟨#[]⟩) (.slice none 0 0) (.int .i64 (p1 : Nat)) (.int .i64 (p2 : Nat))).alloc (.cells #[.int .i64 (p1 : Nat), .int .i64 (p2 : Nat)] 39)).drew)
    have hb2 := (((blk8p HS1.out.2.2 (Ne.symm HNE.out) (.int .i64 0) (.int .i64 0) (.int .i64 0) (.int .i64 0) (.string ⟨#[]⟩) (.slice none 0 0) (.int .i64 (p1 : Nat)) (.int .i64 (p2 : Nat))).alloc (.cells #[.int .i64 (p1 : Nat), .int .i64 (p2 : Nat)] 39)).drew)
    have HE := Lib.hid ((((ex8 HS1.out.1 (Nat.le_refl _) HLE.out (.int .i64 0) (.int .i64 0) (.int .i64 0) (.int .i64 0) (.string ⟨#[]⟩) (.slice none 0 0) (.int .i64 (p1 : Nat)) (.int .i64 (p2 : Nat))).alloc (.cells #[.int .i64 (p1 : Nat), .int .i64 (p2 : Nat)] 39)).drew))
    refine bodyPost_ret (results_parse rfl rfl rfl rfl hb1 hb2) rfl ?_
    exact ⟨rfl, HE.out⟩
set_option maxRecDepth 100000 in
set_option maxHeartbeats 6400000 in
theorem rparse_bad4 (s : ByteArray) (w : World) (ws : List Wd) (j : Nat) (xj : Wd) (hWf : WfW ws) (hxj : ws[j]? = some xj) (hlen : ws.length ≤ 100000) (H0 : ∀ w', Ex w w' → Calls Tryz.prog 52 #[.string s] w' (WordsR w' (.ok ws))) (HP0 : ∀ W b cc, Rw W b 0 (wdsV ws) → Calls Tryz.prog 53 #[.slice (some ⟨b, 0, none⟩) ws.length cc, .int .i64 0, .int .i64 0] W (Ret W (triV 0 0 ⟨#[]⟩ j false))) (hk : xj.kind = 4) :
    Calls Tryz.prog 25 #[.string s] w (ParseR w (.err xj.pos 4)) := by
  unfold ParseR
  have HS0 : Hid (Ex w ((w.alloc (.cells #[.int .i64 0, .int .i64 0, .int .i64 0, .int .i64 0, .string ⟨#[]⟩, .slice none 0 0] 24)).alloc (.cells #[.int .i64 0, .int .i64 0] 39)) ∧ Zero6 ((w.alloc (.cells #[.int .i64 0, .int .i64 0, .int .i64 0, .int .i64 0, .string ⟨#[]⟩, .slice none 0 0] 24)).alloc (.cells #[.int .i64 0, .int .i64 0] 39)) w.heap.size ∧ Blk ((w.alloc (.cells #[.int .i64 0, .int .i64 0, .int .i64 0, .int .i64 0, .string ⟨#[]⟩, .slice none 0 0] 24)).alloc (.cells #[.int .i64 0, .int .i64 0] 39)) (w.heap.size + 1) 39 [.int .i64 0, .int .i64 0]) := ⟨((Ex.refl w).alloc _).alloc _, (Blk.new w _ _).alloc _, Blk.new' _ (by simp) _ _⟩
  have H := Lib.hid H0
  have HP := Lib.hid HP0
  unfold WordsR at H
  unfold triV at HP
  dsimp only at H ⊢
  have HNw : Hid (ws ≠ []) := by obtain ⟨x, r, rfl⟩ := hWf.cons; exact List.cons_ne_nil _ _
  have hjl := (List.getElem?_eq_some_iff.1 hxj).1
  have mj : (j : Int) < (ws.length : Int) := by omega
  have mj0 : (0 : Int) ≤ (j : Int) := by omega
  have mw : (ws.length : Int) ≤ 100000 := by omega
  have HXj := Lib.hid hxj
  have HNE : Hid (w.heap.size ≠ w.heap.size + 1) := by unfold Hid; omega
  have HLE : Hid (w.heap.size ≤ w.heap.size + 1) := by unfold Hid; omega
  obtain ⟨kj, Tj, pj1, pj2⟩ := xj
  clear H0 HP0 hWf hjl hxj hlen
  dsimp only at hk ⊢
  have d1 : (((kj : Nat) : Int) == 4) = true := by rw [beq_iff_eq]; omega
  have d2 : (kj == 4) = true := by rw [beq_iff_eq]; exact hk
  have d3 : (((kj : Nat) : Int) != 4) = false := by unfold bne; rw [d1]; rfl
  have d4 : (kj != 4) = false := by unfold bne; rw [d2]; rfl
  clear hk
  go_enter Tryz.func25, Tryz.ntmps25
  go_wp2_with fail
  generalize w.heap.size + 1 = nb at *
  have hne1 : nb ≠ w.heap.size := Ne.symm HNE.out
  have hne2 : w.heap.size ≠ nb := HNE.out
  refine (H.out _ HS0.out.1).mono ?_
  rintro e W1 ⟨v, rfl, hown, hz⟩
  obtain ⟨b, cc, rfl, hbb, -, hrw⟩ := own_state hown HNw.out
  have hb4 := HS0.out.2.1.lt
  have hb5 := HS0.out.2.2.lt
  have hb0 : b ≠ w.heap.size := by omega
  have hb1 : b ≠ nb := by omega
  have hb2 : w.heap.size ≠ b := Ne.symm hb0
  have hb3 : nb ≠ b := Ne.symm hb1
  clear hbb hb4 hb5
  have HS1 : Hid (Ex w W1 ∧ Zero6 W1 w.heap.size ∧ Blk W1 nb 39 [.int .i64 0, .int .i64 0]) := ⟨HS0.out.1.trans hz, HS0.out.2.1.ex hz, HS0.out.2.2.ex hz⟩
  have HW := Lib.hid hrw
  have lb1 := hrw.1
  clear hz hown hrw
  go_wp2_with fail
  refine (HP.out _ _ _ (HW.out.exx ((Ex.refl _).alloc _))).mono ?_
  rintro e W2 ⟨rfl, hz⟩
  have HS2 : Hid (Ex w W2 ∧ Zero6 W2 w.heap.size ∧ Blk W2 nb 39 [.int .i64 0, .int .i64 0]) := ⟨(HS1.out.1.alloc _).trans hz, (HS1.out.2.1.alloc _).ex hz, (HS1.out.2.2.alloc _).ex hz⟩
  have HW2 := Lib.hid ((HW.out.exx ((Ex.refl _).alloc (.cells #[.int .i64 0, .int .i64 0] 39))).exx hz)
  clear hz lb1
  have lz := (HS2.out.2.1).lt
  have r0 := (HS2.out.2.1).cell 0
  have f0 := (HS2.out.2.1).frozen 0
  have r1 := (HS2.out.2.1).cell 1
  have f1 := (HS2.out.2.1).frozen 1
  have r2 := (HS2.out.2.1).cell 2
  have f2 := (HS2.out.2.1).frozen 2
  have r3 := (HS2.out.2.1).cell 3
  have f3 := (HS2.out.2.1).frozen 3
  have r4 := (HS2.out.2.1).cell 4
  have f4 := (HS2.out.2.1).frozen 4
  have r5 := (HS2.out.2.1).cell 5
  have f5 := (HS2.out.2.1).frozen 5
  simp only [List.getElem?_cons_zero, List.getElem?_cons_succ] at r0 r1 r2 r3 r4 r5
  have lq := (HS2.out.2.2).lt
  have q0 := (HS2.out.2.2).cell 0
  have q1 := (HS2.out.2.2).cell 1
  have g0 := (HS2.out.2.2).frozen 0
  have g1 := (HS2.out.2.2).frozen 1
  simp only [List.getElem?_cons_zero, List.getElem?_cons_succ] at q0 q1
  obtain ⟨lb, c0, c1, c2, c3⟩ := word_cells (HW2.out) HXj.out
  simp only [Nat.zero_add] at c0 c1 c2 c3
  go_wp2_with fail
  go_region
  all_goals go_wp2_with fail
  all_goals
    have hb1 := (((blk8 HS2.out.2.1 HNE.out (.int .i64 0) (.int .i64 0) (.int .i64 0) (.int .i64 0) (.string ⟨#[]⟩) (.slice none 0 0) (.int .i64 (pj1 : Nat)) (.int .i64 (pj2 : Nat))).alloc (.cells #[.int .i64 0, .int .i64 0, .int .i64 0, .int .i64 0, .string ⟨#[]⟩, .slice none 0 0] 24)).drew)
    have hb2 := (((blk8p HS2.out.2.2 (Ne.symm HNE.out) (.int .i64 0) (.int .i64 0) (.int .i64 0) (.int .i64 0) (.string ⟨#[]⟩) (.slice none 0 0) (.int .i64 (pj1 : Nat)) (.int .i64 (pj2 : Nat))).alloc (.cells #[.int .i64 0, .int .i64 0, .int .i64 0, .int .i64 0, .string ⟨#[]⟩, .slice none 0 0] 24)).drew)
    have HE := Lib.hid ((((ex8 HS2.out.1 (Nat.le_refl _) HLE.out (.int .i64 0) (.int .i64 0) (.int .i64 0) (.int .i64 0) (.string ⟨#[]⟩) (.slice none 0 0) (.int .i64 (pj1 : Nat)) (.int .i64 (pj2 : Nat))).alloc (.cells #[.int .i64 0, .int .i64 0, .int .i64 0, .int .i64 0, .string ⟨#[]⟩, .slice none 0 0] 24)).drew))
    refine bodyPost_ret (results_parse rfl rfl rfl rfl hb1 hb2) rfl ?_
    exact ⟨rfl, HE.out⟩
set_option maxRecDepth 100000 in
set_option maxHeartbeats 6400000 in
theorem rparse_bad3 (s : ByteArray) (w : World) (ws : List Wd) (j : Nat) (xj : Wd) (hWf : WfW ws) (hxj : ws[j]? = some xj) (hlen : ws.length ≤ 100000) (H0 : ∀ w', Ex w w' → Calls Tryz.prog 52 #[.string s] w' (WordsR w' (.ok ws))) (HP0 : ∀ W b cc, Rw W b 0 (wdsV ws) → Calls Tryz.prog 53 #[.slice (some ⟨b, 0, none⟩) ws.length cc, .int .i64 0, .int .i64 0] W (Ret W (triV 0 0 ⟨#[]⟩ j false))) (hk : xj.kind ≠ 4) :
    Calls Tryz.prog 25 #[.string s] w (ParseR w (.err xj.pos 3)) := by
  unfold ParseR
  have HS0 : Hid (Ex w ((w.alloc (.cells #[.int .i64 0, .int .i64 0, .int .i64 0, .int .i64 0, .string ⟨#[]⟩, .slice none 0 0] 24)).alloc (.cells #[.int .i64 0, .int .i64 0] 39)) ∧ Zero6 ((w.alloc (.cells #[.int .i64 0, .int .i64 0, .int .i64 0, .int .i64 0, .string ⟨#[]⟩, .slice none 0 0] 24)).alloc (.cells #[.int .i64 0, .int .i64 0] 39)) w.heap.size ∧ Blk ((w.alloc (.cells #[.int .i64 0, .int .i64 0, .int .i64 0, .int .i64 0, .string ⟨#[]⟩, .slice none 0 0] 24)).alloc (.cells #[.int .i64 0, .int .i64 0] 39)) (w.heap.size + 1) 39 [.int .i64 0, .int .i64 0]) := ⟨((Ex.refl w).alloc _).alloc _, (Blk.new w _ _).alloc _, Blk.new' _ (by simp) _ _⟩
  have H := Lib.hid H0
  have HP := Lib.hid HP0
  unfold WordsR at H
  unfold triV at HP
  dsimp only at H ⊢
  have HNw : Hid (ws ≠ []) := by obtain ⟨x, r, rfl⟩ := hWf.cons; exact List.cons_ne_nil _ _
  have hjl := (List.getElem?_eq_some_iff.1 hxj).1
  have mj : (j : Int) < (ws.length : Int) := by omega
  have mj0 : (0 : Int) ≤ (j : Int) := by omega
  have mw : (ws.length : Int) ≤ 100000 := by omega
  have HXj := Lib.hid hxj
  have HNE : Hid (w.heap.size ≠ w.heap.size + 1) := by unfold Hid; omega
  have HLE : Hid (w.heap.size ≤ w.heap.size + 1) := by unfold Hid; omega
  obtain ⟨kj, Tj, pj1, pj2⟩ := xj
  clear H0 HP0 hWf hjl hxj hlen
  dsimp only at hk ⊢
  have d1 : (((kj : Nat) : Int) == 4) = false := beq_eq_false_iff_ne.2 (by omega)
  have d2 : (kj == 4) = false := beq_eq_false_iff_ne.2 hk
  have d3 : (((kj : Nat) : Int) != 4) = true := by rw [bne_iff_ne]; omega
  have d4 : (kj != 4) = true := by rw [bne_iff_ne]; exact hk
  clear hk
  go_enter Tryz.func25, Tryz.ntmps25
  go_wp2_with fail
  generalize w.heap.size + 1 = nb at *
  have hne1 : nb ≠ w.heap.size := Ne.symm HNE.out
  have hne2 : w.heap.size ≠ nb := HNE.out
  refine (H.out _ HS0.out.1).mono ?_
  rintro e W1 ⟨v, rfl, hown, hz⟩
  obtain ⟨b, cc, rfl, hbb, -, hrw⟩ := own_state hown HNw.out
  have hb4 := HS0.out.2.1.lt
  have hb5 := HS0.out.2.2.lt
  have hb0 : b ≠ w.heap.size := by omega
  have hb1 : b ≠ nb := by omega
  have hb2 : w.heap.size ≠ b := Ne.symm hb0
  have hb3 : nb ≠ b := Ne.symm hb1
  clear hbb hb4 hb5
  have HS1 : Hid (Ex w W1 ∧ Zero6 W1 w.heap.size ∧ Blk W1 nb 39 [.int .i64 0, .int .i64 0]) := ⟨HS0.out.1.trans hz, HS0.out.2.1.ex hz, HS0.out.2.2.ex hz⟩
  have HW := Lib.hid hrw
  have lb1 := hrw.1
  clear hz hown hrw
  go_wp2_with fail
  refine (HP.out _ _ _ (HW.out.exx ((Ex.refl _).alloc _))).mono ?_
  rintro e W2 ⟨rfl, hz⟩
  have HS2 : Hid (Ex w W2 ∧ Zero6 W2 w.heap.size ∧ Blk W2 nb 39 [.int .i64 0, .int .i64 0]) := ⟨(HS1.out.1.alloc _).trans hz, (HS1.out.2.1.alloc _).ex hz, (HS1.out.2.2.alloc _).ex hz⟩
  have HW2 := Lib.hid ((HW.out.exx ((Ex.refl _).alloc (.cells #[.int .i64 0, .int .i64 0] 39))).exx hz)
  clear hz lb1
  have lz := (HS2.out.2.1).lt
  have r0 := (HS2.out.2.1).cell 0
  have f0 := (HS2.out.2.1).frozen 0
  have r1 := (HS2.out.2.1).cell 1
  have f1 := (HS2.out.2.1).frozen 1
  have r2 := (HS2.out.2.1).cell 2
  have f2 := (HS2.out.2.1).frozen 2
  have r3 := (HS2.out.2.1).cell 3
  have f3 := (HS2.out.2.1).frozen 3
  have r4 := (HS2.out.2.1).cell 4
  have f4 := (HS2.out.2.1).frozen 4
  have r5 := (HS2.out.2.1).cell 5
  have f5 := (HS2.out.2.1).frozen 5
  simp only [List.getElem?_cons_zero, List.getElem?_cons_succ] at r0 r1 r2 r3 r4 r5
  have lq := (HS2.out.2.2).lt
  have q0 := (HS2.out.2.2).cell 0
  have q1 := (HS2.out.2.2).cell 1
  have g0 := (HS2.out.2.2).frozen 0
  have g1 := (HS2.out.2.2).frozen 1
  simp only [List.getElem?_cons_zero, List.getElem?_cons_succ] at q0 q1
  obtain ⟨lb, c0, c1, c2, c3⟩ := word_cells (HW2.out) HXj.out
  simp only [Nat.zero_add] at c0 c1 c2 c3
  go_wp2_with fail
  go_region
  all_goals go_wp2_with fail
  all_goals
    have hb1 := (((blk8 HS2.out.2.1 HNE.out (.int .i64 0) (.int .i64 0) (.int .i64 0) (.int .i64 0) (.string ⟨#[]⟩) (.slice none 0 0) (.int .i64 (pj1 : Nat)) (.int .i64 (pj2 : Nat))).alloc (.cells #[.int .i64 0, .int .i64 0, .int .i64 0, .int .i64 0, .string ⟨#[]⟩, .slice none 0 0] 24)).drew)
    have hb2 := (((blk8p HS2.out.2.2 (Ne.symm HNE.out) (.int .i64 0) (.int .i64 0) (.int .i64 0) (.int .i64 0) (.string ⟨#[]⟩) (.slice none 0 0) (.int .i64 (pj1 : Nat)) (.int .i64 (pj2 : Nat))).alloc (.cells #[.int .i64 0, .int .i64 0, .int .i64 0, .int .i64 0, .string ⟨#[]⟩, .slice none 0 0] 24)).drew)
    have HE := Lib.hid ((((ex8 HS2.out.1 (Nat.le_refl _) HLE.out (.int .i64 0) (.int .i64 0) (.int .i64 0) (.int .i64 0) (.string ⟨#[]⟩) (.slice none 0 0) (.int .i64 (pj1 : Nat)) (.int .i64 (pj2 : Nat))).alloc (.cells #[.int .i64 0, .int .i64 0, .int .i64 0, .int .i64 0, .string ⟨#[]⟩, .slice none 0 0] 24)).drew))
    refine bodyPost_ret (results_parse rfl rfl rfl rfl hb1 hb2) rfl ?_
    exact ⟨rfl, HE.out⟩
set_option maxRecDepth 100000 in
set_option maxHeartbeats 6400000 in
theorem rparse_left (s : ByteArray) (w : World) (ws : List Wd) (j : Nat) (xj : Wd) (hWf : WfW ws) (hxj : ws[j]? = some xj) (hlen : ws.length ≤ 100000) (H0 : ∀ w', Ex w w' → Calls Tryz.prog 52 #[.string s] w' (WordsR w' (.ok ws))) (t : Tr) (HP0 : ∀ W b cc, Rw W b 0 (wdsV ws) → Calls Tryz.prog 53 #[.slice (some ⟨b, 0, none⟩) ws.length cc, .int .i64 0, .int .i64 0] W (TreeAt W t j)) (hk : xj.kind ≠ 4) :
    Calls Tryz.prog 25 #[.string s] w (ParseR w (.err xj.pos 3)) := by
  unfold ParseR
  have HS0 : Hid (Ex w ((w.alloc (.cells #[.int .i64 0, .int .i64 0, .int .i64 0, .int .i64 0, .string ⟨#[]⟩, .slice none 0 0] 24)).alloc (.cells #[.int .i64 0, .int .i64 0] 39)) ∧ Zero6 ((w.alloc (.cells #[.int .i64 0, .int .i64 0, .int .i64 0, .int .i64 0, .string ⟨#[]⟩, .slice none 0 0] 24)).alloc (.cells #[.int .i64 0, .int .i64 0] 39)) w.heap.size ∧ Blk ((w.alloc (.cells #[.int .i64 0, .int .i64 0, .int .i64 0, .int .i64 0, .string ⟨#[]⟩, .slice none 0 0] 24)).alloc (.cells #[.int .i64 0, .int .i64 0] 39)) (w.heap.size + 1) 39 [.int .i64 0, .int .i64 0]) := ⟨((Ex.refl w).alloc _).alloc _, (Blk.new w _ _).alloc _, Blk.new' _ (by simp) _ _⟩
  have H := Lib.hid H0
  have HP := Lib.hid HP0
  unfold WordsR at H
  unfold TreeAt at HP
  dsimp only at H ⊢
  have HNw : Hid (ws ≠ []) := by obtain ⟨x, r, rfl⟩ := hWf.cons; exact List.cons_ne_nil _ _
  have hjl := (List.getElem?_eq_some_iff.1 hxj).1
  have mj : (j : Int) < (ws.length : Int) := by omega
  have mj0 : (0 : Int) ≤ (j : Int) := by omega
  have mw : (ws.length : Int) ≤ 100000 := by omega
  have HXj := Lib.hid hxj
  have HNE : Hid (w.heap.size ≠ w.heap.size + 1) := by unfold Hid; omega
  have HLE : Hid (w.heap.size ≤ w.heap.size + 1) := by unfold Hid; omega
  obtain ⟨kj, Tj, pj1, pj2⟩ := xj
  clear H0 HP0 hWf hjl hxj hlen
  try dsimp only at hk ⊢
  have d1 : (((kj : Nat) : Int) == 4) = false := beq_eq_false_iff_ne.2 (by omega)
  have d2 : (kj == 4) = false := beq_eq_false_iff_ne.2 hk
  have d3 : (((kj : Nat) : Int) != 4) = true := by rw [bne_iff_ne]; omega
  have d4 : (kj != 4) = true := by rw [bne_iff_ne]; exact hk
  clear hk
  go_enter Tryz.func25, Tryz.ntmps25
  go_wp2_with fail
  generalize w.heap.size + 1 = nb at *
  have hne1 : nb ≠ w.heap.size := Ne.symm HNE.out
  have hne2 : w.heap.size ≠ nb := HNE.out
  refine (H.out _ HS0.out.1).mono ?_
  rintro e W1 ⟨v, rfl, hown, hz⟩
  obtain ⟨b, cc, rfl, hbb, -, hrw⟩ := own_state hown HNw.out
  have hb4 := HS0.out.2.1.lt
  have hb5 := HS0.out.2.2.lt
  have hb0 : b ≠ w.heap.size := by omega
  have hb1 : b ≠ nb := by omega
  have hb2 : w.heap.size ≠ b := Ne.symm hb0
  have hb3 : nb ≠ b := Ne.symm hb1
  clear hbb hb4 hb5
  have HS1 : Hid (Ex w W1 ∧ Zero6 W1 w.heap.size ∧ Blk W1 nb 39 [.int .i64 0, .int .i64 0]) := ⟨HS0.out.1.trans hz, HS0.out.2.1.ex hz, HS0.out.2.2.ex hz⟩
  have HW := Lib.hid hrw
  have lb1 := hrw.1
  clear hz hown hrw
  go_wp2_with fail
  refine (HP.out _ _ _ (HW.out.exx ((Ex.refl _).alloc _))).mono ?_
  rintro e W2 ⟨k9, n9, p9, q9, s9, A9, m9, c9, rfl, ht9, hz⟩
  have HS2 : Hid (Ex w W2 ∧ Zero6 W2 w.heap.size ∧ Blk W2 nb 39 [.int .i64 0, .int .i64 0]) := ⟨(HS1.out.1.alloc _).trans hz, (HS1.out.2.1.alloc _).ex hz, (HS1.out.2.2.alloc _).ex hz⟩
  have HW2 := Lib.hid ((HW.out.exx ((Ex.refl _).alloc (.cells #[.int .i64 0, .int .i64 0] 39))).exx hz)
  have HT9 : Hid (TrC (fun b => w.heap.size ≤ b ∧ b ≠ w.heap.size ∧ b ≠ nb) W2 t (c6 k9 n9 p9 q9 s9 A9 m9 c9)) := ht9.imp (fun b _ h => by have h1 := HS1.out.2.2.lt; have h2 := HS1.out.2.1.lt; simp at h; exact ⟨by omega, by omega, by omega⟩)
  have H9 : Hid (Blk (W2.alloc (.cells #[.int .i64 k9, .int .i64 n9, .int .i64 p9, .int .i64 q9, .string s9, .slice A9 m9 c9] 24)) W2.heap.size 24 (c6 k9 n9 p9 q9 s9 A9 m9 c9)) := Blk.new W2 _ _
  clear hz lb1 ht9
  have lz := (HS2.out.2.1).lt
  have r0 := (HS2.out.2.1).cell 0
  have f0 := (HS2.out.2.1).frozen 0
  have r1 := (HS2.out.2.1).cell 1
  have f1 := (HS2.out.2.1).frozen 1
  have r2 := (HS2.out.2.1).cell 2
  have f2 := (HS2.out.2.1).frozen 2
  have r3 := (HS2.out.2.1).cell 3
  have f3 := (HS2.out.2.1).frozen 3
  have r4 := (HS2.out.2.1).cell 4
  have f4 := (HS2.out.2.1).frozen 4
  have r5 := (HS2.out.2.1).cell 5
  have f5 := (HS2.out.2.1).frozen 5
  simp only [List.getElem?_cons_zero, List.getElem?_cons_succ] at r0 r1 r2 r3 r4 r5
  have lq := (HS2.out.2.2).lt
  have q0 := (HS2.out.2.2).cell 0
  have q1 := (HS2.out.2.2).cell 1
  have g0 := (HS2.out.2.2).frozen 0
  have g1 := (HS2.out.2.2).frozen 1
  simp only [List.getElem?_cons_zero, List.getElem?_cons_succ] at q0 q1
  obtain ⟨lb, c0, c1, c2, c3⟩ := word_cells (HW2.out) HXj.out
  simp only [Nat.zero_add] at c0 c1 c2 c3
  go_wp2_with fail
  go_region
  all_goals go_wp2_with fail
  all_goals
    have hb1 := (((blk8 HS2.out.2.1 HNE.out (.int .i64 0) (.int .i64 0) (.int .i64 0) (.int .i64 0) (.string ⟨#[]⟩) (.slice none 0 0) (.int .i64 (pj1 : Nat)) (.int .i64 (pj2 : Nat))).alloc (.cells #[.int .i64 k9, .int .i64 n9, .int .i64 p9, .int .i64 q9, .string s9, .slice A9 m9 c9] 24)).drew)
    have hb2 := (((blk8p HS2.out.2.2 (Ne.symm HNE.out) (.int .i64 0) (.int .i64 0) (.int .i64 0) (.int .i64 0) (.string ⟨#[]⟩) (.slice none 0 0) (.int .i64 (pj1 : Nat)) (.int .i64 (pj2 : Nat))).alloc (.cells #[.int .i64 k9, .int .i64 n9, .int .i64 p9, .int .i64 q9, .string s9, .slice A9 m9 c9] 24)).drew)
    have HE := Lib.hid ((((ex8 HS2.out.1 (Nat.le_refl _) HLE.out (.int .i64 0) (.int .i64 0) (.int .i64 0) (.int .i64 0) (.string ⟨#[]⟩) (.slice none 0 0) (.int .i64 (pj1 : Nat)) (.int .i64 (pj2 : Nat))).alloc (.cells #[.int .i64 k9, .int .i64 n9, .int .i64 p9, .int .i64 q9, .string s9, .slice A9 m9 c9] 24)).drew))
    refine bodyPost_ret (results_parse rfl rfl rfl rfl hb1 hb2) rfl ?_
    exact ⟨rfl, HE.out⟩
set_option maxRecDepth 100000 in
set_option maxHeartbeats 6400000 in
theorem rparse_full1 (s : ByteArray) (w : World) (ws : List Wd) (j : Nat) (xj : Wd) (hWf : WfW ws) (hxj : ws[j]? = some xj) (hlen : ws.length ≤ 100000) (H0 : ∀ w', Ex w w' → Calls Tryz.prog 52 #[.string s] w' (WordsR w' (.ok ws))) (t : Tr) (HP0 : ∀ W b cc, Rw W b 0 (wdsV ws) → Calls Tryz.prog 53 #[.slice (some ⟨b, 0, none⟩) ws.length cc, .int .i64 0, .int .i64 0] W (TreeAt W t j)) (hts : t.size ≤ 1000000) (hk : xj.kind = 4) (hs : 200 < t.size) :
    Calls Tryz.prog 25 #[.string s] w (ParseR w (.err (0, 0) 5)) := by
  unfold ParseR
  have HS0 : Hid (Ex w ((w.alloc (.cells #[.int .i64 0, .int .i64 0, .int .i64 0, .int .i64 0, .string ⟨#[]⟩, .slice none 0 0] 24)).alloc (.cells #[.int .i64 0, .int .i64 0] 39)) ∧ Zero6 ((w.alloc (.cells #[.int .i64 0, .int .i64 0, .int .i64 0, .int .i64 0, .string ⟨#[]⟩, .slice none 0 0] 24)).alloc (.cells #[.int .i64 0, .int .i64 0] 39)) w.heap.size ∧ Blk ((w.alloc (.cells #[.int .i64 0, .int .i64 0, .int .i64 0, .int .i64 0, .string ⟨#[]⟩, .slice none 0 0] 24)).alloc (.cells #[.int .i64 0, .int .i64 0] 39)) (w.heap.size + 1) 39 [.int .i64 0, .int .i64 0]) := ⟨((Ex.refl w).alloc _).alloc _, (Blk.new w _ _).alloc _, Blk.new' _ (by simp) _ _⟩
  have H := Lib.hid H0
  have HP := Lib.hid HP0
  unfold WordsR at H
  unfold TreeAt at HP
  dsimp only at H ⊢
  have HNw : Hid (ws ≠ []) := by obtain ⟨x, r, rfl⟩ := hWf.cons; exact List.cons_ne_nil _ _
  have hjl := (List.getElem?_eq_some_iff.1 hxj).1
  have mj : (j : Int) < (ws.length : Int) := by omega
  have mj0 : (0 : Int) ≤ (j : Int) := by omega
  have mw : (ws.length : Int) ≤ 100000 := by omega
  have HXj := Lib.hid hxj
  have HNE : Hid (w.heap.size ≠ w.heap.size + 1) := by unfold Hid; omega
  have HLE : Hid (w.heap.size ≤ w.heap.size + 1) := by unfold Hid; omega
  obtain ⟨kj, Tj, pj1, pj2⟩ := xj
  clear H0 HP0 hWf hjl hxj hlen
  try dsimp only at hk ⊢
  have d1 : (((kj : Nat) : Int) == 4) = true := by rw [beq_iff_eq]; omega
  have d2 : (kj == 4) = true := by rw [beq_iff_eq]; exact hk
  have d3 : (((kj : Nat) : Int) != 4) = false := by unfold bne; rw [d1]; rfl
  have d4 : (kj != 4) = false := by unfold bne; rw [d2]; rfl
  clear hk
  have z1 : decide (200 < (t.size : Int)) = true := decide_eq_true (by omega)
  go_enter Tryz.func25, Tryz.ntmps25
  go_wp2_with fail
  generalize w.heap.size + 1 = nb at *
  have hne1 : nb ≠ w.heap.size := Ne.symm HNE.out
  have hne2 : w.heap.size ≠ nb := HNE.out
  refine (H.out _ HS0.out.1).mono ?_
  rintro e W1 ⟨v, rfl, hown, hz⟩
  obtain ⟨b, cc, rfl, hbb, -, hrw⟩ := own_state hown HNw.out
  have hb4 := HS0.out.2.1.lt
  have hb5 := HS0.out.2.2.lt
  have hb0 : b ≠ w.heap.size := by omega
  have hb1 : b ≠ nb := by omega
  have hb2 : w.heap.size ≠ b := Ne.symm hb0
  have hb3 : nb ≠ b := Ne.symm hb1
  clear hbb hb4 hb5
  have HS1 : Hid (Ex w W1 ∧ Zero6 W1 w.heap.size ∧ Blk W1 nb 39 [.int .i64 0, .int .i64 0]) := ⟨HS0.out.1.trans hz, HS0.out.2.1.ex hz, HS0.out.2.2.ex hz⟩
  have HW := Lib.hid hrw
  have lb1 := hrw.1
  clear hz hown hrw
  go_wp2_with fail
  refine (HP.out _ _ _ (HW.out.exx ((Ex.refl _).alloc _))).mono ?_
  rintro e W2 ⟨k9, n9, p9, q9, s9, A9, m9, c9, rfl, ht9, hz⟩
  have HS2 : Hid (Ex w W2 ∧ Zero6 W2 w.heap.size ∧ Blk W2 nb 39 [.int .i64 0, .int .i64 0]) := ⟨(HS1.out.1.alloc _).trans hz, (HS1.out.2.1.alloc _).ex hz, (HS1.out.2.2.alloc _).ex hz⟩
  have HW2 := Lib.hid ((HW.out.exx ((Ex.refl _).alloc (.cells #[.int .i64 0, .int .i64 0] 39))).exx hz)
  have HT9 : Hid (TrC (fun b => w.heap.size ≤ b ∧ b ≠ w.heap.size ∧ b ≠ nb) W2 t (c6 k9 n9 p9 q9 s9 A9 m9 c9)) := ht9.imp (fun b _ h => by have h1 := HS1.out.2.2.lt; have h2 := HS1.out.2.1.lt; simp at h; exact ⟨by omega, by omega, by omega⟩)
  have H9 : Hid (Blk (W2.alloc (.cells #[.int .i64 k9, .int .i64 n9, .int .i64 p9, .int .i64 q9, .string s9, .slice A9 m9 c9] 24)) W2.heap.size 24 (c6 k9 n9 p9 q9 s9 A9 m9 c9)) := Blk.new W2 _ _
  clear hz lb1 ht9
  have lz := (HS2.out.2.1).lt
  have r0 := (HS2.out.2.1).cell 0
  have f0 := (HS2.out.2.1).frozen 0
  have r1 := (HS2.out.2.1).cell 1
  have f1 := (HS2.out.2.1).frozen 1
  have r2 := (HS2.out.2.1).cell 2
  have f2 := (HS2.out.2.1).frozen 2
  have r3 := (HS2.out.2.1).cell 3
  have f3 := (HS2.out.2.1).frozen 3
  have r4 := (HS2.out.2.1).cell 4
  have f4 := (HS2.out.2.1).frozen 4
  have r5 := (HS2.out.2.1).cell 5
  have f5 := (HS2.out.2.1).frozen 5
  simp only [List.getElem?_cons_zero, List.getElem?_cons_succ] at r0 r1 r2 r3 r4 r5
  have lq := (HS2.out.2.2).lt
  have q0 := (HS2.out.2.2).cell 0
  have q1 := (HS2.out.2.2).cell 1
  have g0 := (HS2.out.2.2).frozen 0
  have g1 := (HS2.out.2.2).frozen 1
  simp only [List.getElem?_cons_zero, List.getElem?_cons_succ] at q0 q1
  obtain ⟨lb, c0, c1, c2, c3⟩ := word_cells (HW2.out) HXj.out
  simp only [Nat.zero_add] at c0 c1 c2 c3
  have HSz : Hid (∀ W, Ex W2 W → Calls Tryz.prog 12 #[.agg #[.int .i64 k9, .int .i64 n9, .int .i64 p9, .int .i64 q9, .string s9, .slice A9 m9 c9]] W (Ret W (.int .i64 (t.size : Nat)))) := fun W hx => rSize_c t.size t _ W k9 n9 p9 q9 s9 A9 m9 c9 (Nat.le_refl _) hts (HT9.out.ex hx)
  have HDp : Hid (∀ W, Ex W2 W → Calls Tryz.prog 14 #[.agg #[.int .i64 k9, .int .i64 n9, .int .i64 p9, .int .i64 q9, .string s9, .slice A9 m9 c9]] W (Ret W (.int .i64 (t.depth : Nat)))) := fun W hx => rDepth_c t.size t _ W k9 n9 p9 q9 s9 A9 m9 c9 (Nat.le_refl _) hts (HT9.out.ex hx)
  generalize t.size = tz at *
  clear hts hs
  go_wp2_with fail
  refine (HSz.out _ ((Ex.refl _).alloc _)).mono ?_
  rintro e W3 ⟨rfl, hz⟩
  have HS3 : Hid (Ex w W3 ∧ Zero6 W3 w.heap.size ∧ Blk W3 nb 39 [.int .i64 0, .int .i64 0]) := ⟨(HS2.out.1.alloc _).trans hz, (HS2.out.2.1.alloc _).ex hz, (HS2.out.2.2.alloc _).ex hz⟩
  have H93 := Lib.hid (H9.out.ex hz)
  have HX3 : Hid (Ex W2 W3) := ((Ex.refl _).alloc _).trans hz
  clear hz
  clear lz r0 f0 r1 f1 r2 f2 r3 f3 r4 f4 r5 f5 lq q0 q1 g0 g1
  clear lb c0 c1 c2 c3
  have lz := (HS3.out.2.1).lt
  have r0 := (HS3.out.2.1).cell 0
  have f0 := (HS3.out.2.1).frozen 0
  have r1 := (HS3.out.2.1).cell 1
  have f1 := (HS3.out.2.1).frozen 1
  have r2 := (HS3.out.2.1).cell 2
  have f2 := (HS3.out.2.1).frozen 2
  have r3 := (HS3.out.2.1).cell 3
  have f3 := (HS3.out.2.1).frozen 3
  have r4 := (HS3.out.2.1).cell 4
  have f4 := (HS3.out.2.1).frozen 4
  have r5 := (HS3.out.2.1).cell 5
  have f5 := (HS3.out.2.1).frozen 5
  simp only [List.getElem?_cons_zero, List.getElem?_cons_succ] at r0 r1 r2 r3 r4 r5
  have lq := (HS3.out.2.2).lt
  have q0 := (HS3.out.2.2).cell 0
  have q1 := (HS3.out.2.2).cell 1
  have g0 := (HS3.out.2.2).frozen 0
  have g1 := (HS3.out.2.2).frozen 1
  simp only [List.getElem?_cons_zero, List.getElem?_cons_succ] at q0 q1
  have yl := (H93.out).lt
  have y0 := (H93.out).cell 0
  have y1 := (H93.out).cell 1
  have y2 := (H93.out).cell 2
  have y3 := (H93.out).cell 3
  have y4 := (H93.out).cell 4
  have y5 := (H93.out).cell 5
  simp only [List.getElem?_cons_zero, List.getElem?_cons_succ] at y0 y1 y2 y3 y4 y5
  go_wp2_with fail
  have hb1 := (blk8 HS3.out.2.1 HNE.out (.int .i64 0) (.int .i64 0) (.int .i64 0) (.int .i64 0) (.string ⟨#[]⟩) (.slice none 0 0) (.int .i64 0) (.int .i64 0))
  have hb2 := (blk8p HS3.out.2.2 (Ne.symm HNE.out) (.int .i64 0) (.int .i64 0) (.int .i64 0) (.int .i64 0) (.string ⟨#[]⟩) (.slice none 0 0) (.int .i64 0) (.int .i64 0))
  have HE := Lib.hid ((ex8 HS3.out.1 (Nat.le_refl _) HLE.out (.int .i64 0) (.int .i64 0) (.int .i64 0) (.int .i64 0) (.string ⟨#[]⟩) (.slice none 0 0) (.int .i64 0) (.int .i64 0)))
  refine bodyPost_ret (results_parse rfl rfl rfl rfl hb1 hb2) rfl ?_
  exact ⟨rfl, HE.out⟩
set_option maxRecDepth 100000 in
set_option maxHeartbeats 6400000 in
theorem rparse_full2 (s : ByteArray) (w : World) (ws : List Wd) (j : Nat) (xj : Wd) (hWf : WfW ws) (hxj : ws[j]? = some xj) (hlen : ws.length ≤ 100000) (H0 : ∀ w', Ex w w' → Calls Tryz.prog 52 #[.string s] w' (WordsR w' (.ok ws))) (t : Tr) (HP0 : ∀ W b cc, Rw W b 0 (wdsV ws) → Calls Tryz.prog 53 #[.slice (some ⟨b, 0, none⟩) ws.length cc, .int .i64 0, .int .i64 0] W (TreeAt W t j)) (hts : t.size ≤ 1000000) (hk : xj.kind = 4) (hs : t.size ≤ 200) (hd : 20 < t.depth) :
    Calls Tryz.prog 25 #[.string s] w (ParseR w (.err (0, 0) 5)) := by
  unfold ParseR
  have HS0 : Hid (Ex w ((w.alloc (.cells #[.int .i64 0, .int .i64 0, .int .i64 0, .int .i64 0, .string ⟨#[]⟩, .slice none 0 0] 24)).alloc (.cells #[.int .i64 0, .int .i64 0] 39)) ∧ Zero6 ((w.alloc (.cells #[.int .i64 0, .int .i64 0, .int .i64 0, .int .i64 0, .string ⟨#[]⟩, .slice none 0 0] 24)).alloc (.cells #[.int .i64 0, .int .i64 0] 39)) w.heap.size ∧ Blk ((w.alloc (.cells #[.int .i64 0, .int .i64 0, .int .i64 0, .int .i64 0, .string ⟨#[]⟩, .slice none 0 0] 24)).alloc (.cells #[.int .i64 0, .int .i64 0] 39)) (w.heap.size + 1) 39 [.int .i64 0, .int .i64 0]) := ⟨((Ex.refl w).alloc _).alloc _, (Blk.new w _ _).alloc _, Blk.new' _ (by simp) _ _⟩
  have H := Lib.hid H0
  have HP := Lib.hid HP0
  unfold WordsR at H
  unfold TreeAt at HP
  dsimp only at H ⊢
  have HNw : Hid (ws ≠ []) := by obtain ⟨x, r, rfl⟩ := hWf.cons; exact List.cons_ne_nil _ _
  have hjl := (List.getElem?_eq_some_iff.1 hxj).1
  have mj : (j : Int) < (ws.length : Int) := by omega
  have mj0 : (0 : Int) ≤ (j : Int) := by omega
  have mw : (ws.length : Int) ≤ 100000 := by omega
  have HXj := Lib.hid hxj
  have HNE : Hid (w.heap.size ≠ w.heap.size + 1) := by unfold Hid; omega
  have HLE : Hid (w.heap.size ≤ w.heap.size + 1) := by unfold Hid; omega
  obtain ⟨kj, Tj, pj1, pj2⟩ := xj
  clear H0 HP0 hWf hjl hxj hlen
  try dsimp only at hk ⊢
  have d1 : (((kj : Nat) : Int) == 4) = true := by rw [beq_iff_eq]; omega
  have d2 : (kj == 4) = true := by rw [beq_iff_eq]; exact hk
  have d3 : (((kj : Nat) : Int) != 4) = false := by unfold bne; rw [d1]; rfl
  have d4 : (kj != 4) = false := by unfold bne; rw [d2]; rfl
  clear hk
  have z1 : decide (200 < (t.size : Int)) = false := decide_eq_false (by omega)
  have z2 : decide (20 < (t.depth : Int)) = true := decide_eq_true (by omega)
  go_enter Tryz.func25, Tryz.ntmps25
  go_wp2_with fail
  generalize w.heap.size + 1 = nb at *
  have hne1 : nb ≠ w.heap.size := Ne.symm HNE.out
  have hne2 : w.heap.size ≠ nb := HNE.out
  refine (H.out _ HS0.out.1).mono ?_
  rintro e W1 ⟨v, rfl, hown, hz⟩
  obtain ⟨b, cc, rfl, hbb, -, hrw⟩ := own_state hown HNw.out
  have hb4 := HS0.out.2.1.lt
  have hb5 := HS0.out.2.2.lt
  have hb0 : b ≠ w.heap.size := by omega
  have hb1 : b ≠ nb := by omega
  have hb2 : w.heap.size ≠ b := Ne.symm hb0
  have hb3 : nb ≠ b := Ne.symm hb1
  clear hbb hb4 hb5
  have HS1 : Hid (Ex w W1 ∧ Zero6 W1 w.heap.size ∧ Blk W1 nb 39 [.int .i64 0, .int .i64 0]) := ⟨HS0.out.1.trans hz, HS0.out.2.1.ex hz, HS0.out.2.2.ex hz⟩
  have HW := Lib.hid hrw
  have lb1 := hrw.1
  clear hz hown hrw
  go_wp2_with fail
  refine (HP.out _ _ _ (HW.out.exx ((Ex.refl _).alloc _))).mono ?_
  rintro e W2 ⟨k9, n9, p9, q9, s9, A9, m9, c9, rfl, ht9, hz⟩
  have HS2 : Hid (Ex w W2 ∧ Zero6 W2 w.heap.size ∧ Blk W2 nb 39 [.int .i64 0, .int .i64 0]) := ⟨(HS1.out.1.alloc _).trans hz, (HS1.out.2.1.alloc _).ex hz, (HS1.out.2.2.alloc _).ex hz⟩
  have HW2 := Lib.hid ((HW.out.exx ((Ex.refl _).alloc (.cells #[.int .i64 0, .int .i64 0] 39))).exx hz)
  have HT9 : Hid (TrC (fun b => w.heap.size ≤ b ∧ b ≠ w.heap.size ∧ b ≠ nb) W2 t (c6 k9 n9 p9 q9 s9 A9 m9 c9)) := ht9.imp (fun b _ h => by have h1 := HS1.out.2.2.lt; have h2 := HS1.out.2.1.lt; simp at h; exact ⟨by omega, by omega, by omega⟩)
  have H9 : Hid (Blk (W2.alloc (.cells #[.int .i64 k9, .int .i64 n9, .int .i64 p9, .int .i64 q9, .string s9, .slice A9 m9 c9] 24)) W2.heap.size 24 (c6 k9 n9 p9 q9 s9 A9 m9 c9)) := Blk.new W2 _ _
  clear hz lb1 ht9
  have lz := (HS2.out.2.1).lt
  have r0 := (HS2.out.2.1).cell 0
  have f0 := (HS2.out.2.1).frozen 0
  have r1 := (HS2.out.2.1).cell 1
  have f1 := (HS2.out.2.1).frozen 1
  have r2 := (HS2.out.2.1).cell 2
  have f2 := (HS2.out.2.1).frozen 2
  have r3 := (HS2.out.2.1).cell 3
  have f3 := (HS2.out.2.1).frozen 3
  have r4 := (HS2.out.2.1).cell 4
  have f4 := (HS2.out.2.1).frozen 4
  have r5 := (HS2.out.2.1).cell 5
  have f5 := (HS2.out.2.1).frozen 5
  simp only [List.getElem?_cons_zero, List.getElem?_cons_succ] at r0 r1 r2 r3 r4 r5
  have lq := (HS2.out.2.2).lt
  have q0 := (HS2.out.2.2).cell 0
  have q1 := (HS2.out.2.2).cell 1
  have g0 := (HS2.out.2.2).frozen 0
  have g1 := (HS2.out.2.2).frozen 1
  simp only [List.getElem?_cons_zero, List.getElem?_cons_succ] at q0 q1
  obtain ⟨lb, c0, c1, c2, c3⟩ := word_cells (HW2.out) HXj.out
  simp only [Nat.zero_add] at c0 c1 c2 c3
  have HSz : Hid (∀ W, Ex W2 W → Calls Tryz.prog 12 #[.agg #[.int .i64 k9, .int .i64 n9, .int .i64 p9, .int .i64 q9, .string s9, .slice A9 m9 c9]] W (Ret W (.int .i64 (t.size : Nat)))) := fun W hx => rSize_c t.size t _ W k9 n9 p9 q9 s9 A9 m9 c9 (Nat.le_refl _) hts (HT9.out.ex hx)
  have HDp : Hid (∀ W, Ex W2 W → Calls Tryz.prog 14 #[.agg #[.int .i64 k9, .int .i64 n9, .int .i64 p9, .int .i64 q9, .string s9, .slice A9 m9 c9]] W (Ret W (.int .i64 (t.depth : Nat)))) := fun W hx => rDepth_c t.size t _ W k9 n9 p9 q9 s9 A9 m9 c9 (Nat.le_refl _) hts (HT9.out.ex hx)
  generalize t.size = tz at *
  generalize t.depth = td at *
  clear hts hs hd
  go_wp2_with fail
  refine (HSz.out _ ((Ex.refl _).alloc _)).mono ?_
  rintro e W3 ⟨rfl, hz⟩
  have HS3 : Hid (Ex w W3 ∧ Zero6 W3 w.heap.size ∧ Blk W3 nb 39 [.int .i64 0, .int .i64 0]) := ⟨(HS2.out.1.alloc _).trans hz, (HS2.out.2.1.alloc _).ex hz, (HS2.out.2.2.alloc _).ex hz⟩
  have H93 := Lib.hid (H9.out.ex hz)
  have HX3 : Hid (Ex W2 W3) := ((Ex.refl _).alloc _).trans hz
  clear hz
  clear lz r0 f0 r1 f1 r2 f2 r3 f3 r4 f4 r5 f5 lq q0 q1 g0 g1
  clear lb c0 c1 c2 c3
  have lz := (HS3.out.2.1).lt
  have r0 := (HS3.out.2.1).cell 0
  have f0 := (HS3.out.2.1).frozen 0
  have r1 := (HS3.out.2.1).cell 1
  have f1 := (HS3.out.2.1).frozen 1
  have r2 := (HS3.out.2.1).cell 2
  have f2 := (HS3.out.2.1).frozen 2
  have r3 := (HS3.out.2.1).cell 3
  have f3 := (HS3.out.2.1).frozen 3
  have r4 := (HS3.out.2.1).cell 4
  have f4 := (HS3.out.2.1).frozen 4
  have r5 := (HS3.out.2.1).cell 5
  have f5 := (HS3.out.2.1).frozen 5
  simp only [List.getElem?_cons_zero, List.getElem?_cons_succ] at r0 r1 r2 r3 r4 r5
  have lq := (HS3.out.2.2).lt
  have q0 := (HS3.out.2.2).cell 0
  have q1 := (HS3.out.2.2).cell 1
  have g0 := (HS3.out.2.2).frozen 0
  have g1 := (HS3.out.2.2).frozen 1
  simp only [List.getElem?_cons_zero, List.getElem?_cons_succ] at q0 q1
  have yl := (H93.out).lt
  have y0 := (H93.out).cell 0
  have y1 := (H93.out).cell 1
  have y2 := (H93.out).cell 2
  have y3 := (H93.out).cell 3
  have y4 := (H93.out).cell 4
  have y5 := (H93.out).cell 5
  simp only [List.getElem?_cons_zero, List.getElem?_cons_succ] at y0 y1 y2 y3 y4 y5
  go_wp2_with fail
  refine (HDp.out _ HX3.out).mono ?_
  rintro e W4 ⟨rfl, hz⟩
  have HS4 : Hid (Ex w W4 ∧ Zero6 W4 w.heap.size ∧ Blk W4 nb 39 [.int .i64 0, .int .i64 0]) := ⟨(HS3.out.1).trans hz, (HS3.out.2.1).ex hz, (HS3.out.2.2).ex hz⟩
  have H94 := Lib.hid (H93.out.ex hz)
  have HX4 : Hid (Ex W2 W4) := HX3.out.trans hz
  clear hz
  clear lz r0 f0 r1 f1 r2 f2 r3 f3 r4 f4 r5 f5 lq q0 q1 g0 g1
  clear yl y0 y1 y2 y3 y4 y5
  have lz := (HS4.out.2.1).lt
  have r0 := (HS4.out.2.1).cell 0
  have f0 := (HS4.out.2.1).frozen 0
  have r1 := (HS4.out.2.1).cell 1
  have f1 := (HS4.out.2.1).frozen 1
  have r2 := (HS4.out.2.1).cell 2
  have f2 := (HS4.out.2.1).frozen 2
  have r3 := (HS4.out.2.1).cell 3
  have f3 := (HS4.out.2.1).frozen 3
  have r4 := (HS4.out.2.1).cell 4
  have f4 := (HS4.out.2.1).frozen 4
  have r5 := (HS4.out.2.1).cell 5
  have f5 := (HS4.out.2.1).frozen 5
  simp only [List.getElem?_cons_zero, List.getElem?_cons_succ] at r0 r1 r2 r3 r4 r5
  have lq := (HS4.out.2.2).lt
  have q0 := (HS4.out.2.2).cell 0
  have q1 := (HS4.out.2.2).cell 1
  have g0 := (HS4.out.2.2).frozen 0
  have g1 := (HS4.out.2.2).frozen 1
  simp only [List.getElem?_cons_zero, List.getElem?_cons_succ] at q0 q1
  have yl := (H94.out).lt
  have y0 := (H94.out).cell 0
  have y1 := (H94.out).cell 1
  have y2 := (H94.out).cell 2
  have y3 := (H94.out).cell 3
  have y4 := (H94.out).cell 4
  have y5 := (H94.out).cell 5
  simp only [List.getElem?_cons_zero, List.getElem?_cons_succ] at y0 y1 y2 y3 y4 y5
  go_wp2_with fail
  have hb1 := (blk8 HS4.out.2.1 HNE.out (.int .i64 0) (.int .i64 0) (.int .i64 0) (.int .i64 0) (.string ⟨#[]⟩) (.slice none 0 0) (.int .i64 0) (.int .i64 0))
  have hb2 := (blk8p HS4.out.2.2 (Ne.symm HNE.out) (.int .i64 0) (.int .i64 0) (.int .i64 0) (.int .i64 0) (.string ⟨#[]⟩) (.slice none 0 0) (.int .i64 0) (.int .i64 0))
  have HE := Lib.hid ((ex8 HS4.out.1 (Nat.le_refl _) HLE.out (.int .i64 0) (.int .i64 0) (.int .i64 0) (.int .i64 0) (.string ⟨#[]⟩) (.slice none 0 0) (.int .i64 0) (.int .i64 0)))
  refine bodyPost_ret (results_parse rfl rfl rfl rfl hb1 hb2) rfl ?_
  exact ⟨rfl, HE.out⟩
set_option maxRecDepth 100000 in
set_option maxHeartbeats 6400000 in
theorem rparse_tree (s : ByteArray) (w : World) (ws : List Wd) (j : Nat) (xj : Wd) (hWf : WfW ws) (hxj : ws[j]? = some xj) (hlen : ws.length ≤ 100000) (H0 : ∀ w', Ex w w' → Calls Tryz.prog 52 #[.string s] w' (WordsR w' (.ok ws))) (t : Tr) (HP0 : ∀ W b cc, Rw W b 0 (wdsV ws) → Calls Tryz.prog 53 #[.slice (some ⟨b, 0, none⟩) ws.length cc, .int .i64 0, .int .i64 0] W (TreeAt W t j)) (hts : t.size ≤ 1000000) (hk : xj.kind = 4) (hs : t.size ≤ 200) (hd : t.depth ≤ 20) :
    Calls Tryz.prog 25 #[.string s] w (ParseR w (.tree t)) := by
  unfold ParseR
  have HS0 : Hid (Ex w ((w.alloc (.cells #[.int .i64 0, .int .i64 0, .int .i64 0, .int .i64 0, .string ⟨#[]⟩, .slice none 0 0] 24)).alloc (.cells #[.int .i64 0, .int .i64 0] 39)) ∧ Zero6 ((w.alloc (.cells #[.int .i64 0, .int .i64 0, .int .i64 0, .int .i64 0, .string ⟨#[]⟩, .slice none 0 0] 24)).alloc (.cells #[.int .i64 0, .int .i64 0] 39)) w.heap.size ∧ Blk ((w.alloc (.cells #[.int .i64 0, .int .i64 0, .int .i64 0, .int .i64 0, .string ⟨#[]⟩, .slice none 0 0] 24)).alloc (.cells #[.int .i64 0, .int .i64 0] 39)) (w.heap.size + 1) 39 [.int .i64 0, .int .i64 0]) := ⟨((Ex.refl w).alloc _).alloc _, (Blk.new w _ _).alloc _, Blk.new' _ (by simp) _ _⟩
  have H := Lib.hid H0
  have HP := Lib.hid HP0
  unfold WordsR at H
  unfold TreeAt at HP
  dsimp only at H ⊢
  have HNw : Hid (ws ≠ []) := by obtain ⟨x, r, rfl⟩ := hWf.cons; exact List.cons_ne_nil _ _
  have hjl := (List.getElem?_eq_some_iff.1 hxj).1
  have mj : (j : Int) < (ws.length : Int) := by omega
  have mj0 : (0 : Int) ≤ (j : Int) := by omega
  have mw : (ws.length : Int) ≤ 100000 := by omega
  have HXj := Lib.hid hxj
  have HNE : Hid (w.heap.size ≠ w.heap.size + 1) := by unfold Hid; omega
  have HLE : Hid (w.heap.size ≤ w.heap.size + 1) := by unfold Hid; omega
  obtain ⟨kj, Tj, pj1, pj2⟩ := xj
  clear H0 HP0 hWf hjl hxj hlen
  try dsimp only at hk ⊢
  have d1 : (((kj : Nat) : Int) == 4) = true := by rw [beq_iff_eq]; omega
  have d2 : (kj == 4) = true := by rw [beq_iff_eq]; exact hk
  have d3 : (((kj : Nat) : Int) != 4) = false := by unfold bne; rw [d1]; rfl
  have d4 : (kj != 4) = false := by unfold bne; rw [d2]; rfl
  clear hk
  have z1 : decide (200 < (t.size : Int)) = false := decide_eq_false (by omega)
  have z2 : decide (20 < (t.depth : Int)) = false := decide_eq_false (by omega)
  go_enter Tryz.func25, Tryz.ntmps25
  go_wp2_with fail
  generalize w.heap.size + 1 = nb at *
  have hne1 : nb ≠ w.heap.size := Ne.symm HNE.out
  have hne2 : w.heap.size ≠ nb := HNE.out
  refine (H.out _ HS0.out.1).mono ?_
  rintro e W1 ⟨v, rfl, hown, hz⟩
  obtain ⟨b, cc, rfl, hbb, -, hrw⟩ := own_state hown HNw.out
  have hb4 := HS0.out.2.1.lt
  have hb5 := HS0.out.2.2.lt
  have hb0 : b ≠ w.heap.size := by omega
  have hb1 : b ≠ nb := by omega
  have hb2 : w.heap.size ≠ b := Ne.symm hb0
  have hb3 : nb ≠ b := Ne.symm hb1
  clear hbb hb4 hb5
  have HS1 : Hid (Ex w W1 ∧ Zero6 W1 w.heap.size ∧ Blk W1 nb 39 [.int .i64 0, .int .i64 0]) := ⟨HS0.out.1.trans hz, HS0.out.2.1.ex hz, HS0.out.2.2.ex hz⟩
  have HW := Lib.hid hrw
  have lb1 := hrw.1
  clear hz hown hrw
  go_wp2_with fail
  refine (HP.out _ _ _ (HW.out.exx ((Ex.refl _).alloc _))).mono ?_
  rintro e W2 ⟨k9, n9, p9, q9, s9, A9, m9, c9, rfl, ht9, hz⟩
  have HS2 : Hid (Ex w W2 ∧ Zero6 W2 w.heap.size ∧ Blk W2 nb 39 [.int .i64 0, .int .i64 0]) := ⟨(HS1.out.1.alloc _).trans hz, (HS1.out.2.1.alloc _).ex hz, (HS1.out.2.2.alloc _).ex hz⟩
  have HW2 := Lib.hid ((HW.out.exx ((Ex.refl _).alloc (.cells #[.int .i64 0, .int .i64 0] 39))).exx hz)
  have HT9 : Hid (TrC (fun b => w.heap.size ≤ b ∧ b ≠ w.heap.size ∧ b ≠ nb) W2 t (c6 k9 n9 p9 q9 s9 A9 m9 c9)) := ht9.imp (fun b _ h => by have h1 := HS1.out.2.2.lt; have h2 := HS1.out.2.1.lt; simp at h; exact ⟨by omega, by omega, by omega⟩)
  have H9 : Hid (Blk (W2.alloc (.cells #[.int .i64 k9, .int .i64 n9, .int .i64 p9, .int .i64 q9, .string s9, .slice A9 m9 c9] 24)) W2.heap.size 24 (c6 k9 n9 p9 q9 s9 A9 m9 c9)) := Blk.new W2 _ _
  clear hz lb1 ht9
  have lz := (HS2.out.2.1).lt
  have r0 := (HS2.out.2.1).cell 0
  have f0 := (HS2.out.2.1).frozen 0
  have r1 := (HS2.out.2.1).cell 1
  have f1 := (HS2.out.2.1).frozen 1
  have r2 := (HS2.out.2.1).cell 2
  have f2 := (HS2.out.2.1).frozen 2
  have r3 := (HS2.out.2.1).cell 3
  have f3 := (HS2.out.2.1).frozen 3
  have r4 := (HS2.out.2.1).cell 4
  have f4 := (HS2.out.2.1).frozen 4
  have r5 := (HS2.out.2.1).cell 5
  have f5 := (HS2.out.2.1).frozen 5
  simp only [List.getElem?_cons_zero, List.getElem?_cons_succ] at r0 r1 r2 r3 r4 r5
  have lq := (HS2.out.2.2).lt
  have q0 := (HS2.out.2.2).cell 0
  have q1 := (HS2.out.2.2).cell 1
  have g0 := (HS2.out.2.2).frozen 0
  have g1 := (HS2.out.2.2).frozen 1
  simp only [List.getElem?_cons_zero, List.getElem?_cons_succ] at q0 q1
  obtain ⟨lb, c0, c1, c2, c3⟩ := word_cells (HW2.out) HXj.out
  simp only [Nat.zero_add] at c0 c1 c2 c3
  have HSz : Hid (∀ W, Ex W2 W → Calls Tryz.prog 12 #[.agg #[.int .i64 k9, .int .i64 n9, .int .i64 p9, .int .i64 q9, .string s9, .slice A9 m9 c9]] W (Ret W (.int .i64 (t.size : Nat)))) := fun W hx => rSize_c t.size t _ W k9 n9 p9 q9 s9 A9 m9 c9 (Nat.le_refl _) hts (HT9.out.ex hx)
  have HDp : Hid (∀ W, Ex W2 W → Calls Tryz.prog 14 #[.agg #[.int .i64 k9, .int .i64 n9, .int .i64 p9, .int .i64 q9, .string s9, .slice A9 m9 c9]] W (Ret W (.int .i64 (t.depth : Nat)))) := fun W hx => rDepth_c t.size t _ W k9 n9 p9 q9 s9 A9 m9 c9 (Nat.le_refl _) hts (HT9.out.ex hx)
  generalize t.size = tz at *
  generalize t.depth = td at *
  clear hts hs hd
  go_wp2_with fail
  refine (HSz.out _ ((Ex.refl _).alloc _)).mono ?_
  rintro e W3 ⟨rfl, hz⟩
  have HS3 : Hid (Ex w W3 ∧ Zero6 W3 w.heap.size ∧ Blk W3 nb 39 [.int .i64 0, .int .i64 0]) := ⟨(HS2.out.1.alloc _).trans hz, (HS2.out.2.1.alloc _).ex hz, (HS2.out.2.2.alloc _).ex hz⟩
  have H93 := Lib.hid (H9.out.ex hz)
  have HX3 : Hid (Ex W2 W3) := ((Ex.refl _).alloc _).trans hz
  clear hz
  clear lz r0 f0 r1 f1 r2 f2 r3 f3 r4 f4 r5 f5 lq q0 q1 g0 g1
  clear lb c0 c1 c2 c3
  have lz := (HS3.out.2.1).lt
  have r0 := (HS3.out.2.1).cell 0
  have f0 := (HS3.out.2.1).frozen 0
  have r1 := (HS3.out.2.1).cell 1
  have f1 := (HS3.out.2.1).frozen 1
  have r2 := (HS3.out.2.1).cell 2
  have f2 := (HS3.out.2.1).frozen 2
  have r3 := (HS3.out.2.1).cell 3
  have f3 := (HS3.out.2.1).frozen 3
  have r4 := (HS3.out.2.1).cell 4
  have f4 := (HS3.out.2.1).frozen 4
  have r5 := (HS3.out.2.1).cell 5
  have f5 := (HS3.out.2.1).frozen 5
  simp only [List.getElem?_cons_zero, List.getElem?_cons_succ] at r0 r1 r2 r3 r4 r5
  have lq := (HS3.out.2.2).lt
  have q0 := (HS3.out.2.2).cell 0
  have q1 := (HS3.out.2.2).cell 1
  have g0 := (HS3.out.2.2).frozen 0
  have g1 := (HS3.out.2.2).frozen 1
  simp only [List.getElem?_cons_zero, List.getElem?_cons_succ] at q0 q1
  have yl := (H93.out).lt
  have y0 := (H93.out).cell 0
  have y1 := (H93.out).cell 1
  have y2 := (H93.out).cell 2
  have y3 := (H93.out).cell 3
  have y4 := (H93.out).cell 4
  have y5 := (H93.out).cell 5
  simp only [List.getElem?_cons_zero, List.getElem?_cons_succ] at y0 y1 y2 y3 y4 y5
  go_wp2_with fail
  refine (HDp.out _ HX3.out).mono ?_
  rintro e W4 ⟨rfl, hz⟩
  have HS4 : Hid (Ex w W4 ∧ Zero6 W4 w.heap.size ∧ Blk W4 nb 39 [.int .i64 0, .int .i64 0]) := ⟨(HS3.out.1).trans hz, (HS3.out.2.1).ex hz, (HS3.out.2.2).ex hz⟩
  have H94 := Lib.hid (H93.out.ex hz)
  have HX4 : Hid (Ex W2 W4) := HX3.out.trans hz
  clear hz
  clear lz r0 f0 r1 f1 r2 f2 r3 f3 r4 f4 r5 f5 lq q0 q1 g0 g1
  clear yl y0 y1 y2 y3 y4 y5
  have lz := (HS4.out.2.1).lt
  have r0 := (HS4.out.2.1).cell 0
  have f0 := (HS4.out.2.1).frozen 0
  have r1 := (HS4.out.2.1).cell 1
  have f1 := (HS4.out.2.1).frozen 1
  have r2 := (HS4.out.2.1).cell 2
  have f2 := (HS4.out.2.1).frozen 2
  have r3 := (HS4.out.2.1).cell 3
  have f3 := (HS4.out.2.1).frozen 3
  have r4 := (HS4.out.2.1).cell 4
  have f4 := (HS4.out.2.1).frozen 4
  have r5 := (HS4.out.2.1).cell 5
  have f5 := (HS4.out.2.1).frozen 5
  simp only [List.getElem?_cons_zero, List.getElem?_cons_succ] at r0 r1 r2 r3 r4 r5
  have lq := (HS4.out.2.2).lt
  have q0 := (HS4.out.2.2).cell 0
  have q1 := (HS4.out.2.2).cell 1
  have g0 := (HS4.out.2.2).frozen 0
  have g1 := (HS4.out.2.2).frozen 1
  simp only [List.getElem?_cons_zero, List.getElem?_cons_succ] at q0 q1
  have yl := (H94.out).lt
  have y0 := (H94.out).cell 0
  have y1 := (H94.out).cell 1
  have y2 := (H94.out).cell 2
  have y3 := (H94.out).cell 3
  have y4 := (H94.out).cell 4
  have y5 := (H94.out).cell 5
  simp only [List.getElem?_cons_zero, List.getElem?_cons_succ] at y0 y1 y2 y3 y4 y5
  have HT4 := Lib.hid (HT9.out.ex HX4.out)
  go_wp2_with fail
  have hb1 := (blk8 HS4.out.2.1 HNE.out (.int .i64 k9) (.int .i64 n9) (.int .i64 p9) (.int .i64 q9) (.string s9) (.slice A9 m9 c9) (.int .i64 0) (.int .i64 0))
  have hb2 := (blk8p HS4.out.2.2 (Ne.symm HNE.out) (.int .i64 k9) (.int .i64 n9) (.int .i64 p9) (.int .i64 q9) (.string s9) (.slice A9 m9 c9) (.int .i64 0) (.int .i64 0))
  have HE := Lib.hid ((ex8 HS4.out.1 (Nat.le_refl _) HLE.out (.int .i64 k9) (.int .i64 n9) (.int .i64 p9) (.int .i64 q9) (.string s9) (.slice A9 m9 c9) (.int .i64 0) (.int .i64 0)))
  refine bodyPost_ret (results_parse rfl rfl rfl rfl hb1 hb2) rfl ?_
  exact ⟨k9, n9, p9, q9, s9, A9, m9, c9, rfl, (tree8 HT4.out (fun b h => h.2.1) (fun b h => h.2.2) _ _ _ _ _ _ _ _).imp (fun b _ h => h.1), HE.out⟩
theorem at_ks {ws : List Wd} {j : Nat} {x : Wd} (hx : ws[j]? = some x) : atW ws (ksAt ws j) = x := by
  have hj := (List.getElem?_eq_some_iff.1 hx)
  unfold atW ksAt
  rw [List.length_map, List.length_drop, show ws.length - (ws.length - j) = j by have := hj.1; omega, List.drop_eq_getElem_cons hj.1, hj.2]
  rfl
set_option maxHeartbeats 1600000 in
theorem rParse_c (s : ByteArray) (w : World) (hl : s.size ≤ 16384) : Calls Tryz.prog 25 #[.string s] w (ParseR w (parseO s.data.toList)) := by
  unfold parseO
  rw [if_neg (by rw [← size_data]; omega)]
  have HW := fun w' (_ : Ex w w') => rWords_c s w' hl
  cases hx : lexL 1000 s.data.toList (1, 1) with
  | bad p n =>
    rw [hx] at HW
    exact rparse_lex s w p n (lex_bad_ne _ _ _ _ _ hx) HW
  | ok ws =>
    rw [hx] at HW
    obtain ⟨hwf, hlen⟩ := lex_wf hx (by rw [← size_data]; omega)
    have hpos : 0 < ws.length := by obtain ⟨x, r, rfl⟩ := hwf.cons; simp
    have hc := fun W b cc (h : Rw W b 0 (wdsV ws)) => rparse_c (10 * ws.length + 8) 0 ws b 0 cc 0 W (by omega) hwf h (by omega) hpos (by omega)
    have e0 : ksAt ws 0 = ws.map key := by unfold ksAt; rw [List.drop_zero]
    have hat := pz_at hwf hpos (10 * ws.length + 8) 0 none
    rw [e0] at hat
    rw [e0, show pz (10 * ws.length + 8) 0 none (ws.map key) = parse (ws.map key) by unfold parse; rw [List.length_map]] at hc
    rw [show pz (10 * ws.length + 8) 0 none (ws.map key) = parse (ws.map key) by unfold parse; rw [List.length_map]] at hat
    have hc' : ∀ W b cc, Rw W b 0 (wdsV ws) → Calls Tryz.prog 53 #[.slice (some ⟨b, 0, none⟩) ws.length cc, .int .i64 0, .int .i64 0] W (ParR W ws (parse (ws.map key))) := hc
    show Calls _ _ _ _ (ParseR w (treeO ws (parse (ws.map key))))
    cases hp : parse (ws.map key) with
    | stuck => exact absurd hp (parse_not _)
    | bad r =>
      rw [hp] at hc'
      obtain ⟨j, hj, rfl⟩ := hat (nd 0 []) r (.inr hp)
      obtain ⟨xj, hxj⟩ : ∃ x, ws[j]? = some x := ⟨_, List.getElem?_eq_getElem hj⟩
      unfold treeO
      dsimp only
      rw [at_ks hxj]
      by_cases hk : xj.kind = 4
      · rw [show errAt xj = 4 from if_pos hk]
        exact rparse_bad4 s w ws j xj hwf hxj (by omega) HW (fun W b cc h => (hc' W b cc h).mono fun e w2 h => bad_par hj h) hk
      · rw [show errAt xj = 3 from if_neg hk]
        exact rparse_bad3 s w ws j xj hwf hxj (by omega) HW (fun W b cc h => (hc' W b cc h).mono fun e w2 h => bad_par hj h) hk
    | ok t r =>
      have hsz := parse_size hp
      rw [List.length_map] at hsz
      rw [hp] at hc'
      obtain ⟨j, hj, rfl⟩ := hat t r (.inl hp)
      obtain ⟨xj, hxj⟩ : ∃ x, ws[j]? = some x := ⟨_, List.getElem?_eq_getElem hj⟩
      have hc2 := fun W b cc (h : Rw W b 0 (wdsV ws)) => (hc' W b cc h).mono fun e w2 h => tree_par hj h
      unfold treeO
      dsimp only
      rw [hd_at hxj, at_ks hxj]
      by_cases hk : xj.kind = 4
      · rw [if_pos (show (key xj).1 = 4 from hk)]
        by_cases h1 : t.size ≤ 200
        · by_cases h2 : t.depth ≤ 20
          · rw [if_pos (by unfold smallB; rw [decide_eq_true h1, decide_eq_true h2]; rfl)]
            exact rparse_tree s w ws j xj hwf hxj (by omega) HW t hc2 (by omega) hk h1 h2
          · rw [if_neg (by unfold smallB; rw [decide_eq_false h2]; simp)]
            exact rparse_full2 s w ws j xj hwf hxj (by omega) HW t hc2 (by omega) hk h1 (by omega)
        · rw [if_neg (by unfold smallB; rw [decide_eq_false h1]; simp)]
          exact rparse_full1 s w ws j xj hwf hxj (by omega) HW t hc2 (by omega) hk (by omega)
      · rw [if_neg (show ¬ (key xj).1 = 4 from hk), show errAt xj = 3 from if_neg hk]
        exact rparse_left s w ws j xj hwf hxj (by omega) HW t hc2 hk
end Go.Proofs.YthjalkonlcjhnaaGreatDoor
