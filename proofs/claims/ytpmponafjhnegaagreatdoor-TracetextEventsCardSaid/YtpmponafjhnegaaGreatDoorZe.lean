/-
  The reference's find and ParseName, walked. The reference's ParseEvent, walked. The law Events, walked.
  Conditions: as each theorem says.
-/
import Derived.Test.YtpmponafjhnegaaGreatDoorWq
import Derived.Test.YtpmponafjhnegaaGreatDoorZa
import Derived.Test.YtpmponafjhnegaaGreatDoorWf
import Derived.Test.YtpmponafjhnegaaGreatDoorWi
import Derived.Deep.Cut
namespace Go.Proofs.YtpmponafjhnegaaGreatDoor
section
open Go.RowKit Nu
theorem rpnEnd {W w1 : World} {g : Nat} {x : Int × Int × Int} {tmps : Array Value} {a b : Value} (hx : Ex W w1) (hg : W.heap.size ≤ g) (hB : Blk w1 g 40 [a, b]) (hp : tmps.getD 4 undef = .pointer (some ⟨g, 0, none⟩)) (hs : tmps.getD 5 undef = .int .i64 x.2.2) :
    bodyPost Tryz.prog Tryz.f30 (Ret W (pnW x)) .ret ⟨tmps, []⟩ ((w1.setCell ⟨g, 0, none⟩ (.int .i64 x.1)).setCell ⟨g, 1, none⟩ (.int .i64 x.2.1)) := by
  have b1 := (hB.set_ 0 (.int .i64 x.1)).set_ 1 (.int .i64 x.2.1)
  have hX := (hx.setCell (p := ⟨g, 0, none⟩) hg (.int .i64 x.1)).setCell (p := ⟨g, 1, none⟩) hg (.int .i64 x.2.1)
  exact bodyPost_ret (results_pn rfl hp hs b1) rfl (Ret.mk rfl hX)
theorem pn_none {t : List Pr} {l : List UInt8} (h : cutC 46 l = none) : pnO t l = (0, 0, 3) := by
  unfold pnO cutG
  rw [h, if_pos (.inl rfl)]
theorem pn_some {t : List Pr} {l a b : List UInt8} (h : cutC 46 l = some (a, b)) : pnO t l = (if nameB (bs a) = false ∨ parE b = 3 ∨ Lib.hasPrefix b [45] = true then ((0, 0, 3) : Int × Int × Int)
  else match pIdx (bs a) (t.map (·.name)) with
    | none => (0, 0, 13)
    | some q => if parE b ≠ 0 ∨ parV b < 1 ∨ (evN t q : Int) < parV b then (0, 0, 2) else ((q : Int), parV b, 0)) := by
  unfold pnO cutG
  rw [h]
  have : ((true : Bool) = false ∨ nameB (bs a) = false ∨ parE b = 3 ∨ Lib.hasPrefix b [45] = true) ↔ (nameB (bs a) = false ∨ parE b = 3 ∨ Lib.hasPrefix b [45] = true) := ⟨fun h => h.elim (fun h => absurd h (by decide)) id, .inr⟩
  simp only [this]
  first | rfl | (split <;> first | rfl | (split <;> rfl))
set_option maxRecDepth 100000 in
set_option maxHeartbeats 6400000 in
theorem rpname_none (t : List Pr) (A : Option Addr) (c : Nat) (s : ByteArray) (w : World) (hs : s.size ≤ 10000) (hc : cutC 46 s.data.toList = none) :
    Calls Tryz.prog 30 #[.agg #[.slice A t.length c], .string s] w (Ret w (pnW (0, 0, 3))) := by
  have HNe : Hid (∀ k, (h : k < s.size) → ((s[k].toNat : Int) == 46) = false) := fun k h => by
    have h1 := cutC_none.1 hc
    have h2 := List.mem_of_getElem? (get_idx h)
    apply beq_eq_false_iff_ne.2
    intro h3
    apply h1
    have : s[k] = 46 := by rw [← UInt8.toNat_inj]; show s[k].toNat = 46; omega
    rwa [this] at h2
  obtain ⟨W1, hW1⟩ : ∃ W1, W1 = (w.alloc (.cells #[.slice A t.length c] 24)).alloc (.cells #[.int .i64 0, .int .i64 0] 40) := ⟨_, rfl⟩
  have hX1 : Ex w W1 := by rw [hW1]; exact ((Ex.refl w).alloc _).alloc _
  have hz1 : ∀ o : Obj, (w.alloc o).heap.size = w.heap.size + 1 := fun o => Array.size_push _
  have hB2 : Blk W1 (w.heap.size + 1) 40 [.int .i64 0, .int .i64 0] := by rw [hW1, ← hz1]; exact Blk.new _ _ _
  have HW1 := Lib.hid hW1
  have HX1 := Lib.hid hX1
  have HB2 := Lib.hid hB2
  clear hc hW1 hX1 hB2 hz1
  go_enter Tryz.func30, Tryz.ntmps30
  go_upto_region 1 with fail
  rw [← HW1.out]
  go_wp2_with fail
  go_loopg [6] s.size (fun gg q wr => ∃ k : Nat, q = .int .i64 (k : Int) ∧ k ≤ s.size ∧ s.size ≤ k + gg ∧ Hid (Ex W1 wr))
  case atStart => exact ⟨0, rfl, Nat.zero_le _, by omega, Lib.hid (Ex.refl _)⟩
  case round =>
    obtain ⟨k, rfl, hk, hkg, HH⟩ := hrel
    by_cases hkl : k < s.size
    · obtain ⟨n8, rfl⟩ : ∃ n8, gk = n8 + 1 := ⟨gk - 1, by omega⟩
      have m1 : (k : Int) < (s.size : Int) := by omega
      have c1 := HNe.out k hkl
      have c2 : ((s[k].toNat : Int) != 46) = true := by unfold bne; rw [c1]; rfl
      go_wp2_with fail
      go_roundg n8
      case measure => omega
      case rel => exact ⟨k + 1, by go_num, by omega, by omega, HH⟩
    · obtain rfl : k = s.size := by omega
      have m1 : decide ((s.size : Int) < (s.size : Int)) = false := decide_eq_false (by omega)
      have hB := HB2.out.ex HH.out
      have HB := Lib.hid hB
      have f0 := hB.frozen 0
      have f1 := hB.frozen 1
      have z0 := hB.cell 0
      have z1 := hB.cell 1
      have zl := hB.lt
      clear hB
      go_wp2_with fail
      exact rpnEnd (x := (0, 0, 3)) (HX1.out.trans HH.out) (by omega) HB.out rfl rfl
set_option maxRecDepth 100000 in
set_option maxHeartbeats 12800000 in
theorem rpname_some (t : List Pr) (A : Option Addr) (c : Nat) (s : ByteArray) (a b : List UInt8) (w : World) (hT : TcC w A t) (hs : TSm t) (hl : s.size ≤ 10000) (hc : cutC 46 s.data.toList = some (a, b)) :
    Calls Tryz.prog 30 #[.agg #[.slice A t.length c], .string s] w (Ret w (pnW (pnO t s.data.toList))) := by
  have htl := hs.procs
  have HO := Lib.hid (pn_some (t := t) hc)
  obtain ⟨hsl, hna⟩ := cutC_some hc
  have hsz : s.size = a.length + 1 + b.length := by rw [size_data, hsl]; simp; omega
  have HNe : Hid (∀ k, (h : k < s.size) → k < a.length → ((s[k].toNat : Int) == 46) = false) := fun k h hk => by
    have h2 := get_idx h
    rw [hsl, List.getElem?_append_left hk] at h2
    apply beq_eq_false_iff_ne.2
    intro h3
    apply hna
    have h4 : s[k] = 46 := by rw [← UInt8.toNat_inj]; show s[k].toNat = 46; omega
    rw [h4] at h2
    exact List.mem_of_getElem? h2
  have HEq : Hid (∀ k, (h : k < s.size) → k = a.length → ((s[k].toNat : Int) == 46) = true) := fun k h hk => by
    subst hk
    have h2 := get_idx h
    rw [hsl, List.getElem?_append_right (Nat.le_refl _), Nat.sub_self] at h2
    have h4 : s[a.length] = 46 := (Option.some.inj h2).symm
    rw [h4]; rfl
  have HMi : Hid (∀ m, (h : m < s.size) → m = a.length + 1 → ((s[m].toNat : Int) == 45) = Lib.hasPrefix b [45]) := fun m h hm => by
    subst hm
    have h2 := get_idx h
    rw [hsl, List.getElem?_append_right (by omega), show a.length + 1 - a.length = 0 + 1 by omega, List.getElem?_cons_succ] at h2
    cases b with
    | nil => cases h2
    | cons x r =>
      have h4 : s[a.length + 1] = x := (Option.some.inj h2).symm
      rw [h4, Bool.eq_iff_iff, beq_iff_eq]
      have h5 : (Lib.hasPrefix (x :: r) [45] = true) ↔ x = 45 := by simp [Lib.hasPrefix]; exact eq_comm
      rw [h5, ← UInt8.toNat_inj]
      show _ ↔ x.toNat = 45
      omega
  have hEa : s.extract 0 a.length = bs a := by
    apply ByteArray.ext
    apply Array.toList_inj.1
    rw [Lib.extract_data, hsl]
    simp
  have hEb : s.extract (a.length + 1) s.size = bs b := by
    apply ByteArray.ext
    apply Array.toList_inj.1
    rw [Lib.extract_data, hsz, hsl]
    simp
  have HNm := Lib.hid (fun w' => rName_c (bs a) w' (by show a.length ≤ _; unfold maxLen; omega))
  have HNu := Lib.hid (fun w' => rnumber_c (bs b) w' (by show b.length ≤ _; omega))
  have HFi := Lib.hid (fun w' (h : Ex w w') => rfind_c t A c (bs a) w' (hT.ex h) htl)
  have HT := Lib.hid hT
  have hbb : (bs b).data.toList = b := rfl
  rw [hbb] at HNu
  have HBn : Hid (parE b ≠ 3 → 0 < b.length) := fun h => by
    cases b with
    | nil => exact absurd rfl h
    | cons x r => simp
  have HIx : Hid (∀ q, pIdx (bs a) (t.map (·.name)) = some q → q < t.length) := fun q h => by
    have h1 := (List.getElem?_eq_some_iff.1 (pIdx_some h)).1
    rwa [List.length_map] at h1
  obtain ⟨W1, hW1⟩ : ∃ W1, W1 = (w.alloc (.cells #[.slice A t.length c] 24)).alloc (.cells #[.int .i64 0, .int .i64 0] 40) := ⟨_, rfl⟩
  have hX1 : Ex w W1 := by rw [hW1]; exact ((Ex.refl w).alloc _).alloc _
  have hz1 : ∀ o : Obj, (w.alloc o).heap.size = w.heap.size + 1 := fun o => Array.size_push _
  have hB1 : Blk W1 w.heap.size 24 [.slice A t.length c] := by rw [hW1]; exact (Blk.new w _ _).alloc _
  have hB2 : Blk W1 (w.heap.size + 1) 40 [.int .i64 0, .int .i64 0] := by rw [hW1, ← hz1]; exact Blk.new _ _ _
  have HW1 := Lib.hid hW1
  have HX1 := Lib.hid hX1
  have HC1 := Lib.hid hB1
  have HC2 := Lib.hid hB2
  generalize pnO t s.data.toList = R at *
  generalize pIdx (bs a) (t.map (·.name)) = FI at *
  generalize nameB (bs a) = nb at *
  generalize Lib.hasPrefix b [45] = hp at *
  generalize parE b = pe at *
  generalize parV b = pv at *
  obtain ⟨K, hK⟩ : ∃ K, K = a.length := ⟨_, rfl⟩
  rw [← hK] at hsz HNe HEq HMi hEa hEb
  clear hT hs hc hsl hna hW1 hX1 hB1 hB2 hz1 hbb hK
  unfold Two at HNu
  obtain ⟨BL, hBL⟩ : ∃ BL, BL = b.length := ⟨_, rfl⟩
  rw [← hBL] at hsz HBn
  clear hBL
  have HSz := Lib.hid hsz
  clear hsz
  generalize bs a = SA at *
  generalize bs b = SB at *
  go_enter Tryz.func30, Tryz.ntmps30
  go_upto_region 1 with fail
  rw [← HW1.out]
  go_wp2_with fail
  go_loopg [6] K (fun gg q wr => ∃ k : Nat, q = .int .i64 (k : Int) ∧ k ≤ K ∧ K ≤ k + gg ∧ Hid (Ex W1 wr))
  case atStart => exact ⟨0, rfl, Nat.zero_le _, by omega, Lib.hid (Ex.refl _)⟩
  case round =>
    obtain ⟨k, rfl, hk, hkg, HH⟩ := hrel
    have hks : k < s.size := by have h2 := HSz.out; omega
    have m1 : (k : Int) < (s.size : Int) := by omega
    by_cases hkl : k < K
    · obtain ⟨n8, rfl⟩ : ∃ n8, gk = n8 + 1 := ⟨gk - 1, by omega⟩
      have c1 := HNe.out k hks hkl
      have c2 : ((s[k].toNat : Int) != 46) = true := by unfold bne; rw [c1]; rfl
      go_wp2_with fail
      go_roundg n8
      case measure => omega
      case rel => exact ⟨k + 1, by go_num, by omega, by omega, HH⟩
    · obtain rfl : k = K := by omega
      have c1 := HEq.out k hks rfl
      have c2 : ((s[k].toNat : Int) != 46) = false := by unfold bne; rw [c1]; rfl
      have c3 : ((k : Int) == (s.size : Int)) = false := beq_eq_false_iff_ne.2 (by omega)
      have hkz : k ≤ s.size := by omega
      have HX2 := Lib.hid (HX1.out.trans HH.out)
      clear HNe HEq
      go_wp2_with fail
      refine (HNm.out _).mono ?_
      rintro e9 w3 ⟨rfl, hx⟩
      have HY3 := Lib.hid (HH.out.trans hx)
      have HX3 := Lib.hid (HX2.out.trans hx)
      clear hx HNm c1 c2
      cases nb with
      | false =>
        have hR : R = (0, 0, 3) := by rw [HO.out, if_pos (.inl rfl)]
        subst hR
        have hB := HC2.out.ex HY3.out
        have HB := Lib.hid hB
        have f0 := hB.frozen 0
        have f1 := hB.frozen 1
        have z0 := hB.cell 0
        have z1 := hB.cell 1
        have zl := hB.lt
        clear hB HO
        go_wp2_with fail
        exact rpnEnd (x := (0, 0, 3)) HX3.out (by omega) HB.out rfl rfl
      | true =>
        obtain ⟨m, hm⟩ : ∃ m, m = k + 1 := ⟨_, rfl⟩
        have q1 : IntKind.i64.wrap ((k : Int) + 1) = (m : Int) := by rw [hm, IntWalk.i64_in _ (by omega)]; omega
        rw [← hm] at hEb
        have hmz : m ≤ s.size := by omega
        have HMj := Lib.hid (fun h => HMi.out m h hm)
        have Hm := Lib.hid hm
        clear HMi hm
        go_wp2_with fail
        refine (HNu.out _).mono ?_
        rintro e9 w4 ⟨rfl, hx⟩
        have HY4 := Lib.hid (HY3.out.trans hx)
        have HX4 := Lib.hid (HX3.out.trans hx)
        clear hx HNu HY3 HX3
        by_cases h3 : pe = 3
        · have hR : R = (0, 0, 3) := by rw [HO.out, if_pos (.inr (.inl h3))]
          subst hR
          have c3 : (pe == 3) = true := beq_iff_eq.2 h3
          have hB := HC2.out.ex HY4.out
          have HB := Lib.hid hB
          have f0 := hB.frozen 0
          have f1 := hB.frozen 1
          have z0 := hB.cell 0
          have z1 := hB.cell 1
          have zl := hB.lt
          clear hB HO h3
          go_wp2_with fail
          exact rpnEnd (x := (0, 0, 3)) HX4.out (by omega) HB.out rfl rfl
        have c3 : (pe == 3) = false := beq_eq_false_iff_ne.2 h3
        have hbl := HBn.out h3
        have hms : m < s.size := by have h1 := Hm.out; have h2 := HSz.out; omega
        have mi := HMj.out hms
        have m2 : (m : Int) < (s.size : Int) := by omega
        cases hp with
        | true =>
          have hR : R = (0, 0, 3) := by rw [HO.out, if_pos (.inr (.inr rfl))]
          subst hR
          have hB := HC2.out.ex HY4.out
          have HB := Lib.hid hB
          have f0 := hB.frozen 0
          have f1 := hB.frozen 1
          have z0 := hB.cell 0
          have z1 := hB.cell 1
          have zl := hB.lt
          clear hB HO h3
          go_wp2_with fail
          exact rpnEnd (x := (0, 0, 3)) HX4.out (by omega) HB.out rfl rfl
        | false =>
          have hO2 := HO.out
          rw [if_neg (by simp [h3])] at hO2
          have HO2 := Lib.hid hO2
          have x0 := (HC1.out.ex HY4.out).cell 0
          have xl := (HC1.out.ex HY4.out).lt
          clear hO2 HO h3
          cases FI with
          | none =>
            have hR : R = (0, 0, 13) := HO2.out
            subst hR
            have HFj : Hid (∀ w', Ex w w' → Calls Tryz.prog 62 #[.agg #[.slice A t.length c], .string SA] w' (Ret w' (.int .i64 (-1)))) := HFi
            go_upto_region 9 with fail
            go_region_held3 (fun (w' : World) => w'.cell? ⟨w.heap.size, 0, none⟩ = some (.slice A t.length c))
              (first | exact x0 | exact d0 | go_keep)
              (first
                | (go_at_call 62; refine (HFj.out _ (by first | exact HX4.out | exact HX4.out.drew | exact HX4.out.drew.drew)).mono ?_; rintro e9 w7 ⟨rfl, hx6⟩; have HZ := Lib.hid (Ex.trans (by first | exact Ex.refl w4 | exact (Ex.refl w4).drew | exact (Ex.refl w4).drew.drew) hx6); have d0 := (HC1.out.ex (HY4.out.trans HZ.out)).cell 0; clear hx6))
            have hB := (HC2.out.ex HY4.out).ex HZ.out
            have HB := Lib.hid hB
            have f0 := hB.frozen 0
            have f1 := hB.frozen 1
            have z0 := hB.cell 0
            have z1 := hB.cell 1
            have zl := hB.lt
            clear hB x0 xl d0
            go_wp2_with fail
            exact rpnEnd (x := (0, 0, 13)) (HX4.out.trans HZ.out) (by omega) HB.out rfl rfl
          | some q =>
            have hql := HIx.out q rfl
            have HFj : Hid (∀ w', Ex w w' → Calls Tryz.prog 62 #[.agg #[.slice A t.length c], .string SA] w' (Ret w' (.int .i64 (q : Int)))) := HFi
            have b3 : decide ((q : Int) < 0) = false := decide_eq_false (by omega)
            have hO3 : R = if pe ≠ 0 ∨ pv < 1 ∨ (evN t q : Int) < pv then (0, 0, 2) else ((q : Int), pv, 0) := HO2.out
            have HO3 := Lib.hid hO3
            clear hO3 HO2 HFi HIx
            go_upto_region 9 with fail
            go_region_held3 (fun (w' : World) => w'.cell? ⟨w.heap.size, 0, none⟩ = some (.slice A t.length c))
              (first | exact x0 | exact d0 | go_keep)
              (first
                | (go_at_call 62; refine (HFj.out _ (by first | exact HX4.out | exact HX4.out.drew | exact HX4.out.drew.drew)).mono ?_; rintro e9 w7 ⟨rfl, hx6⟩; have HZ := Lib.hid (Ex.trans (by first | exact Ex.refl w4 | exact (Ex.refl w4).drew | exact (Ex.refl w4).drew.drew) hx6); have d0 := (HC1.out.ex (HY4.out.trans HZ.out)).cell 0; clear hx6))
            have HX7 := Lib.hid (HX4.out.trans HZ.out)
            have HY7 := Lib.hid (HY4.out.trans HZ.out)
            clear x0 xl HFj HZ d0
            have hB := HC2.out.ex HY7.out
            have HB := Lib.hid hB
            have f0 := hB.frozen 0
            have f1 := hB.frozen 1
            have z0 := hB.cell 0
            have z1 := hB.cell 1
            have zl := hB.lt
            clear hB
            by_cases h1 : pe = 0
            case neg =>
              have hR : R = (0, 0, 2) := by rw [HO3.out, if_pos (.inl h1)]
              subst hR
              have d1 : (pe != 0) = true := bne_iff_ne.2 h1
              clear HO3 h1
              go_wp2_with fail
              exact rpnEnd (x := (0, 0, 2)) HX7.out (by omega) HB.out rfl rfl
            have d1 : (pe != 0) = false := by rw [h1]; rfl
            by_cases h2 : pv < 1
            · have hR : R = (0, 0, 2) := by rw [HO3.out, if_pos (.inr (.inl h2))]
              subst hR
              have d2 : decide (pv < 1) = true := decide_eq_true h2
              clear HO3 h1 h2
              go_wp2_with fail
              exact rpnEnd (x := (0, 0, 2)) HX7.out (by omega) HB.out rfl rfl
            have d2 : decide (pv < 1) = false := decide_eq_false h2
            obtain ⟨x, hx⟩ : ∃ x, t[q]? = some x := ⟨_, List.getElem?_eq_getElem hql⟩
            have hen : evN t q = x.evs.length := by unfold evN; rw [hx]
            obtain ⟨b4, o4, hA, hbl4, V, vc, E, ec, -, -, g2, -, -⟩ := HT.out.ex HX7.out q x hx
            subst hA
            have x0 := (HC1.out.ex HY7.out).cell 0
            have xl := (HC1.out.ex HY7.out).lt
            have m0 : (0 : Int) ≤ (q : Int) := by omega
            have m1 : (q : Int) < (t.length : Int) := by omega
            by_cases h4 : (x.evs.length : Int) < pv
            · have hR : R = (0, 0, 2) := by rw [HO3.out, if_pos (.inr (.inr (by rw [hen]; exact h4)))]
              subst hR
              have d4 : decide ((x.evs.length : Int) < pv) = true := decide_eq_true h4
              clear HO3 h1 h2 h4 hx hen
              go_wp2_with fail
              exact rpnEnd (x := (0, 0, 2)) HX7.out (by omega) HB.out rfl rfl
            · have hR : R = ((q : Int), pv, 0) := by rw [HO3.out, if_neg (by rw [hen]; rintro (h | h | h); exact h h1; exact h2 h; exact h4 h)]
              subst hR
              have d4 : decide ((x.evs.length : Int) < pv) = false := decide_eq_false h4
              clear HO3 h1 h2 h4 hx hen
              go_wp2_with fail
              exact rpnEnd (x := ((q : Int), pv, 0)) HX7.out (by omega) HB.out rfl rfl
theorem rpname_c (t : List Pr) (A : Option Addr) (c : Nat) (s : ByteArray) (w : World) (hT : TcC w A t) (hs : TSm t) (hl : s.size ≤ 10000) :
    Calls Tryz.prog 30 #[.agg #[.slice A t.length c], .string s] w (Ret w (pnW (pnO t s.data.toList))) := by
  cases hc : cutC 46 s.data.toList with
  | none => rw [pn_none hc]; exact rpname_none t A c s w hl hc
  | some x => obtain ⟨a, b⟩ := x; exact rpname_some t A c s a b w hT hs hl hc
end
section
open Go.RowKit Nu
noncomputable def rpevO (t : List Pr) (q : Nat) (l : List UInt8) : Ev × Int := if 16384 < l.length then (ev0, 5) else match t[q]? with
  | none => (ev0, 2)
  | some x => pevO t x l
theorem rpevErr {W w1 : World} {g : Nat} {er : Int} {tmps : Array Value} {a b c d e : Value} (hx : Ex W w1) (hg : W.heap.size ≤ g) (hB : Blk w1 g 38 [a, b, c, d, e]) (hp : tmps.getD 6 undef = .pointer (some ⟨g, 0, none⟩)) (hs : tmps.getD 7 undef = .int .i64 er) :
    bodyPost Tryz.prog Tryz.f29 (PevR W (ev0, er)) .ret ⟨tmps, []⟩ (put5 w1 g (.int .i64 0) (.int .i64 0) (.int .i64 0) (.int .i64 0) (.slice none 0 0)) :=
  bodyPost_ret (results_pev rfl hp hs (put5_blk hB)) rfl ⟨none, 0, rfl, .inl rfl, put5_ex hx hg⟩
theorem rpevOk {W w1 : World} {g base : Nat} {x : Ev} {B : Option Addr} {bc : Nat} {tmps : Array Value} {a b c d e : Value} (hx : Ex W w1) (hg : W.heap.size ≤ g) (hB : Blk w1 g 38 [a, b, c, d, e]) (hO : OwnO w1 base 102 2 (.slice B x.asg.length bc) x.asg.length (asgV x.asg)) (hp : tmps.getD 6 undef = .pointer (some ⟨g, 0, none⟩)) (hs : tmps.getD 7 undef = .int .i64 0) :
    bodyPost Tryz.prog Tryz.f29 (PevR W (x, 0)) .ret ⟨tmps, []⟩ (put5 w1 g (.int .i64 x.kind) (.int .i64 x.peer) (.int .i64 x.msg) (.int .i64 x.time) (.slice B x.asg.length bc)) :=
  bodyPost_ret (results_pev rfl hp hs (put5_blk hB)) rfl ⟨B, bc, rfl, OwnO.row' (put5_own hO hB), put5_ex hx hg⟩
/-- a peer is named exactly where the event is no local one -/
theorem evL_peer {vars : List (ByteArray × Int)} {l : List UInt8} {col : Nat} {S : ES} (h : evL vars l col = .ok S) : decide (S.peer.size = 0) = decide (S.kind = 1) := by
  obtain ⟨hk, ho, -⟩ := evL_inv h
  by_cases h1 : S.kind = 1
  · rw [decide_eq_true h1, (ho.loc h1).1]
    exact decide_eq_true rfl
  · rw [decide_eq_false h1]
    exact decide_eq_false (name_pos (ho.nm h1 (by omega)))
set_option maxRecDepth 100000 in
set_option maxHeartbeats 12800000 in
theorem rpev_c (t : List Pr) (A : Option Addr) (c : Nat) (q : Nat) (l : List UInt8) (w : World) (hT : TcC w A t) (hs : TSm t) (hq : q < t.length) (hl : l.length ≤ 19000) (hvb : ∀ x ∈ t, x.vars.length ≤ 20000) :
    Calls Tryz.prog 29 #[.agg #[.slice A t.length c], .int .i64 (q : Int), .string (bs l)] w (PevR w (rpevO t q l)) := by
  have HT := Lib.hid hT
  have htl := hs.procs
  have hsl : (bs l).size = l.length := rfl
  obtain ⟨W1, hW1⟩ : ∃ W1, W1 = (w.alloc (.cells #[.slice A t.length c] 24)).alloc (.cells #[.int .i64 0, .int .i64 0, .int .i64 0, .int .i64 0, .slice none 0 0] 38) := ⟨_, rfl⟩
  have hX1 : Ex w W1 := by rw [hW1]; exact ((Ex.refl w).alloc _).alloc _
  have hz1 : ∀ o : Obj, (w.alloc o).heap.size = w.heap.size + 1 := fun o => Array.size_push _
  have hB1 : Blk W1 w.heap.size 24 [.slice A t.length c] := by rw [hW1]; exact (Blk.new w _ _).alloc _
  have hB2 : Blk W1 (w.heap.size + 1) 38 [.int .i64 0, .int .i64 0, .int .i64 0, .int .i64 0, .slice none 0 0] := by rw [hW1, ← hz1]; exact Blk.new _ _ _
  have HW1 := Lib.hid hW1
  have HX2 := Lib.hid hX1
  have HC1 := Lib.hid hB1
  have HC2 := Lib.hid hB2
  have x0 := hB1.cell 0
  have xl := hB1.lt
  obtain ⟨x, hx⟩ : ∃ x, t[q]? = some x := ⟨_, List.getElem?_eq_getElem hq⟩
  obtain ⟨R, hRR⟩ : ∃ R, R = rpevO t q l := ⟨_, rfl⟩
  rw [← hRR]
  unfold rpevO at hRR
  rw [hx] at hRR
  dsimp only at hRR
  have HR := Lib.hid hRR
  have hvx := hvb x (List.mem_of_getElem? hx)
  obtain ⟨b4, o4, hA, hbl, V, vc, E, ec, g0, g1, g2, ⟨hV, -, -⟩, -⟩ := HT.out q x hx
  subst hA
  have f0 := hB2.frozen 0
  have f1 := hB2.frozen 1
  have f2 := hB2.frozen 2
  have f3 := hB2.frozen 3
  have f4 := hB2.frozen 4
  have z0 := hB2.cell 0
  have z1 := hB2.cell 1
  have z2 := hB2.cell 2
  have z3 := hB2.cell 3
  have z4 := hB2.cell 4
  have zl := hB2.lt
  clear hRR hT hs hW1 hX1 hB1 hB2 hz1
  have m0 : (0 : Int) ≤ (q : Int) := by omega
  have m1 : (q : Int) < (t.length : Int) := by omega
  have k1 : W1.cell? ⟨b4, o4 + q * 3 + 1, none⟩ = some (.slice V x.vars.length vc) := (HX2.out.below.cell hbl).trans g1
  have kl : b4 < W1.heap.size := Nat.lt_of_lt_of_le hbl HX2.out.below.size
  have HEv := Lib.hid (revent_c l 1 x.vars V vc W1 (by omega) (by omega) (hV.ex HX2.out) hvx)
  have HEP := Lib.hid (rEvent_plain x.vars l 1 (spl 32 l).length (Nat.le_refl _))
  unfold REvR REvV at HEv
  generalize evR x.vars (spl 32 l) 1 (1 + l.length) (spl 32 l).length ⟨0, 0, 0⟩ = F at *
  clear g0 g1 g2 hV hbl hx hvx hvb
  go_enter Tryz.func29, Tryz.ntmps29
  go_upto_region 1 with fail
  rw [← HW1.out]
  by_cases h3 : 16384 < l.length
  · have hR : R = (ev0, 5) := by rw [HR.out, if_pos h3]
    subst hR
    have d3 : decide ((16384 : Int) < (l.length : Int)) = true := decide_eq_true (by omega)
    clear HR HEv HEP h3
    go_wp2_with fail
    exact rpevErr HX2.out (by omega) HC2.out rfl rfl
  have d3 : decide ((16384 : Int) < (l.length : Int)) = false := decide_eq_false (by omega)
  have hR : R = pevO t x l := by rw [HR.out, if_neg h3]
  have HR2 := Lib.hid hR
  clear hR HR h3
  go_wp2_with fail
  refine (HEv.out).mono ?_
  rintro e9 w4 ⟨B, bc, rfl, ho4, hY4⟩
  have hX4 := HX2.out.trans hY4
  have hB9 := Blk.new w4 117 [.int .i64 F.kind, .int .i64 0, .int .i64 F.msg, .int .i64 F.time, .slice B F.asg.length bc, .string (bs F.peer), .int .i64 (F.pcol : Int)]
  have hX9 : Ex w4 (w4.alloc (.cells #[.int .i64 F.kind, .int .i64 0, .int .i64 F.msg, .int .i64 F.time, .slice B F.asg.length bc, .string (bs F.peer), .int .i64 (F.pcol : Int)] 117)) := (Ex.refl w4).alloc _
  have HO9 := Lib.hid (ho4.ex hX9)
  have HX9 := Lib.hid (hX4.trans hX9)
  have HF1 := Lib.hid ((HC1.out.ex hY4).ex hX9)
  have HF2 := Lib.hid ((HC2.out.ex hY4).ex hX9)
  have hxb : w.heap.size + 1 < w4.heap.size := (HC2.out.ex hY4).lt
  go_upto_region 4 with fail
  obtain ⟨xb, hxe⟩ : ∃ xb, xb = w4.heap.size := ⟨_, rfl⟩
  rw [← hxe] at hB9 hxb ⊢
  have HB9 := Lib.hid hB9
  clear hX9 hB9 hxe ho4 hY4 hX4 x0 xl k1 kl HEv HX2 HW1 f0 f1 f2 f3 f4 z0 z1 z2 z3 z4 zl HC1 HC2
  generalize w4.alloc (.cells #[.int .i64 F.kind, .int .i64 0, .int .i64 F.msg, .int .i64 F.time, .slice B F.asg.length bc, .string (bs F.peer), .int .i64 (F.pcol : Int)] 117) = W9 at *
  have f0 := HF2.out.frozen 0
  have f1 := HF2.out.frozen 1
  have f2 := HF2.out.frozen 2
  have f3 := HF2.out.frozen 3
  have f4 := HF2.out.frozen 4
  have z0 := HF2.out.cell 0
  have z1 := HF2.out.cell 1
  have z2 := HF2.out.cell 2
  have z3 := HF2.out.cell 3
  have z4 := HF2.out.cell 4
  have zl := HF2.out.lt
  have x0 := HF1.out.cell 0
  have xl := HF1.out.lt
  have b0 := HB9.out.cell 0
  have b1 := HB9.out.cell 1
  have b2 := HB9.out.cell 2
  have b3 := HB9.out.cell 3
  have b4' := HB9.out.cell 4
  have b5 := HB9.out.cell 5
  have b6 := HB9.out.cell 6
  have bf := HB9.out.frozen 1
  have bl := HB9.out.lt
  have hRO := HR2.out
  unfold pevO at hRO
  cases hev : evL x.vars l 1 with
  | error y =>
    have hEP := HEP.out
    rw [hev] at hEP hRO
    obtain ⟨he1, he2, he3⟩ := hEP
    dsimp only at hRO
    subst hRO
    rw [he1]
    have be : (y.1 != 0) = true := bne_iff_ne.2 he3
    clear he1 he2 he3 hev HEP
    go_wp2_with fail
    exact rpevErr HX9.out (by omega) HF2.out rfl rfl
  | ok S =>
    have hEP := HEP.out
    have hpk := evL_peer hev
    rw [hev] at hEP hRO
    obtain ⟨he1, s1, s2, s3, s4, s5, s6⟩ := hEP
    dsimp only at hRO
    rw [he1]
    have hevO : evOf S = ⟨F.kind, 0, F.msg, F.time, F.asg⟩ := by unfold evOf; rw [s1, s4, s5, s6]
    rw [hevO, s1, s2] at hRO
    rw [s1, s2] at hpk
    have hne := nonempty_iff (bs F.peer)
    rw [hpk] at hne
    clear hev HEP he1 s1 s2 s3 s4 s5 s6 hevO hpk
    generalize bs F.peer = SP at *
    by_cases hk : F.kind = 1
    · rw [if_pos hk] at hRO
      subst hRO
      rw [decide_eq_true hk] at hne
      clear hk
      go_wp2_with fail
      exact rpevOk (x := ⟨F.kind, 0, F.msg, F.time, F.asg⟩) HX9.out (by omega) HF2.out HO9.out rfl rfl
    rw [if_neg hk] at hRO
    rw [decide_eq_false hk] at hne
    have HFi : Hid (∀ w', Ex w w' → Calls Tryz.prog 62 #[.agg #[.slice (some ⟨b4, o4, none⟩) t.length c], .string SP] w' (Ret w' (.int .i64 (idxV (pIdx SP (t.map (·.name))))))) := fun w' h => rfind_c t (some ⟨b4, o4, none⟩) c SP w' (HT.out.ex h) htl
    cases hz : pIdx SP (t.map (·.name)) with
    | none =>
      rw [hz] at HFi hRO
      dsimp only at hRO
      subst hRO
      have HFj : Hid (∀ w', Ex w w' → Calls Tryz.prog 62 #[.agg #[.slice (some ⟨b4, o4, none⟩) t.length c], .string SP] w' (Ret w' (.int .i64 (-1)))) := HFi
      clear hz HFi hk
      go_wp2_with fail
      refine (HFj.out _ HX9.out).mono ?_
      rintro e9 v1 ⟨rfl, hx⟩
      have HXv := Lib.hid (HX9.out.trans hx)
      have hB6 := HB9.out.ex hx
      have hF6 := HF2.out.ex hx
      clear f0 f1 f2 f3 f4 z0 z1 z2 z3 z4 zl x0 xl b0 b1 b2 b3 b4' b5 b6 bf bl
      have f0 := hF6.frozen 0
      have f1 := hF6.frozen 1
      have f2 := hF6.frozen 2
      have f3 := hF6.frozen 3
      have f4 := hF6.frozen 4
      have z0 := hF6.cell 0
      have z1 := hF6.cell 1
      have z2 := hF6.cell 2
      have z3 := hF6.cell 3
      have z4 := hF6.cell 4
      have zl := hF6.lt
      have b1 := hB6.cell 1
      have bf := hB6.frozen 1
      have bl := hB6.lt
      have hne3 : xb ≠ w.heap.size + 1 := by omega
      have hne2 : w.heap.size + 1 ≠ xb := by omega
      have HF7 := Lib.hid (hF6.far (p := ⟨xb, 1, none⟩) hne2 (.int .i64 (-1)))
      clear hB6 hF6 hx
      go_wp2_with fail
      exact rpevErr (HXv.out.setCell (p := ⟨xb, 1, none⟩) (by show _ ≤ xb; omega) _) (by omega) HF7.out rfl rfl
    | some z =>
      rw [hz] at HFi hRO
      dsimp only at hRO
      subst hRO
      have HFj : Hid (∀ w', Ex w w' → Calls Tryz.prog 62 #[.agg #[.slice (some ⟨b4, o4, none⟩) t.length c], .string SP] w' (Ret w' (.int .i64 (z : Int)))) := HFi
      have dz : decide ((z : Int) < 0) = false := decide_eq_false (by omega)
      clear hz HFi hk
      go_wp2_with fail
      refine (HFj.out _ HX9.out).mono ?_
      rintro e9 v1 ⟨rfl, hx⟩
      have HXv := Lib.hid (HX9.out.trans hx)
      have hB6 := HB9.out.ex hx
      have hF6 := HF2.out.ex hx
      have hO6 := HO9.out.ex hx
      clear f0 f1 f2 f3 f4 z0 z1 z2 z3 z4 zl x0 xl b0 b1 b2 b3 b4' b5 b6 bf bl
      have f0 := hF6.frozen 0
      have f1 := hF6.frozen 1
      have f2 := hF6.frozen 2
      have f3 := hF6.frozen 3
      have f4 := hF6.frozen 4
      have z0 := hF6.cell 0
      have z1 := hF6.cell 1
      have z2 := hF6.cell 2
      have z3 := hF6.cell 3
      have z4 := hF6.cell 4
      have zl := hF6.lt
      have b0 := hB6.cell 0
      have b1 := hB6.cell 1
      have b2 := hB6.cell 2
      have b3 := hB6.cell 3
      have b4' := hB6.cell 4
      have bf := hB6.frozen 1
      have bl := hB6.lt
      have hne3 : xb ≠ w.heap.size + 1 := by omega
      have hne2 : w.heap.size + 1 ≠ xb := by omega
      have HF7 := Lib.hid (hF6.far (p := ⟨xb, 1, none⟩) hne2 (.int .i64 (z : Int)))
      have HO7 := Lib.hid (hO6.chg (Chg.set ⟨_, hB6⟩ 1 (.int .i64 (z : Int))) (by decide))
      clear hB6 hF6 hO6 hx
      go_wp2_with fail
      exact rpevOk (x := ⟨F.kind, (z : Int), F.msg, F.time, F.asg⟩) (HXv.out.setCell (p := ⟨xb, 1, none⟩) (by show _ ≤ xb; omega) _) (by omega) HF7.out HO7.out rfl rfl
end
section
open Go.RowKit Nu
theorem pevO_len (t : List Pr) (x : Pr) (l : List UInt8) : (pevO t x l).1.asg.length ≤ l.length + 1 := by
  unfold pevO
  cases h : evL x.vars l 1 with
  | error y => exact Nat.zero_le _
  | ok S =>
    have h1 := evL_asg h
    dsimp only
    split
    · exact h1
    · split
      · exact Nat.zero_le _
      · exact h1
theorem rpevO_len (t : List Pr) (q : Nat) (l : List UInt8) : (rpevO t q l).1.asg.length ≤ l.length + 1 := by
  unfold rpevO
  split
  · exact Nat.zero_le _
  · split
    · exact Nat.zero_le _
    · exact pevO_len t _ l
theorem pevV_ok {t : List Pr} {q : Nat} {l : List UInt8} (hv : validB t = true) (hq : q < t.length) : pevV t (q : Int) l = rpevO t q l := by
  unfold pevV rpevO
  rw [if_pos hv, if_neg (by omega), Int.toNat_natCast]
  rfl
def evBad (s : ByteArray) (b : Bool) : Bool := !b || ((decide (300 < s.size) && decide (s.size ≤ 16384)) || decide (16484 < s.size))
set_option maxRecDepth 100000 in
set_option maxHeartbeats 6400000 in
theorem events_law (t : List Pr) (A : Option Addr) (c : Nat) (p : Int) (s : ByteArray) (w : World) (hE : Env w) (hT : TcC w A t) (hcap : t.length ≤ c) (htl : t.length ≤ 281474976710656) (hbig : ∀ x, x ∈ t → x.evs.length ≤ 281474976710656) :
    Calls Tryz.prog 8 #[.agg #[.slice A t.length c], .int .i64 p, .string s] w (Ret w (.bool true)) := by
  have HE : Hid (∀ w', Ex w w' → Env w') := fun w' h => hE.ex h
  have HT : Hid (∀ w', Ex w w' → TcC w' A t) := fun w' h => hT.ex h
  have HAw : Hid (∀ w', Ex w w' → Calls Tryz.prog 10 #[] w' (Ret w' (.bool true))) := fun w' h => awake_c w' (hE.ex h)
  have HSc : Hid (∀ w', Ex w w' → Calls Tryz.prog 11 #[.agg #[.slice A t.length c]] w' (Ret w' (.bool (smallB t)))) := fun w' h => small_c t A c w' (hT.ex h) htl hbig
  obtain ⟨W1, hW1⟩ : ∃ W1, W1 = w.alloc (.cells #[.slice A t.length c] 24) := ⟨_, rfl⟩
  have hX1 : Ex w W1 := by rw [hW1]; exact (Ex.refl w).alloc _
  have hB1 : Blk W1 w.heap.size 24 [.slice A t.length c] := by rw [hW1]; exact Blk.new w _ _
  have HW1 := Lib.hid hW1
  have HX1 := Lib.hid hX1
  have HBT : Hid (∀ wx, Ex W1 wx → wx.cell? ⟨w.heap.size, 0, none⟩ = some (.slice A t.length c) ∧ w.heap.size < wx.heap.size) := fun wx h => ⟨(hB1.ex h).cell 0, (hB1.ex h).lt⟩
  have HCp := Lib.hid hcap
  clear hE hT hW1 hX1 hB1 hbig htl hcap
  go_enter Tryz.func8, Tryz.ntmps8
  go_upto_region 1 with fail
  rw [← HW1.out]
  go_wp2_with fail
  refine (HAw.out _ HX1.out).mono ?_
  rintro e9 w2 ⟨rfl, hx⟩
  have HX2 := Lib.hid hx
  clear hx HW1
  obtain ⟨x0, xl⟩ := HBT.out _ HX2.out
  go_upto_region 3 with fail
  go_cut [31] from 14 to 31 (fun b wx => b = .bool (evBad s (smallB t)) ∧ Hid (Ex W1 wx))
  case first =>
    have HSd := Lib.hid (HSc.out _ (HX1.out.trans HX2.out))
    clear HSc
    cases hsm : smallB t with
    | false =>
      rw [hsm] at HSd
      have HB : Hid (evBad s (smallB t) = true) := by rw [hsm]; exact Lib.hid rfl
      clear hsm
      go_wp2_with fail
      refine (HSd.out).mono ?_
      rintro e9 w3 ⟨rfl, hx⟩
      have HX3 := Lib.hid (HX2.out.trans hx)
      clear hx
      go_wp2_with fail
      go_meet
      case rel => exact ⟨by rw [HB.out], HX3⟩
    | true =>
      rw [hsm] at HSd
      have HS0 := Lib.hid hsm
      clear hsm
      by_cases h1 : 300 < s.size
      · have d1 : decide ((300 : Int) < (s.size : Int)) = true := decide_eq_true (by omega)
        have e1 : decide (300 < s.size) = true := decide_eq_true h1
        by_cases h2 : s.size ≤ 16384
        · have d2 : decide ((s.size : Int) ≤ 16384) = true := decide_eq_true (by omega)
          have e2 : decide (s.size ≤ 16384) = true := decide_eq_true h2
          have HB : Hid (evBad s (smallB t) = true) := by unfold evBad; rw [HS0.out, e1, e2]; exact Lib.hid rfl
          go_wp2_with fail
          refine (HSd.out).mono ?_
          rintro e9 w3 ⟨rfl, hx⟩
          have HX3 := Lib.hid (HX2.out.trans hx)
          clear hx
          go_wp2_with fail
          go_meet
          case rel => exact ⟨by rw [HB.out], HX3⟩
        · have d2 : decide ((s.size : Int) ≤ 16384) = false := decide_eq_false (by omega)
          have e2 : decide (s.size ≤ 16384) = false := decide_eq_false h2
          by_cases h3 : 16484 < s.size
          · have d3 : decide ((16484 : Int) < (s.size : Int)) = true := decide_eq_true (by omega)
            have HB : Hid (evBad s (smallB t) = true) := by unfold evBad; rw [HS0.out, e1, e2, decide_eq_true h3]; exact Lib.hid rfl
            go_wp2_with fail
            refine (HSd.out).mono ?_
            rintro e9 w3 ⟨rfl, hx⟩
            have HX3 := Lib.hid (HX2.out.trans hx)
            clear hx
            go_wp2_with fail
            go_meet
            case rel => exact ⟨by rw [HB.out], HX3⟩
          · have d3 : decide ((16484 : Int) < (s.size : Int)) = false := decide_eq_false (by omega)
            have HB : Hid (evBad s (smallB t) = false) := by unfold evBad; rw [HS0.out, e1, e2, decide_eq_false h3]; exact Lib.hid rfl
            go_wp2_with fail
            refine (HSd.out).mono ?_
            rintro e9 w3 ⟨rfl, hx⟩
            have HX3 := Lib.hid (HX2.out.trans hx)
            clear hx
            go_wp2_with fail
            go_meet
            case rel => exact ⟨by rw [HB.out], HX3⟩
      · have d1 : decide ((300 : Int) < (s.size : Int)) = false := decide_eq_false (by omega)
        have e1 : decide (300 < s.size) = false := decide_eq_false h1
        have d3 : decide ((16484 : Int) < (s.size : Int)) = false := decide_eq_false (by omega)
        have HB : Hid (evBad s (smallB t) = false) := by unfold evBad; rw [HS0.out, e1, decide_eq_false (show ¬ 16484 < s.size by omega)]; exact Lib.hid rfl
        go_wp2_with fail
        refine (HSd.out).mono ?_
        rintro e9 w3 ⟨rfl, hx⟩
        have HX3 := Lib.hid (HX2.out.trans hx)
        clear hx
        go_wp2_with fail
        go_meet
        case rel => exact ⟨by rw [HB.out], HX3⟩
  case rest =>
    obtain ⟨rfl, HX3⟩ := hcut
    clear x0 xl HX2
    obtain ⟨x0, xl⟩ := HBT.out _ HX3.out
    cases hbad : evBad s (smallB t) with
    | true =>
      clear hbad HSc HAw
      go_wp2_with fail
      go_ret
      exact Ret.mk rfl (HX1.out.trans HX3.out)
    | false =>
      have hsm : smallB t = true := by
        unfold evBad at hbad
        cases h : smallB t with
        | false => rw [h] at hbad; cases hbad
        | true => rfl
      have hln : s.size ≤ 16484 := by
        unfold evBad at hbad
        rw [hsm] at hbad
        simp only [Bool.not_true, Bool.false_or, Bool.or_eq_false_iff, decide_eq_false_iff_not] at hbad
        omega
      obtain ⟨hts, -, -, hvs⟩ := small_tsm hsm
      have hss : bs s.data.toList = s := by rcases s with ⟨⟨l⟩⟩; rfl
      have hsl : s.data.toList.length = s.size := (size_data s).symm
      have HV := Lib.hid (fun w' (h : Ex w w') => rValid_c t A c w' (HT.out w' h) hts)
      have HPe : Hid (∀ w', Ex w w' → Calls Tryz.prog 17 #[.agg #[.slice A t.length c], .int .i64 p, .string s] w' (PevR w' (pevV t p s.data.toList))) := fun w' h => by
        have h1 := pev_c t A c p s.data.toList w' (HE.out w' h) (HT.out w' h) hts HCp.out (by omega) (fun x hx => ⟨by have := (hvs x hx).1; omega, fun v hv => by have := (hvs x hx).2.2.1 v hv; omega⟩)
        rw [hss] at h1
        exact h1
      have HRe : Hid (∀ (q : Nat), q < t.length → ∀ w', Ex w w' → Calls Tryz.prog 29 #[.agg #[.slice A t.length c], .int .i64 (q : Int), .string s] w' (PevR w' (rpevO t q s.data.toList))) := fun q hq w' h => by
        have h1 := rpev_c t A c q s.data.toList w' (HT.out w' h) hts hq (by omega) (fun x hx => by have := (hvs x hx).1; omega)
        rw [hss] at h1
        exact h1
      have HRl : Hid (∀ q, (rpevO t q s.data.toList).1.asg.length ≤ 100000) := fun q => by have := rpevO_len t q s.data.toList; omega
      have HSe := Lib.hid (fun a b A B ac bc w' hA hB hl hm => sameEv_c a b A B ac bc w' hA hB hl hm)
      clear HSc HAw hbad hsm hts hvs hss hsl hln
      unfold PevR evA9 at *
      go_wp2_with fail
      cases hv : validB t with
      | false =>
        have hp : pevV t p s.data.toList = (ev0, 1) := by unfold pevV; rw [if_neg (by rw [hv]; decide)]
        rw [hp] at HPe
        rw [hv] at HV
        clear hv hp HRe HRl
        dsimp only [ev0] at HPe
        refine (HPe.out _ (HX1.out.trans HX3.out)).mono ?_
        rintro e9 w4 ⟨B, bc, rfl, hr, hx⟩
        have hB := Blk.new w4 38 [.int .i64 0, .int .i64 0, .int .i64 0, .int .i64 0, .slice B ([] : List (Int × Int)).length bc]
        have hx4 : Ex w4 (w4.alloc (.cells #[.int .i64 0, .int .i64 0, .int .i64 0, .int .i64 0, .slice B ([] : List (Int × Int)).length bc] 38)) := (Ex.refl w4).alloc _
        have HX4 := Lib.hid ((HX3.out.trans hx).trans hx4)
        have HB := Lib.hid hB
        have hs1 := HSe.out ev0 ev0 B none bc 0 _ (hr.ex hx4) (.inl rfl) (Nat.zero_le _) (Nat.zero_le _)
        rw [sameE_iff.2 rfl] at hs1
        dsimp only [ev0] at hs1
        have HS1 := Lib.hid hs1
        clear hx x0 xl hB hr hx4 hs1
        go_upto_region 6 with fail
        generalize w4.alloc (.cells #[.int .i64 0, .int .i64 0, .int .i64 0, .int .i64 0, .slice B ([] : List (Int × Int)).length bc] 38) = W5 at *
        have y0 := HB.out.cell 0
        have y1 := HB.out.cell 1
        have y2 := HB.out.cell 2
        have y3 := HB.out.cell 3
        have y4 := HB.out.cell 4
        have yl := HB.out.lt
        go_wp2_with fail
        refine (HS1.out).mono ?_
        rintro e9 w6 ⟨rfl, hx⟩
        have HX6 := Lib.hid (HX4.out.trans hx)
        clear hx y0 y1 y2 y3 y4 yl
        obtain ⟨x0, xl⟩ := HBT.out _ HX6.out
        go_wp2_with fail
        refine (HV.out _ (HX1.out.trans HX6.out)).mono ?_
        rintro e9 w7 ⟨rfl, hx⟩
        have HX7 := Lib.hid (HX6.out.trans hx)
        clear hx
        go_wp2_with fail
        go_ret
        exact Ret.mk rfl (HX1.out.trans HX7.out)
      | true =>
        by_cases hin : p < 0 ∨ (t.length : Int) ≤ p
        · have hp : pevV t p s.data.toList = (ev0, 2) := by unfold pevV; rw [if_pos hv, if_pos hin]
          rw [hp] at HPe
          rw [hv] at HV
          clear hv hp HRe HRl
          dsimp only [ev0] at HPe
          refine (HPe.out _ (HX1.out.trans HX3.out)).mono ?_
          rintro e9 w4 ⟨B, bc, rfl, hr, hx⟩
          have hB := Blk.new w4 38 [.int .i64 0, .int .i64 0, .int .i64 0, .int .i64 0, .slice B ([] : List (Int × Int)).length bc]
          have hx4 : Ex w4 (w4.alloc (.cells #[.int .i64 0, .int .i64 0, .int .i64 0, .int .i64 0, .slice B ([] : List (Int × Int)).length bc] 38)) := (Ex.refl w4).alloc _
          have HX4 := Lib.hid ((HX3.out.trans hx).trans hx4)
          have HB := Lib.hid hB
          have hs1 := HSe.out ev0 ev0 B none bc 0 _ (hr.ex hx4) (.inl rfl) (Nat.zero_le _) (Nat.zero_le _)
          rw [sameE_iff.2 rfl] at hs1
          dsimp only [ev0] at hs1
          have HS1 := Lib.hid hs1
          clear hx x0 xl hB hr hx4 hs1
          go_upto_region 6 with fail
          generalize w4.alloc (.cells #[.int .i64 0, .int .i64 0, .int .i64 0, .int .i64 0, .slice B ([] : List (Int × Int)).length bc] 38) = W5 at *
          have y0 := HB.out.cell 0
          have y1 := HB.out.cell 1
          have y2 := HB.out.cell 2
          have y3 := HB.out.cell 3
          have y4 := HB.out.cell 4
          have yl := HB.out.lt
          go_wp2_with fail
          refine (HS1.out).mono ?_
          rintro e9 w6 ⟨rfl, hx⟩
          have HX6 := Lib.hid (HX4.out.trans hx)
          clear hx y0 y1 y2 y3 y4 yl
          obtain ⟨x0, xl⟩ := HBT.out _ HX6.out
          go_wp2_with fail
          refine (HV.out _ (HX1.out.trans HX6.out)).mono ?_
          rintro e9 w7 ⟨rfl, hx⟩
          have HX7 := Lib.hid (HX6.out.trans hx)
          clear hx x0 xl
          obtain ⟨x0, xl⟩ := HBT.out _ HX7.out
          by_cases h1 : p < 0
          · have d1 : decide (p < 0) = true := decide_eq_true h1
            clear hin h1
            go_wp2_with fail
            go_ret
            exact Ret.mk rfl (HX1.out.trans HX7.out)
          · have d1 : decide (p < 0) = false := decide_eq_false h1
            have h2 : (t.length : Int) ≤ p := by omega
            have d2 : decide ((t.length : Int) ≤ p) = true := decide_eq_true h2
            clear hin h1 h2
            go_wp2_with fail
            go_ret
            exact Ret.mk rfl (HX1.out.trans HX7.out)
        · obtain ⟨q, rfl⟩ : ∃ q : Nat, p = (q : Int) := ⟨p.toNat, by omega⟩
          have hq : q < t.length := by omega
          have d1 : decide ((q : Int) < 0) = false := decide_eq_false (by omega)
          have d2 : decide ((t.length : Int) ≤ (q : Int)) = false := decide_eq_false (by omega)
          have d3 : decide (t.length ≤ q) = false := decide_eq_false (by omega)
          have hnq : ¬ t.length ≤ q := by omega
          rw [pevV_ok hv hq] at HPe
          rw [hv] at HV
          have HRq := Lib.hid (HRe.out q hq)
          have hal := HRl.out q
          clear hv HRe HRl hin hq
          generalize rpevO t q s.data.toList = R at *
          obtain ⟨⟨k, pe, me, ti, al⟩, er⟩ := R
          dsimp only at *
          refine (HPe.out _ (HX1.out.trans HX3.out)).mono ?_
          rintro e9 w4 ⟨B, bc, rfl, hr, hx⟩
          have hB := Blk.new w4 38 [.int .i64 k, .int .i64 pe, .int .i64 me, .int .i64 ti, .slice B al.length bc]
          have hx4 : Ex w4 (w4.alloc (.cells #[.int .i64 k, .int .i64 pe, .int .i64 me, .int .i64 ti, .slice B al.length bc] 38)) := (Ex.refl w4).alloc _
          have HX4 := Lib.hid ((HX3.out.trans hx).trans hx4)
          have HB := Lib.hid hB
          have HRo := Lib.hid (hr.ex hx4)
          have hs1 := HSe.out ⟨k, pe, me, ti, al⟩ ev0 B none bc 0 _ (hr.ex hx4) (.inl rfl) hal (Nat.zero_le _)
          generalize sameE ⟨k, pe, me, ti, al⟩ ev0 = b0 at *
          dsimp only [ev0] at hs1
          have HS1 := Lib.hid hs1
          have HAl := Lib.hid hal
          clear hx x0 xl hB hr hx4 hs1 hal
          go_upto_region 6 with fail
          generalize w4.alloc (.cells #[.int .i64 k, .int .i64 pe, .int .i64 me, .int .i64 ti, .slice B al.length bc] 38) = W5 at *
          have y0 := HB.out.cell 0
          have y1 := HB.out.cell 1
          have y2 := HB.out.cell 2
          have y3 := HB.out.cell 3
          have y4 := HB.out.cell 4
          have yl := HB.out.lt
          go_wp2_with fail
          refine (HS1.out).mono ?_
          rintro e9 w6 ⟨rfl, hx⟩
          have HX6 := Lib.hid (HX4.out.trans hx)
          have HY6 := Lib.hid hx
          clear hx y0 y1 y2 y3 y4 yl
          obtain ⟨x0, xl⟩ := HBT.out _ HX6.out
          go_wp2_with fail
          refine (HV.out _ (HX1.out.trans HX6.out)).mono ?_
          rintro e9 w7 ⟨rfl, hx⟩
          have HX7 := Lib.hid (HX6.out.trans hx)
          have HY7 := Lib.hid (HY6.out.trans hx)
          clear hx x0 xl
          obtain ⟨x0, xl⟩ := HBT.out _ HX7.out
          go_wp2_with fail
          refine (HRq.out _ (HX1.out.trans HX7.out)).mono ?_
          rintro e9 w8 ⟨B2, bc2, rfl, hr, hx⟩
          have hB := Blk.new w8 38 [.int .i64 k, .int .i64 pe, .int .i64 me, .int .i64 ti, .slice B2 al.length bc2]
          have hx8 : Ex w8 (w8.alloc (.cells #[.int .i64 k, .int .i64 pe, .int .i64 me, .int .i64 ti, .slice B2 al.length bc2] 38)) := (Ex.refl w8).alloc _
          have HX8 := Lib.hid ((HX7.out.trans hx).trans hx8)
          have HY8 := Lib.hid ((HY7.out.trans hx).trans hx8)
          have HB8 := Lib.hid hB
          have hs2 := HSe.out ⟨k, pe, me, ti, al⟩ ⟨k, pe, me, ti, al⟩ B B2 bc bc2 _ (HRo.out.ex HY8.out) (hr.ex hx8) HAl.out HAl.out
          rw [sameE_iff.2 rfl] at hs2
          dsimp only at hs2
          have HS2 := Lib.hid hs2
          clear hx x0 xl hB hr hx8 hs2
          go_upto_region 12 with fail
          obtain ⟨n9, hn9⟩ : ∃ n, n = w8.heap.size := ⟨_, rfl⟩
          rw [← hn9] at HB8 ⊢
          generalize w8.alloc (.cells #[.int .i64 k, .int .i64 pe, .int .i64 me, .int .i64 ti, .slice B2 al.length bc2] 38) = W9 at *
          have y0 := HB8.out.cell 0
          have y1 := HB8.out.cell 1
          have y2 := HB8.out.cell 2
          have y3 := HB8.out.cell 3
          have y4 := HB8.out.cell 4
          have yl := HB8.out.lt
          have hb5 := HB.out.ex HY8.out
          have z0 := hb5.cell 0
          have z1 := hb5.cell 1
          have z2 := hb5.cell 2
          have z3 := hb5.cell 3
          have z4 := hb5.cell 4
          have zl := hb5.lt
          clear hb5 hn9
          go_wp2_with fail
          refine (HS2.out).mono ?_
          rintro e9 w10 ⟨rfl, hx⟩
          have HX10 := Lib.hid (HX8.out.trans hx)
          clear hx y0 y1 y2 y3 y4 yl z0 z1 z2 z3 z4 zl
          go_wp2_with fail
          go_ret
          exact Ret.mk (by simp) (HX1.out.trans HX10.out)
end
end Go.Proofs.YtpmponafjhnegaaGreatDoor
