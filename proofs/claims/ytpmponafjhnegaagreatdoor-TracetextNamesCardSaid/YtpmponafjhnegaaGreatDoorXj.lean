/-
  The reference's find and ParseName, walked.
  Conditions: as each theorem says.
-/
import Derived.Test.YtpmponafjhnegaaGreatDoorWq
import Derived.Test.YtpmponafjhnegaaGreatDoorXi
namespace Go.Proofs.YtpmponafjhnegaaGreatDoor
open Go.RowKit Nu
set_option maxRecDepth 20000 in
set_option maxHeartbeats 3200000 in
theorem rfind_c (t : List Pr) (A : Option Addr) (c : Nat) (n : ByteArray) (w : World) (hT : TcC w A t) (hl : t.length ≤ 100000) :
    Calls Tryz.prog 62 #[.agg #[.slice A t.length c], .string n] w (Ret w (.int .i64 (idxV (pIdx n (t.map (·.name)))))) := by
  have HT : Hid (∀ w', Ex w w' → TcC w' A t) := fun w' hx => hT.ex hx
  have HB0 : Hid (∀ w', Ex (w.alloc (.cells #[.slice A t.length c] 24)) w' → Blk w' w.heap.size 24 [.slice A t.length c]) := fun w' hx => (Blk.new w 24 [.slice A t.length c]).ex hx
  have HX0 : Hid (Ex w (w.alloc (.cells #[.slice A t.length c] 24))) := (Ex.refl w).alloc _
  have HAt : Hid (∀ k x, (t.map (·.name))[k]? = some x → (∀ j y, j < k → (t.map (·.name))[j]? = some y → y ≠ n) → x = n → pIdx n (t.map (·.name)) = some k) := fun k x h1 h2 h3 => pIdx_at h1 h2 h3
  have HNo : Hid ((∀ (j : Nat) (y : ByteArray), (t.map (·.name))[j]? = some y → y ≠ n) → pIdx n (t.map (·.name)) = none) := fun h => pIdx_none h
  generalize pIdx n (t.map (·.name)) = R at *
  clear hT
  go_enter Tryz.func62, Tryz.ntmps62
  go_upto_region 1 with fail
  generalize w.alloc (.cells #[.slice A t.length c] 24) = W0 at *
  go_wp2_with fail
  go_loopg [5] t.length (fun gg q wr => ∃ k : Nat, q = .int .i64 (k : Int) ∧ k ≤ t.length ∧ t.length ≤ k + gg ∧ Hid ((∀ j y, j < k → (t.map (·.name))[j]? = some y → y ≠ n) ∧ Ex W0 wr))
  case atStart => exact ⟨0, rfl, Nat.zero_le _, by omega, Lib.hid ⟨fun j y h => absurd h (Nat.not_lt_zero _), Ex.refl _⟩⟩
  case round =>
    obtain ⟨k, rfl, hk, hkg, HH⟩ := hrel
    have a0 := (HB0.out _ HH.out.2).cell 0
    have al := (HB0.out _ HH.out.2).lt
    by_cases hkl : k < t.length
    · obtain ⟨n8, rfl⟩ : ∃ n8, gk = n8 + 1 := ⟨gk - 1, by omega⟩
      have m0 : (0 : Int) ≤ (k : Int) := by omega
      have m1 : (k : Int) < (t.length : Int) := by omega
      obtain ⟨x, hx⟩ : ∃ x, t[k]? = some x := ⟨_, List.getElem?_eq_getElem hkl⟩
      obtain ⟨b, o, rfl, hb, V, vc, E, ec, k0, k1, k2, -, -⟩ := HT.out _ (HX0.out.trans HH.out.2) k x hx
      have hnm : (t.map (·.name))[k]? = some x.name := by rw [List.getElem?_map, hx]; rfl
      have be := bytes_dec x.name n
      have HX := Lib.hid HH.out.2
      have HBf := Lib.hid HH.out.1
      clear HH hx
      by_cases he : x.name = n
      · have e := HAt.out k x.name hnm HBf.out he
        subst e
        rw [decide_eq_true he] at be
        clear he hnm
        generalize x.name = xn at *
        go_wp2_with fail
        go_ret
        exact Ret.mk rfl (HX0.out.trans HX.out)
      · rw [decide_eq_false he] at be
        have HN : Hid (∀ j y, j < k + 1 → (t.map (·.name))[j]? = some y → y ≠ n) := fun j y hj hy => by
          by_cases h : j < k
          · exact HBf.out j y h hy
          · obtain rfl : j = k := by omega
            rw [hnm] at hy
            cases hy
            exact he
        clear he hnm
        generalize x.name = xn at *
        go_wp2_with fail
        go_roundg n8
        case measure => omega
        case rel => exact ⟨k + 1, by go_num, by omega, by omega, Lib.hid ⟨HN.out, HX.out⟩⟩
    · obtain rfl : k = t.length := by omega
      have m1 : decide ((t.length : Int) < (t.length : Int)) = false := decide_eq_false (by omega)
      have e := HNo.out (fun j y hy => HH.out.1 j y (by have := (List.getElem?_eq_some_iff.1 hy).1; simpa using this) hy)
      subst e
      have HX := Lib.hid HH.out.2
      clear HH
      go_wp2_with fail
      go_ret
      exact Ret.mk rfl (HX0.out.trans HX.out)
theorem rpnEnd {W w1 : World} {g : Nat} {x : Int × Int × Int} {tmps : Array Value} {a b : Value} (hx : Ex W w1) (hg : W.heap.size ≤ g) (hB : Blk w1 g 40 [a, b]) (hp : tmps.getD 4 undef = .pointer (some ⟨g, 0, none⟩)) (hs : tmps.getD 5 undef = .int .i64 x.2.2) :
    bodyPost Tryz.prog Tryz.f30 (Ret W (pnW x)) .ret ⟨tmps, []⟩ ((w1.setCell ⟨g, 0, none⟩ (.int .i64 x.1)).setCell ⟨g, 1, none⟩ (.int .i64 x.2.1)) := by
  have b1 := (hB.set_ 0 (.int .i64 x.1)).set_ 1 (.int .i64 x.2.1)
  have hX := (hx.setCell (p := ⟨g, 0, none⟩) hg (.int .i64 x.1)).setCell (p := ⟨g, 1, none⟩) hg (.int .i64 x.2.1)
  exact bodyPost_ret (results_pn rfl hp hs b1) rfl (Ret.mk rfl hX)
theorem pn_none {t : List Pr} {l : List UInt8} (h : cutC 46 l = none) : pnO t l = (0, 0, 3) := by
  unfold pnO cutG
  rw [h, if_pos (.inl rfl)]
theorem pn_some {t : List Pr} {l a b : List UInt8} (h : cutC 46 l = some (a, b)) : pnO t l = (if nameB (bs a) = false ∨ parE b = 3 ∨ Lib.hasPrefix b [45] = true then ((0, 0, 3) : Int × Int × Int)
  else match pIdx (bs a) (t.map (·.name)) with
    | none => (0, 0, 13)
    | some q => if parE b ≠ 0 ∨ parV b < 1 ∨ (evN t q : Int) < parV b then (0, 0, 2) else ((q : Int), parV b, 0)) := by
  unfold pnO cutG
  rw [h]
  have : ((true : Bool) = false ∨ nameB (bs a) = false ∨ parE b = 3 ∨ Lib.hasPrefix b [45] = true) ↔ (nameB (bs a) = false ∨ parE b = 3 ∨ Lib.hasPrefix b [45] = true) := ⟨fun h => h.elim (fun h => absurd h (by decide)) id, .inr⟩
  simp only [this]
  first | rfl | (split <;> first | rfl | (split <;> rfl))
set_option maxRecDepth 100000 in
set_option maxHeartbeats 6400000 in
theorem rpname_none (t : List Pr) (A : Option Addr) (c : Nat) (s : ByteArray) (w : World) (hs : s.size ≤ 10000) (hc : cutC 46 s.data.toList = none) :
    Calls Tryz.prog 30 #[.agg #[.slice A t.length c], .string s] w (Ret w (pnW (0, 0, 3))) := by
  have HNe : Hid (∀ k, (h : k < s.size) → ((s[k].toNat : Int) == 46) = false) := fun k h => by
    have h1 := cutC_none.1 hc
    have h2 := List.mem_of_getElem? (get_idx h)
    apply beq_eq_false_iff_ne.2
    intro h3
    apply h1
    have : s[k] = 46 := by rw [← UInt8.toNat_inj]; show s[k].toNat = 46; omega
    rwa [this] at h2
  obtain ⟨W1, hW1⟩ : ∃ W1, W1 = (w.alloc (.cells #[.slice A t.length c] 24)).alloc (.cells #[.int .i64 0, .int .i64 0] 40) := ⟨_, rfl⟩
  have hX1 : Ex w W1 := by rw [hW1]; exact ((Ex.refl w).alloc _).alloc _
  have hz1 : ∀ o : Obj, (w.alloc o).heap.size = w.heap.size + 1 := fun o => Array.size_push _
  have hB2 : Blk W1 (w.heap.size + 1) 40 [.int .i64 0, .int .i64 0] := by rw [hW1, ← hz1]; exact Blk.new _ _ _
  have HW1 := Lib.hid hW1
  have HX1 := Lib.hid hX1
  have HB2 := Lib.hid hB2
  clear hc hW1 hX1 hB2 hz1
  go_enter Tryz.func30, Tryz.ntmps30
  go_upto_region 1 with fail
  rw [← HW1.out]
  go_wp2_with fail
  go_loopg [6] s.size (fun gg q wr => ∃ k : Nat, q = .int .i64 (k : Int) ∧ k ≤ s.size ∧ s.size ≤ k + gg ∧ Hid (Ex W1 wr))
  case atStart => exact ⟨0, rfl, Nat.zero_le _, by omega, Lib.hid (Ex.refl _)⟩
  case round =>
    obtain ⟨k, rfl, hk, hkg, HH⟩ := hrel
    by_cases hkl : k < s.size
    · obtain ⟨n8, rfl⟩ : ∃ n8, gk = n8 + 1 := ⟨gk - 1, by omega⟩
      have m1 : (k : Int) < (s.size : Int) := by omega
      have c1 := HNe.out k hkl
      have c2 : ((s[k].toNat : Int) != 46) = true := by unfold bne; rw [c1]; rfl
      go_wp2_with fail
      go_roundg n8
      case measure => omega
      case rel => exact ⟨k + 1, by go_num, by omega, by omega, HH⟩
    · obtain rfl : k = s.size := by omega
      have m1 : decide ((s.size : Int) < (s.size : Int)) = false := decide_eq_false (by omega)
      have hB := HB2.out.ex HH.out
      have HB := Lib.hid hB
      have f0 := hB.frozen 0
      have f1 := hB.frozen 1
      have z0 := hB.cell 0
      have z1 := hB.cell 1
      have zl := hB.lt
      clear hB
      go_wp2_with fail
      exact rpnEnd (x := (0, 0, 3)) (HX1.out.trans HH.out) (by omega) HB.out rfl rfl
set_option maxRecDepth 100000 in
set_option maxHeartbeats 12800000 in
theorem rpname_some (t : List Pr) (A : Option Addr) (c : Nat) (s : ByteArray) (a b : List UInt8) (w : World) (hT : TcC w A t) (hs : TSm t) (hl : s.size ≤ 10000) (hc : cutC 46 s.data.toList = some (a, b)) :
    Calls Tryz.prog 30 #[.agg #[.slice A t.length c], .string s] w (Ret w (pnW (pnO t s.data.toList))) := by
  have htl := hs.procs
  have HO := Lib.hid (pn_some (t := t) hc)
  obtain ⟨hsl, hna⟩ := cutC_some hc
  have hsz : s.size = a.length + 1 + b.length := by rw [size_data, hsl]; simp; omega
  have HNe : Hid (∀ k, (h : k < s.size) → k < a.length → ((s[k].toNat : Int) == 46) = false) := fun k h hk => by
    have h2 := get_idx h
    rw [hsl, List.getElem?_append_left hk] at h2
    apply beq_eq_false_iff_ne.2
    intro h3
    apply hna
    have h4 : s[k] = 46 := by rw [← UInt8.toNat_inj]; show s[k].toNat = 46; omega
    rw [h4] at h2
    exact List.mem_of_getElem? h2
  have HEq : Hid (∀ k, (h : k < s.size) → k = a.length → ((s[k].toNat : Int) == 46) = true) := fun k h hk => by
    subst hk
    have h2 := get_idx h
    rw [hsl, List.getElem?_append_right (Nat.le_refl _), Nat.sub_self] at h2
    have h4 : s[a.length] = 46 := (Option.some.inj h2).symm
    rw [h4]; rfl
  have HMi : Hid (∀ m, (h : m < s.size) → m = a.length + 1 → ((s[m].toNat : Int) == 45) = Lib.hasPrefix b [45]) := fun m h hm => by
    subst hm
    have h2 := get_idx h
    rw [hsl, List.getElem?_append_right (by omega), show a.length + 1 - a.length = 0 + 1 by omega, List.getElem?_cons_succ] at h2
    cases b with
    | nil => cases h2
    | cons x r =>
      have h4 : s[a.length + 1] = x := (Option.some.inj h2).symm
      rw [h4, Bool.eq_iff_iff, beq_iff_eq]
      have h5 : (Lib.hasPrefix (x :: r) [45] = true) ↔ x = 45 := by simp [Lib.hasPrefix]; exact eq_comm
      rw [h5, ← UInt8.toNat_inj]
      show _ ↔ x.toNat = 45
      omega
  have hEa : s.extract 0 a.length = bs a := by
    apply ByteArray.ext
    apply Array.toList_inj.1
    rw [Lib.extract_data, hsl]
    simp
  have hEb : s.extract (a.length + 1) s.size = bs b := by
    apply ByteArray.ext
    apply Array.toList_inj.1
    rw [Lib.extract_data, hsz, hsl]
    simp
  have HNm := Lib.hid (fun w' => rName_c (bs a) w' (by show a.length ≤ _; unfold maxLen; omega))
  have HNu := Lib.hid (fun w' => rnumber_c (bs b) w' (by show b.length ≤ _; omega))
  have HFi := Lib.hid (fun w' (h : Ex w w') => rfind_c t A c (bs a) w' (hT.ex h) htl)
  have HT := Lib.hid hT
  have hbb : (bs b).data.toList = b := rfl
  rw [hbb] at HNu
  have HBn : Hid (parE b ≠ 3 → 0 < b.length) := fun h => by
    cases b with
    | nil => exact absurd rfl h
    | cons x r => simp
  have HIx : Hid (∀ q, pIdx (bs a) (t.map (·.name)) = some q → q < t.length) := fun q h => by
    have h1 := (List.getElem?_eq_some_iff.1 (pIdx_some h)).1
    rwa [List.length_map] at h1
  obtain ⟨W1, hW1⟩ : ∃ W1, W1 = (w.alloc (.cells #[.slice A t.length c] 24)).alloc (.cells #[.int .i64 0, .int .i64 0] 40) := ⟨_, rfl⟩
  have hX1 : Ex w W1 := by rw [hW1]; exact ((Ex.refl w).alloc _).alloc _
  have hz1 : ∀ o : Obj, (w.alloc o).heap.size = w.heap.size + 1 := fun o => Array.size_push _
  have hB1 : Blk W1 w.heap.size 24 [.slice A t.length c] := by rw [hW1]; exact (Blk.new w _ _).alloc _
  have hB2 : Blk W1 (w.heap.size + 1) 40 [.int .i64 0, .int .i64 0] := by rw [hW1, ← hz1]; exact Blk.new _ _ _
  have HW1 := Lib.hid hW1
  have HX1 := Lib.hid hX1
  have HC1 := Lib.hid hB1
  have HC2 := Lib.hid hB2
  generalize pnO t s.data.toList = R at *
  generalize pIdx (bs a) (t.map (·.name)) = FI at *
  generalize nameB (bs a) = nb at *
  generalize Lib.hasPrefix b [45] = hp at *
  generalize parE b = pe at *
  generalize parV b = pv at *
  obtain ⟨K, hK⟩ : ∃ K, K = a.length := ⟨_, rfl⟩
  rw [← hK] at hsz HNe HEq HMi hEa hEb
  clear hT hs hc hsl hna hW1 hX1 hB1 hB2 hz1 hbb hK
  unfold Two at HNu
  obtain ⟨BL, hBL⟩ : ∃ BL, BL = b.length := ⟨_, rfl⟩
  rw [← hBL] at hsz HBn
  clear hBL
  have HSz := Lib.hid hsz
  clear hsz
  generalize bs a = SA at *
  generalize bs b = SB at *
  go_enter Tryz.func30, Tryz.ntmps30
  go_upto_region 1 with fail
  rw [← HW1.out]
  go_wp2_with fail
  go_loopg [6] K (fun gg q wr => ∃ k : Nat, q = .int .i64 (k : Int) ∧ k ≤ K ∧ K ≤ k + gg ∧ Hid (Ex W1 wr))
  case atStart => exact ⟨0, rfl, Nat.zero_le _, by omega, Lib.hid (Ex.refl _)⟩
  case round =>
    obtain ⟨k, rfl, hk, hkg, HH⟩ := hrel
    have hks : k < s.size := by have h2 := HSz.out; omega
    have m1 : (k : Int) < (s.size : Int) := by omega
    by_cases hkl : k < K
    · obtain ⟨n8, rfl⟩ : ∃ n8, gk = n8 + 1 := ⟨gk - 1, by omega⟩
      have c1 := HNe.out k hks hkl
      have c2 : ((s[k].toNat : Int) != 46) = true := by unfold bne; rw [c1]; rfl
      go_wp2_with fail
      go_roundg n8
      case measure => omega
      case rel => exact ⟨k + 1, by go_num, by omega, by omega, HH⟩
    · obtain rfl : k = K := by omega
      have c1 := HEq.out k hks rfl
      have c2 : ((s[k].toNat : Int) != 46) = false := by unfold bne; rw [c1]; rfl
      have c3 : ((k : Int) == (s.size : Int)) = false := beq_eq_false_iff_ne.2 (by omega)
      have hkz : k ≤ s.size := by omega
      have HX2 := Lib.hid (HX1.out.trans HH.out)
      clear HNe HEq
      go_wp2_with fail
      refine (HNm.out _).mono ?_
      rintro e9 w3 ⟨rfl, hx⟩
      have HY3 := Lib.hid (HH.out.trans hx)
      have HX3 := Lib.hid (HX2.out.trans hx)
      clear hx HNm c1 c2
      cases nb with
      | false =>
        have hR : R = (0, 0, 3) := by rw [HO.out, if_pos (.inl rfl)]
        subst hR
        have hB := HC2.out.ex HY3.out
        have HB := Lib.hid hB
        have f0 := hB.frozen 0
        have f1 := hB.frozen 1
        have z0 := hB.cell 0
        have z1 := hB.cell 1
        have zl := hB.lt
        clear hB HO
        go_wp2_with fail
        exact rpnEnd (x := (0, 0, 3)) HX3.out (by omega) HB.out rfl rfl
      | true =>
        obtain ⟨m, hm⟩ : ∃ m, m = k + 1 := ⟨_, rfl⟩
        have q1 : IntKind.i64.wrap ((k : Int) + 1) = (m : Int) := by rw [hm, IntWalk.i64_in _ (by omega)]; omega
        rw [← hm] at hEb
        have hmz : m ≤ s.size := by omega
        have HMj := Lib.hid (fun h => HMi.out m h hm)
        have Hm := Lib.hid hm
        clear HMi hm
        go_wp2_with fail
        refine (HNu.out _).mono ?_
        rintro e9 w4 ⟨rfl, hx⟩
        have HY4 := Lib.hid (HY3.out.trans hx)
        have HX4 := Lib.hid (HX3.out.trans hx)
        clear hx HNu HY3 HX3
        by_cases h3 : pe = 3
        · have hR : R = (0, 0, 3) := by rw [HO.out, if_pos (.inr (.inl h3))]
          subst hR
          have c3 : (pe == 3) = true := beq_iff_eq.2 h3
          have hB := HC2.out.ex HY4.out
          have HB := Lib.hid hB
          have f0 := hB.frozen 0
          have f1 := hB.frozen 1
          have z0 := hB.cell 0
          have z1 := hB.cell 1
          have zl := hB.lt
          clear hB HO h3
          go_wp2_with fail
          exact rpnEnd (x := (0, 0, 3)) HX4.out (by omega) HB.out rfl rfl
        have c3 : (pe == 3) = false := beq_eq_false_iff_ne.2 h3
        have hbl := HBn.out h3
        have hms : m < s.size := by have h1 := Hm.out; have h2 := HSz.out; omega
        have mi := HMj.out hms
        have m2 : (m : Int) < (s.size : Int) := by omega
        cases hp with
        | true =>
          have hR : R = (0, 0, 3) := by rw [HO.out, if_pos (.inr (.inr rfl))]
          subst hR
          have hB := HC2.out.ex HY4.out
          have HB := Lib.hid hB
          have f0 := hB.frozen 0
          have f1 := hB.frozen 1
          have z0 := hB.cell 0
          have z1 := hB.cell 1
          have zl := hB.lt
          clear hB HO h3
          go_wp2_with fail
          exact rpnEnd (x := (0, 0, 3)) HX4.out (by omega) HB.out rfl rfl
        | false =>
          have hO2 := HO.out
          rw [if_neg (by simp [h3])] at hO2
          have HO2 := Lib.hid hO2
          have x0 := (HC1.out.ex HY4.out).cell 0
          have xl := (HC1.out.ex HY4.out).lt
          clear hO2 HO h3
          cases FI with
          | none =>
            have hR : R = (0, 0, 13) := HO2.out
            subst hR
            have HFj : Hid (∀ w', Ex w w' → Calls Tryz.prog 62 #[.agg #[.slice A t.length c], .string SA] w' (Ret w' (.int .i64 (-1)))) := HFi
            go_upto_region 9 with fail
            go_region_held3 (fun (w' : World) => w'.cell? ⟨w.heap.size, 0, none⟩ = some (.slice A t.length c))
              (first | exact x0 | exact d0 | go_keep)
              (first
                | (go_at_call 62; refine (HFj.out _ (by first | exact HX4.out | exact HX4.out.drew | exact HX4.out.drew.drew)).mono ?_; rintro e9 w7 ⟨rfl, hx6⟩; have HZ := Lib.hid (Ex.trans (by first | exact Ex.refl w4 | exact (Ex.refl w4).drew | exact (Ex.refl w4).drew.drew) hx6); have d0 := (HC1.out.ex (HY4.out.trans HZ.out)).cell 0; clear hx6))
            have hB := (HC2.out.ex HY4.out).ex HZ.out
            have HB := Lib.hid hB
            have f0 := hB.frozen 0
            have f1 := hB.frozen 1
            have z0 := hB.cell 0
            have z1 := hB.cell 1
            have zl := hB.lt
            clear hB x0 xl d0
            go_wp2_with fail
            exact rpnEnd (x := (0, 0, 13)) (HX4.out.trans HZ.out) (by omega) HB.out rfl rfl
          | some q =>
            have hql := HIx.out q rfl
            have HFj : Hid (∀ w', Ex w w' → Calls Tryz.prog 62 #[.agg #[.slice A t.length c], .string SA] w' (Ret w' (.int .i64 (q : Int)))) := HFi
            have b3 : decide ((q : Int) < 0) = false := decide_eq_false (by omega)
            have hO3 : R = if pe ≠ 0 ∨ pv < 1 ∨ (evN t q : Int) < pv then (0, 0, 2) else ((q : Int), pv, 0) := HO2.out
            have HO3 := Lib.hid hO3
            clear hO3 HO2 HFi HIx
            go_upto_region 9 with fail
            go_region_held3 (fun (w' : World) => w'.cell? ⟨w.heap.size, 0, none⟩ = some (.slice A t.length c))
              (first | exact x0 | exact d0 | go_keep)
              (first
                | (go_at_call 62; refine (HFj.out _ (by first | exact HX4.out | exact HX4.out.drew | exact HX4.out.drew.drew)).mono ?_; rintro e9 w7 ⟨rfl, hx6⟩; have HZ := Lib.hid (Ex.trans (by first | exact Ex.refl w4 | exact (Ex.refl w4).drew | exact (Ex.refl w4).drew.drew) hx6); have d0 := (HC1.out.ex (HY4.out.trans HZ.out)).cell 0; clear hx6))
            have HX7 := Lib.hid (HX4.out.trans HZ.out)
            have HY7 := Lib.hid (HY4.out.trans HZ.out)
            clear x0 xl HFj HZ d0
            have hB := HC2.out.ex HY7.out
            have HB := Lib.hid hB
            have f0 := hB.frozen 0
            have f1 := hB.frozen 1
            have z0 := hB.cell 0
            have z1 := hB.cell 1
            have zl := hB.lt
            clear hB
            by_cases h1 : pe = 0
            case neg =>
              have hR : R = (0, 0, 2) := by rw [HO3.out, if_pos (.inl h1)]
              subst hR
              have d1 : (pe != 0) = true := bne_iff_ne.2 h1
              clear HO3 h1
              go_wp2_with fail
              exact rpnEnd (x := (0, 0, 2)) HX7.out (by omega) HB.out rfl rfl
            have d1 : (pe != 0) = false := by rw [h1]; rfl
            by_cases h2 : pv < 1
            · have hR : R = (0, 0, 2) := by rw [HO3.out, if_pos (.inr (.inl h2))]
              subst hR
              have d2 : decide (pv < 1) = true := decide_eq_true h2
              clear HO3 h1 h2
              go_wp2_with fail
              exact rpnEnd (x := (0, 0, 2)) HX7.out (by omega) HB.out rfl rfl
            have d2 : decide (pv < 1) = false := decide_eq_false h2
            obtain ⟨x, hx⟩ : ∃ x, t[q]? = some x := ⟨_, List.getElem?_eq_getElem hql⟩
            have hen : evN t q = x.evs.length := by unfold evN; rw [hx]
            obtain ⟨b4, o4, hA, hbl4, V, vc, E, ec, -, -, g2, -, -⟩ := HT.out.ex HX7.out q x hx
            subst hA
            have x0 := (HC1.out.ex HY7.out).cell 0
            have xl := (HC1.out.ex HY7.out).lt
            have m0 : (0 : Int) ≤ (q : Int) := by omega
            have m1 : (q : Int) < (t.length : Int) := by omega
            by_cases h4 : (x.evs.length : Int) < pv
            · have hR : R = (0, 0, 2) := by rw [HO3.out, if_pos (.inr (.inr (by rw [hen]; exact h4)))]
              subst hR
              have d4 : decide ((x.evs.length : Int) < pv) = true := decide_eq_true h4
              clear HO3 h1 h2 h4 hx hen
              go_wp2_with fail
              exact rpnEnd (x := (0, 0, 2)) HX7.out (by omega) HB.out rfl rfl
            · have hR : R = ((q : Int), pv, 0) := by rw [HO3.out, if_neg (by rw [hen]; rintro (h | h | h); exact h h1; exact h2 h; exact h4 h)]
              subst hR
              have d4 : decide ((x.evs.length : Int) < pv) = false := decide_eq_false h4
              clear HO3 h1 h2 h4 hx hen
              go_wp2_with fail
              exact rpnEnd (x := ((q : Int), pv, 0)) HX7.out (by omega) HB.out rfl rfl
theorem rpname_c (t : List Pr) (A : Option Addr) (c : Nat) (s : ByteArray) (w : World) (hT : TcC w A t) (hs : TSm t) (hl : s.size ≤ 10000) :
    Calls Tryz.prog 30 #[.agg #[.slice A t.length c], .string s] w (Ret w (pnW (pnO t s.data.toList))) := by
  cases hc : cutC 46 s.data.toList with
  | none => rw [pn_none hc]; exact rpname_none t A c s w hl hc
  | some x => obtain ⟨a, b⟩ := x; exact rpname_some t A c s a b w hT hs hl hc
end Go.Proofs.YtpmponafjhnegaaGreatDoor
