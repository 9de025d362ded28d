/-
  The reference's count of nodes, and its kinds with names, walked. The reference's numbers of parts, walked. The reference's form of a tree, walked. The reference's form of a tree: its contract. The reference's Formed, walked.
  Conditions: as each theorem says.
-/
import Derived.Test.YthjalkonlcjhnaaGreatDoorQn
import Derived.Test.YthjalkonlcjhnaaGreatDoorRb
import Derived.Test.YthjalkonlcjhnaaGreatDoorQp
namespace Go.Proofs.YthjalkonlcjhnaaGreatDoor
open Go.RowKit
def CountR (L : Nat) (t : Tr) (w : World) (e : Ending) (w' : World) : Prop := ∃ v : Nat, e = .returned (.int .i64 v) ∧ v ≤ t.size ∧ (t.size ≤ L → v = t.size) ∧ (L < t.size → L < v) ∧ Ex w w'
set_option maxRecDepth 20000 in
set_option maxHeartbeats 1600000 in
theorem rCount_c : ∀ (N L : Nat) (t : Tr) (Q : Nat → Prop) (w : World) (k n p q : Int) (s : ByteArray) (A : Option Addr) (m c : Nat), t.size ≤ N → N ≤ 1000000 → L ≤ 1000000 → TrC Q w t (c6 k n p q s A m c) →
    Calls Tryz.prog 62 #[.agg #[.int .i64 k, .int .i64 n, .int .i64 p, .int .i64 q, .string s, .slice A m c], .int .i64 (L : Nat)] w (CountR L t w) := by
  intro N
  induction N with
  | zero => intro L t Q w k n p q s A m c h; exact absurd h (by have := t.size_pos; omega)
  | succ N ih =>
    intro L t Q w k n p q s A m c hs hN hL ht
    obtain ⟨k1, n1, p1, q1, s1, l⟩ := t
    obtain ⟨rfl, rfl, rfl, rfl, rfl, rfl, hk⟩ := ht.kids
    have hlen := Tr.len_le (l := l)
    unfold CountR
    rw [Tr.size_node] at hs
    rw [Tr.size_node]
    have HK := Lib.hid (fun w' (hx : Ex w w') j x (hj : l[j]? = some x) => (hk j x hj).ex hx)
    have HG : Hid (∀ j, j < l.length → ∃ x, l[j]? = some x) := fun j hj => ⟨_, List.getElem?_eq_getElem hj⟩
    have HI : Hid (∀ j x, l[j]? = some x → x.size ≤ N ∧ x.size ≤ 1000000 ∧ (1 + ((l.take j).map Tr.size).sum) + x.size = 1 + ((l.take (j + 1)).map Tr.size).sum ∧ 1 + ((l.take (j + 1)).map Tr.size).sum ≤ 1000001) := fun j x hj => by
      have h1 : (l.map Tr.size)[j]? = some x.size := by rw [List.getElem?_map, hj]; rfl
      have h2 := mem_le_sum _ _ (List.mem_of_getElem? h1)
      have h6 := sum_le (l.map Tr.size) (j + 1)
      have h4 := sum_take _ _ _ h1
      rw [← List.map_take, ← List.map_take] at h4
      rw [← List.map_take] at h6
      exact ⟨by omega, by omega, by omega, by omega⟩
    have HT : Hid (∀ j, 1 + ((l.take j).map Tr.size).sum ≤ 1 + (l.map Tr.size).sum) := fun j => by
      have h6 := sum_le (l.map Tr.size) j
      rw [← List.map_take] at h6
      omega
    have HC := Lib.hid (fun w' x (r : Nat) k n p q s A m c (h1 : x.size ≤ N) (hr : r ≤ 1000000) (h : TrC Q w' x (c6 k n p q s A m c)) => ih r x Q w' k n p q s A m c h1 (by omega) hr h)
    unfold CountR at HC
    have hl : l.length ≤ 1000000 := by omega
    clear ih hk ht hs hN hlen
    have HZ : Hid (Blk (w.alloc (.cells #[.int .i64 k, .int .i64 n, .int .i64 p, .int .i64 q, .string s, .slice A l.length c] 24)) w.heap.size 24 (c6 k n p q s A l.length c)) := Blk.new w _ _
    have HX0 : Hid (Ex w (w.alloc (.cells #[.int .i64 k, .int .i64 n, .int .i64 p, .int .i64 q, .string s, .slice A l.length c] 24))) := (Ex.refl w).alloc _
    obtain ⟨W0, hW0⟩ : ∃ W0, W0 = w.alloc (.cells #[.int .i64 k, .int .i64 n, .int .i64 p, .int .i64 q, .string s, .slice A l.length c] 24) := ⟨_, rfl⟩
    rw [← hW0] at HZ HX0
    have HW0 := Lib.hid hW0
    clear hW0
    go_enter Tryz.func62, Tryz.ntmps62
    go_wp2_with fail
    rw [← HW0.out]
    go_loopw [5, 6] (fun v i wr => ∃ j sv : Nat, i = .int .i64 j ∧ v = .int .i64 sv ∧ j ≤ l.length ∧ sv ≤ 1000001 ∧ Hid (sv ≤ 1 + ((l.take j).map Tr.size).sum ∧ (1 + ((l.take j).map Tr.size).sum ≤ L → sv = 1 + ((l.take j).map Tr.size).sum) ∧ (L < 1 + ((l.take j).map Tr.size).sum → L < sv) ∧ Ex W0 wr)) (fun v i _ => l.length - (intOf i).toNat)
    case atStart => exact ⟨0, 1, rfl, rfl, Nat.zero_le _, by omega, Lib.hid ⟨Nat.le_refl _, fun _ => rfl, fun h => h, Ex.refl _⟩⟩
    case round =>
      obtain ⟨j, sv, rfl, rfl, hj, hsv, HH⟩ := hrel
      have hz := HZ.out.ex HH.out.2.2.2
      have lz := hz.lt
      have r5 : wr.cell? ⟨w.heap.size, 5, none⟩ = some (.slice A l.length c) := hz.cell 5
      clear hz
      by_cases hlt : j < l.length
      · have m1 : (j : Int) < (l.length : Int) := by omega
        have m0 : (0 : Int) ≤ (j : Int) := by omega
        by_cases hle : sv ≤ L
        · have l1 : (sv : Int) ≤ (L : Int) := by omega
          obtain ⟨r, hr⟩ : ∃ r : Nat, L = sv + r := ⟨L - sv, by omega⟩
          have e4 : (L : Int) - (sv : Int) = (r : Int) := by omega
          have hrl : r ≤ 1000000 := by omega
          obtain ⟨x, hx⟩ := HG.out j hlt
          obtain ⟨b, o, k2, n2, p2, q2, s2, B, m2, c2, rfl, hb, h0, h1, h2, h3, h4, h5, htx⟩ := HK.out _ (HX0.out.trans HH.out.2.2.2) j x hx
          obtain ⟨hx1, hx2, hx3, hx4⟩ := HI.out j x hx
          have HX3 := Lib.hid hx3
          have HX4 := Lib.hid hx4
          have HCx := Lib.hid (fun w' (hy : Ex wr w') => HC.out w' x r k2 n2 p2 q2 s2 B m2 c2 hx1 hrl (htx.ex hy))
          have hne : sv + x.size ≤ 3000000 := by omega
          have HR := Lib.hid hr
          generalize x.size = xs at *
          have HBx := Lib.hid (HH.out)
          clear hx3 hx4 htx hx hx1 HH hr
          go_wp2_with fail
          refine (HCx.out _ (by repeat (first | exact Ex.refl _ | refine Ex.alloc ?_ _))).mono ?_
          rintro e w' ⟨v, rfl, hv1, hv2, hv3, z, rfl⟩
          have HV2 := Lib.hid hv2
          have HV3 := Lib.hid hv3
          clear hv2 hv3
          have hv9 : sv + v ≤ 3000000 := by omega
          go_wp2_with fail
          have g1 := HBx.out
          have g3 := HX3.out
          have g4 := HX4.out
          have g5 := HR.out
          refine ⟨⟨j + 1, sv + v, by go_num, by go_num, by omega, by omega, Lib.hid ⟨by omega, fun h => ?_, fun h => ?_, ?_⟩⟩, by simp [intOf]; omega⟩
          · have f1 := g1.2.1 (by omega)
            have f2 := HV2.out (by omega)
            omega
          · by_cases h9 : xs ≤ r
            · have f2 := HV2.out h9
              by_cases h8 : 1 + ((l.take j).map Tr.size).sum ≤ L
              · have f1 := g1.2.1 h8
                omega
              · have f1 := g1.2.2.1 (by omega)
                omega
            · have f2 := HV3.out (by omega)
              omega
          · exact g1.2.2.2.trans (Ex.ext (by repeat (first | exact Ex.refl _ | refine Ex.alloc ?_ _)) _)
        · have l1 : decide ((sv : Int) ≤ (L : Int)) = false := decide_eq_false (by omega)
          have HS := Lib.hid HH.out
          have HLt := Lib.hid hle
          clear HH hle
          go_wp2_with fail
          go_ret
          have g1 := HS.out
          have g2 := HT.out j
          have g3 := HLt.out
          exact ⟨sv, rfl, by omega, fun h => by omega, fun _ => by omega, HX0.out.trans g1.2.2.2⟩
      · have hjl : j = l.length := by omega
        subst hjl
        have m1 : decide (((l.length : Nat) : Int) < (l.length : Int)) = false := decide_eq_false (by omega)
        have HS := Lib.hid HH.out
        clear hlt HH
        go_wp2_with fail
        go_ret
        have g1 := HS.out
        rw [List.take_length] at g1
        exact ⟨sv, rfl, g1.1, g1.2.1, g1.2.2.1, HX0.out.trans g1.2.2.2⟩
/-- the kinds with names -/
def namesB (k : Int) : Bool := decide (k = 2) || decide (k = 3) || decide (k = 4)
theorem names_c (k : Int) (w : World) : Calls Tryz.prog 66 #[.int .i64 k] w (Ret w (.bool (namesB k))) := by
  unfold namesB
  by_cases h2 : k = 2
  · subst h2
    go_enter Tryz.func66, Tryz.ntmps66
    go_wp2_with fail
    go_ret
    exact Ret.mk rfl (Ex.refl _)
  · by_cases h3 : k = 3
    · subst h3
      go_enter Tryz.func66, Tryz.ntmps66
      go_wp2_with fail
      go_ret
      exact Ret.mk rfl (Ex.refl _)
    · by_cases h4 : k = 4
      · subst h4
        go_enter Tryz.func66, Tryz.ntmps66
        go_wp2_with fail
        go_ret
        exact Ret.mk rfl (Ex.refl _)
      · rw [decide_eq_false h2, decide_eq_false h3, decide_eq_false h4]
        have b2 : (k == 2) = false := beq_eq_false_iff_ne.2 h2
        have b3 : (k == 3) = false := beq_eq_false_iff_ne.2 h3
        have b4 : (k == 4) = false := beq_eq_false_iff_ne.2 h4
        clear h2 h3 h4
        go_enter Tryz.func66, Tryz.ntmps66
        go_wp2_with fail
        go_ret
        exact Ret.mk rfl (Ex.refl _)
set_option maxHeartbeats 1600000 in
theorem rParts_c (k : Int) (w : World) : Calls Tryz.prog 99 #[.int .i64 k] w (Ret w (.int .i64 (partsI k))) := by
  by_cases hk : 1 ≤ k ∧ k ≤ 21
  · have hc : k = 1 ∨ k = 2 ∨ k = 3 ∨ k = 4 ∨ k = 5 ∨ k = 6 ∨ k = 7 ∨ k = 8 ∨ k = 9 ∨ k = 10 ∨ k = 11 ∨ k = 12 ∨ k = 13 ∨ k = 14 ∨ k = 15 ∨ k = 16 ∨ k = 17 ∨ k = 18 ∨ k = 19 ∨ k = 20 ∨ k = 21 := by omega
    clear hk
    rcases hc with rfl | rfl | rfl | rfl | rfl | rfl | rfl | rfl | rfl | rfl | rfl | rfl | rfl | rfl | rfl | rfl | rfl | rfl | rfl | rfl | rfl
    all_goals
      go_enter Tryz.func99, Tryz.ntmps99
      go_wp2_with fail
      go_ret
      exact Ret.mk (by simp [partsI]) (Ex.refl _)
  · have hn : partsI k = (-1) := by unfold partsI; rw [if_neg (show ¬ (k = 1 ∨ k = 2 ∨ k = 3 ∨ k = 4 ∨ k = 13 ∨ k = 14) by omega), if_neg (show ¬ (k = 5 ∨ k = 15 ∨ k = 18 ∨ k = 19 ∨ k = 20 ∨ k = 21) by omega), if_neg (show ¬ (k = 6 ∨ k = 7 ∨ k = 8 ∨ k = 9 ∨ k = 10 ∨ k = 11 ∨ k = 12 ∨ k = 16 ∨ k = 17) by omega)]
    rw [hn]
    have b1 : (k == 1) = false := beq_eq_false_iff_ne.2 (by omega)
    have b2 : (k == 2) = false := beq_eq_false_iff_ne.2 (by omega)
    have b3 : (k == 3) = false := beq_eq_false_iff_ne.2 (by omega)
    have b4 : (k == 4) = false := beq_eq_false_iff_ne.2 (by omega)
    have b5 : (k == 13) = false := beq_eq_false_iff_ne.2 (by omega)
    have b6 : (k == 14) = false := beq_eq_false_iff_ne.2 (by omega)
    have b7 : (k == 5) = false := beq_eq_false_iff_ne.2 (by omega)
    have b8 : (k == 15) = false := beq_eq_false_iff_ne.2 (by omega)
    have b9 : (k == 18) = false := beq_eq_false_iff_ne.2 (by omega)
    have b10 : (k == 19) = false := beq_eq_false_iff_ne.2 (by omega)
    have b11 : (k == 20) = false := beq_eq_false_iff_ne.2 (by omega)
    have b12 : (k == 21) = false := beq_eq_false_iff_ne.2 (by omega)
    by_cases h1 : k < 1
    · have z1 : decide (k < 1) = true := decide_eq_true h1
      clear hk hn h1
      go_enter Tryz.func99, Tryz.ntmps99
      go_wp2_with fail
      go_ret
      exact Ret.mk rfl (Ex.refl _)
    · have z1 : decide (k < 1) = false := decide_eq_false h1
      have z2 : decide (21 < k) = true := decide_eq_true (by omega)
      clear hk hn h1
      go_enter Tryz.func99, Tryz.ntmps99
      go_wp2_with fail
      go_ret
      exact Ret.mk rfl (Ex.refl _)
/-- names stand only where a kind has them -/
def plainB (k p q : Int) (s : ByteArray) : Bool := namesB k || (decide (p = 0) && decide (q = 0) && decide (s.size = 0))
theorem empty_of {s : ByteArray} (h : s.size = 0) : s = ⟨#[]⟩ := by
  have h1 : s.data.toList = [] := List.eq_nil_of_length_eq_zero (by rw [← size_data]; exact h)
  obtain ⟨d⟩ := s
  congr 1
  exact Array.toList_inj.1 h1
set_option maxRecDepth 20000 in
set_option maxHeartbeats 1600000 in
theorem rf_A (k n p q : Int) (s : ByteArray) (A : Option Addr) (l : List Tr) (c : Nat) (w : World) (h0 : partsI k ≠ (l.length : Int)) :
    Calls Tryz.prog 63 #[.agg #[.int .i64 k, .int .i64 n, .int .i64 p, .int .i64 q, .string s, .slice A l.length c]] w (Ret w (.bool false)) := by
  have HP := Lib.hid (fun w => rParts_c k w)
  have e0 : (partsI k != ((l.length : Nat) : Int)) = true := by rw [bne_iff_ne]; exact h0
  have e0' : (partsI k == ((l.length : Nat) : Int)) = false := beq_eq_false_iff_ne.2 h0
  clear h0
  generalize partsI k = pI at *
  go_enter Tryz.func63, Tryz.ntmps63
  go_wp2_with fail
  refine wp_region_ext (by kernel_rfl) (by kernel_rfl) ?_
  repeat (go_big_quiet_step ((go_at_call 99; exact quiet_ext (HP.out _))))
  refine wpQuiet_end (fun z => ?_)
  go_wp2_with fail
  go_ret
  exact Ret.mk rfl (((Ex.refl _).alloc _).ext _)
set_option maxRecDepth 20000 in
set_option maxHeartbeats 1600000 in
theorem rf_B (k n p q : Int) (s : ByteArray) (A : Option Addr) (l : List Tr) (c : Nat) (w : World) (h0 : partsI k = (l.length : Int)) (h1 : n ≠ 0) (h2 : k ≠ 1) :
    Calls Tryz.prog 63 #[.agg #[.int .i64 k, .int .i64 n, .int .i64 p, .int .i64 q, .string s, .slice A l.length c]] w (Ret w (.bool false)) := by
  have HP := Lib.hid (fun w => rParts_c k w)
  rw [h0] at HP
  clear h0
  have e1 : (n != 0) = true := by rw [bne_iff_ne]; omega
  have e1' : (n == 0) = false := beq_eq_false_iff_ne.2 (by omega)
  have e2 : (k != 1) = true := by rw [bne_iff_ne]; exact h2
  have e2' : (k == 1) = false := beq_eq_false_iff_ne.2 h2
  clear h1 h2
  go_enter Tryz.func63, Tryz.ntmps63
  go_wp2_with fail
  refine wp_region_ext (by kernel_rfl) (by kernel_rfl) ?_
  repeat (go_big_quiet_step ((go_at_call 99; exact quiet_ext (HP.out _))))
  refine wpQuiet_end (fun z => ?_)
  go_wp2_with fail
  go_ret
  exact Ret.mk rfl (((Ex.refl _).alloc _).ext _)
set_option maxRecDepth 20000 in
set_option maxHeartbeats 1600000 in
theorem rf_C (k n p q : Int) (s : ByteArray) (A : Option Addr) (l : List Tr) (c : Nat) (w : World) (h0 : partsI k = (l.length : Int)) (h1 : n < 0) (h2 : k = 1) :
    Calls Tryz.prog 63 #[.agg #[.int .i64 k, .int .i64 n, .int .i64 p, .int .i64 q, .string s, .slice A l.length c]] w (Ret w (.bool false)) := by
  have HP := Lib.hid (fun w => rParts_c k w)
  rw [h0] at HP
  clear h0
  have e3 : decide (n < 0) = true := decide_eq_true h1
  subst h2
  go_enter Tryz.func63, Tryz.ntmps63
  go_wp2_with fail
  refine wp_region_ext (by kernel_rfl) (by kernel_rfl) ?_
  repeat (go_big_quiet_step ((go_at_call 99; exact quiet_ext (HP.out _))))
  refine wpQuiet_end (fun z => ?_)
  go_wp2_with fail
  go_ret
  exact Ret.mk rfl (((Ex.refl _).alloc _).ext _)
set_option maxRecDepth 20000 in
set_option maxHeartbeats 1600000 in
theorem rf_D (k n p q : Int) (s : ByteArray) (A : Option Addr) (l : List Tr) (c : Nat) (w : World) (h0 : partsI k = (l.length : Int)) (h1 : 1125899906842624 < n) (h2 : k = 1) :
    Calls Tryz.prog 63 #[.agg #[.int .i64 k, .int .i64 n, .int .i64 p, .int .i64 q, .string s, .slice A l.length c]] w (Ret w (.bool false)) := by
  have HP := Lib.hid (fun w => rParts_c k w)
  rw [h0] at HP
  clear h0
  have e3 : decide (n < 0) = false := decide_eq_false (by omega)
  have e4 : decide (1125899906842624 < n) = true := decide_eq_true h1
  subst h2
  go_enter Tryz.func63, Tryz.ntmps63
  go_wp2_with fail
  refine wp_region_ext (by kernel_rfl) (by kernel_rfl) ?_
  repeat (go_big_quiet_step ((go_at_call 99; exact quiet_ext (HP.out _))))
  refine wpQuiet_end (fun z => ?_)
  go_wp2_with fail
  go_ret
  exact Ret.mk rfl (((Ex.refl _).alloc _).ext _)
set_option maxRecDepth 20000 in
set_option maxHeartbeats 1600000 in
theorem rf_Ep (k n p q : Int) (s : ByteArray) (A : Option Addr) (l : List Tr) (c : Nat) (w : World) (h0 : partsI k = (l.length : Int)) (h1 : 0 ≤ n) (h1' : n ≤ 1125899906842624) (h2 : k = 1) (hp : p ≠ 0) :
    Calls Tryz.prog 63 #[.agg #[.int .i64 k, .int .i64 n, .int .i64 p, .int .i64 q, .string s, .slice A l.length c]] w (Ret w (.bool false)) := by
  have HP := Lib.hid (fun w => rParts_c k w)
  rw [h0] at HP
  clear h0
  have g1 : (p != 0) = true := by rw [bne_iff_ne]; exact hp
  have g1' : (p == 0) = false := beq_eq_false_iff_ne.2 hp
  have HNm := Lib.hid (fun w => names_c 1 w)
  rw [show namesB 1 = false from rfl] at HNm
  have e3 : decide (n < 0) = false := decide_eq_false (by omega)
  have e4 : decide (1125899906842624 < n) = false := decide_eq_false (by omega)
  subst h2
  go_enter Tryz.func63, Tryz.ntmps63
  go_wp2_with fail
  refine wp_region_ext (by kernel_rfl) (by kernel_rfl) ?_
  repeat (go_big_quiet_step ((go_at_call 99; exact quiet_ext (HP.out _))))
  refine wpQuiet_end (fun z => ?_)
  go_wp2_with fail
  refine (HNm.out _).mono ?_
  rintro e w' ⟨rfl, z2, rfl⟩
  go_wp2_with fail
  go_ret
  exact Ret.mk rfl ((((Ex.refl _).alloc _).ext _).ext _)
set_option maxRecDepth 20000 in
set_option maxHeartbeats 1600000 in
theorem rf_Eq (k n p q : Int) (s : ByteArray) (A : Option Addr) (l : List Tr) (c : Nat) (w : World) (h0 : partsI k = (l.length : Int)) (h1 : 0 ≤ n) (h1' : n ≤ 1125899906842624) (h2 : k = 1) (hp : p = 0) (hq : q ≠ 0) :
    Calls Tryz.prog 63 #[.agg #[.int .i64 k, .int .i64 n, .int .i64 p, .int .i64 q, .string s, .slice A l.length c]] w (Ret w (.bool false)) := by
  have HP := Lib.hid (fun w => rParts_c k w)
  rw [h0] at HP
  clear h0
  have g1 : (q != 0) = true := by rw [bne_iff_ne]; exact hq
  have g1' : (q == 0) = false := beq_eq_false_iff_ne.2 hq
  subst hp
  have HNm := Lib.hid (fun w => names_c 1 w)
  rw [show namesB 1 = false from rfl] at HNm
  have e3 : decide (n < 0) = false := decide_eq_false (by omega)
  have e4 : decide (1125899906842624 < n) = false := decide_eq_false (by omega)
  subst h2
  go_enter Tryz.func63, Tryz.ntmps63
  go_wp2_with fail
  refine wp_region_ext (by kernel_rfl) (by kernel_rfl) ?_
  repeat (go_big_quiet_step ((go_at_call 99; exact quiet_ext (HP.out _))))
  refine wpQuiet_end (fun z => ?_)
  go_wp2_with fail
  refine (HNm.out _).mono ?_
  rintro e w' ⟨rfl, z2, rfl⟩
  go_wp2_with fail
  go_ret
  exact Ret.mk rfl ((((Ex.refl _).alloc _).ext _).ext _)
set_option maxRecDepth 20000 in
set_option maxHeartbeats 1600000 in
theorem rf_Es (k n p q : Int) (s : ByteArray) (A : Option Addr) (l : List Tr) (c : Nat) (w : World) (h0 : partsI k = (l.length : Int)) (h1 : 0 ≤ n) (h1' : n ≤ 1125899906842624) (h2 : k = 1) (hp : p = 0) (hq : q = 0) (hs : ¬ s.size = 0) :
    Calls Tryz.prog 63 #[.agg #[.int .i64 k, .int .i64 n, .int .i64 p, .int .i64 q, .string s, .slice A l.length c]] w (Ret w (.bool false)) := by
  have HP := Lib.hid (fun w => rParts_c k w)
  rw [h0] at HP
  clear h0
  have g1 : s.toList.isEmpty = false := by rw [nonempty_iff, decide_eq_false hs]
  have g2 : (s.toList == []) = false := by rw [beq_eq_false_iff_ne]; intro h9; rw [h9] at g1; simp at g1
  have g3 : (s.toList != []) = true := by unfold bne; rw [g2]; rfl
  subst hp
  subst hq
  have HNm := Lib.hid (fun w => names_c 1 w)
  rw [show namesB 1 = false from rfl] at HNm
  have e3 : decide (n < 0) = false := decide_eq_false (by omega)
  have e4 : decide (1125899906842624 < n) = false := decide_eq_false (by omega)
  subst h2
  go_enter Tryz.func63, Tryz.ntmps63
  go_wp2_with fail
  refine wp_region_ext (by kernel_rfl) (by kernel_rfl) ?_
  repeat (go_big_quiet_step ((go_at_call 99; exact quiet_ext (HP.out _))))
  refine wpQuiet_end (fun z => ?_)
  go_wp2_with fail
  refine (HNm.out _).mono ?_
  rintro e w' ⟨rfl, z2, rfl⟩
  go_wp2_with fail
  go_ret
  exact Ret.mk rfl ((((Ex.refl _).alloc _).ext _).ext _)
set_option maxRecDepth 20000 in
set_option maxHeartbeats 1600000 in
theorem rf_Fp (k n p q : Int) (s : ByteArray) (A : Option Addr) (l : List Tr) (c : Nat) (w : World) (h0 : partsI k = (l.length : Int)) (h1 : n = 0) (h2 : k ≠ 1) (hnm : namesB k = false) (hp : p ≠ 0) :
    Calls Tryz.prog 63 #[.agg #[.int .i64 k, .int .i64 n, .int .i64 p, .int .i64 q, .string s, .slice A l.length c]] w (Ret w (.bool false)) := by
  have HP := Lib.hid (fun w => rParts_c k w)
  rw [h0] at HP
  clear h0
  have g1 : (p != 0) = true := by rw [bne_iff_ne]; exact hp
  have g1' : (p == 0) = false := beq_eq_false_iff_ne.2 hp
  have HNm := Lib.hid (fun w => names_c k w)
  rw [hnm] at HNm
  have e2 : (k != 1) = true := by rw [bne_iff_ne]; exact h2
  have e2' : (k == 1) = false := beq_eq_false_iff_ne.2 h2
  subst h1
  clear hnm h2
  go_enter Tryz.func63, Tryz.ntmps63
  go_wp2_with fail
  refine wp_region_ext (by kernel_rfl) (by kernel_rfl) ?_
  repeat (go_big_quiet_step ((go_at_call 99; exact quiet_ext (HP.out _))))
  refine wpQuiet_end (fun z => ?_)
  go_wp2_with fail
  refine (HNm.out _).mono ?_
  rintro e w' ⟨rfl, z2, rfl⟩
  go_wp2_with fail
  go_ret
  exact Ret.mk rfl ((((Ex.refl _).alloc _).ext _).ext _)
set_option maxRecDepth 20000 in
set_option maxHeartbeats 1600000 in
theorem rf_Fq (k n p q : Int) (s : ByteArray) (A : Option Addr) (l : List Tr) (c : Nat) (w : World) (h0 : partsI k = (l.length : Int)) (h1 : n = 0) (h2 : k ≠ 1) (hnm : namesB k = false) (hp : p = 0) (hq : q ≠ 0) :
    Calls Tryz.prog 63 #[.agg #[.int .i64 k, .int .i64 n, .int .i64 p, .int .i64 q, .string s, .slice A l.length c]] w (Ret w (.bool false)) := by
  have HP := Lib.hid (fun w => rParts_c k w)
  rw [h0] at HP
  clear h0
  have g1 : (q != 0) = true := by rw [bne_iff_ne]; exact hq
  have g1' : (q == 0) = false := beq_eq_false_iff_ne.2 hq
  subst hp
  have HNm := Lib.hid (fun w => names_c k w)
  rw [hnm] at HNm
  have e2 : (k != 1) = true := by rw [bne_iff_ne]; exact h2
  have e2' : (k == 1) = false := beq_eq_false_iff_ne.2 h2
  subst h1
  clear hnm h2
  go_enter Tryz.func63, Tryz.ntmps63
  go_wp2_with fail
  refine wp_region_ext (by kernel_rfl) (by kernel_rfl) ?_
  repeat (go_big_quiet_step ((go_at_call 99; exact quiet_ext (HP.out _))))
  refine wpQuiet_end (fun z => ?_)
  go_wp2_with fail
  refine (HNm.out _).mono ?_
  rintro e w' ⟨rfl, z2, rfl⟩
  go_wp2_with fail
  go_ret
  exact Ret.mk rfl ((((Ex.refl _).alloc _).ext _).ext _)
set_option maxRecDepth 20000 in
set_option maxHeartbeats 1600000 in
theorem rf_Fs (k n p q : Int) (s : ByteArray) (A : Option Addr) (l : List Tr) (c : Nat) (w : World) (h0 : partsI k = (l.length : Int)) (h1 : n = 0) (h2 : k ≠ 1) (hnm : namesB k = false) (hp : p = 0) (hq : q = 0) (hs : ¬ s.size = 0) :
    Calls Tryz.prog 63 #[.agg #[.int .i64 k, .int .i64 n, .int .i64 p, .int .i64 q, .string s, .slice A l.length c]] w (Ret w (.bool false)) := by
  have HP := Lib.hid (fun w => rParts_c k w)
  rw [h0] at HP
  clear h0
  have g1 : s.toList.isEmpty = false := by rw [nonempty_iff, decide_eq_false hs]
  have g2 : (s.toList == []) = false := by rw [beq_eq_false_iff_ne]; intro h9; rw [h9] at g1; simp at g1
  have g3 : (s.toList != []) = true := by unfold bne; rw [g2]; rfl
  subst hp
  subst hq
  have HNm := Lib.hid (fun w => names_c k w)
  rw [hnm] at HNm
  have e2 : (k != 1) = true := by rw [bne_iff_ne]; exact h2
  have e2' : (k == 1) = false := beq_eq_false_iff_ne.2 h2
  subst h1
  clear hnm h2
  go_enter Tryz.func63, Tryz.ntmps63
  go_wp2_with fail
  refine wp_region_ext (by kernel_rfl) (by kernel_rfl) ?_
  repeat (go_big_quiet_step ((go_at_call 99; exact quiet_ext (HP.out _))))
  refine wpQuiet_end (fun z => ?_)
  go_wp2_with fail
  refine (HNm.out _).mono ?_
  rintro e w' ⟨rfl, z2, rfl⟩
  go_wp2_with fail
  go_ret
  exact Ret.mk rfl ((((Ex.refl _).alloc _).ext _).ext _)
set_option maxRecDepth 20000 in
set_option maxHeartbeats 1600000 in
theorem rf_E0 (k n p q : Int) (s : ByteArray) (A : Option Addr) (l : List Tr) (c : Nat) (w : World) (h0 : partsI k = (l.length : Int)) (h1 : 0 ≤ n) (h1' : n ≤ 1125899906842624) (h2 : k = 1) (hp : p = 0) (hq : q = 0) (hs : s.size = 0) (Q : Nat → Prop) (N : Nat) (hl : l.length ≤ 1000000) (ht : TrC Q w (.node k n p q s l) (c6 k n p q s A l.length c)) (hN : ∀ (j : Nat) (x : Tr), l[j]? = some x → x.size ≤ N) (g : Tr → Bool) (HC : Hid (∀ w' x k n p q s A m c, x.size ≤ N → TrC Q w' x (c6 k n p q s A m c) → Calls Tryz.prog 63 #[.agg #[.int .i64 k, .int .i64 n, .int .i64 p, .int .i64 q, .string s, .slice A m c]] w' (Ret w' (.bool (g x))))) (RES : Bool) (HT : Hid ((∀ (i : Nat) (x : Tr), l[i]? = some x → g x = true) → RES = true)) (HF : Hid (∀ (i : Nat) (x : Tr), l[i]? = some x → g x = false → RES = false)) :
    Calls Tryz.prog 63 #[.agg #[.int .i64 k, .int .i64 n, .int .i64 p, .int .i64 q, .string s, .slice A l.length c]] w (Ret w (.bool RES)) := by
  have HP := Lib.hid (fun w => rParts_c k w)
  obtain ⟨_, _, _, _, _, _, hk⟩ := ht.kids
  have HK := Lib.hid (fun w' (hx : Ex w w') j x (hj : l[j]? = some x) => (hk j x hj).ex hx)
  have HG : Hid (∀ j, j < l.length → ∃ x, l[j]? = some x) := fun j hj => ⟨_, List.getElem?_eq_getElem hj⟩
  have HI := Lib.hid hN
  clear hk ht hN
  rw [h0] at HP
  clear h0
  subst hp
  subst hq
  have hs9 := empty_of hs
  subst hs9
  have HNm := Lib.hid (fun w => names_c 1 w)
  rw [show namesB 1 = false from rfl] at HNm
  have e3 : decide (n < 0) = false := decide_eq_false (by omega)
  have e4 : decide (1125899906842624 < n) = false := decide_eq_false (by omega)
  subst h2
  go_enter Tryz.func63, Tryz.ntmps63
  go_wp2_with fail
  refine wp_region_ext (by kernel_rfl) (by kernel_rfl) ?_
  repeat (go_big_quiet_step ((go_at_call 99; exact quiet_ext (HP.out _))))
  refine wpQuiet_end (fun z => ?_)
  go_wp2_with fail
  refine (HNm.out _).mono ?_
  rintro e w' ⟨rfl, z2, rfl⟩
  have HZ : Hid (Blk (ext (ext (w.alloc (.cells #[.int .i64 1, .int .i64 n, .int .i64 0, .int .i64 0, .string ⟨#[]⟩, .slice A l.length c] 24)) z) z2) w.heap.size 24 (c6 1 n 0 0 ⟨#[]⟩ A l.length c)) := (Blk.new w _ _).ex (((Ex.refl _).ext _).ext _)
  have HX0 : Hid (Ex w (ext (ext (w.alloc (.cells #[.int .i64 1, .int .i64 n, .int .i64 0, .int .i64 0, .string ⟨#[]⟩, .slice A l.length c] 24)) z) z2)) := (((Ex.refl w).alloc _).ext _).ext _
  obtain ⟨W0, hW0⟩ : ∃ W0, W0 = ext (ext (w.alloc (.cells #[.int .i64 1, .int .i64 n, .int .i64 0, .int .i64 0, .string ⟨#[]⟩, .slice A l.length c] 24)) z) z2 := ⟨_, rfl⟩
  rw [← hW0] at HZ HX0
  have HW0 := Lib.hid hW0
  clear hW0
  go_wp2_with fail
  rw [← HW0.out]
  go_loopw [3] (fun i wr => ∃ j : Nat, i = .int .i64 j ∧ j ≤ l.length ∧ Hid ((∀ (i : Nat) (x : Tr), i < j → l[i]? = some x → g x = true) ∧ Ex W0 wr)) (fun i _ => l.length - (intOf i).toNat)
  case atStart => exact ⟨0, rfl, Nat.zero_le _, Lib.hid ⟨fun i x h => absurd h (by omega), Ex.refl _⟩⟩
  case round =>
    obtain ⟨j, rfl, hj, HH⟩ := hrel
    have hz := HZ.out.ex HH.out.2
    have lz := hz.lt
    have r5 : wr.cell? ⟨w.heap.size, 5, none⟩ = some (.slice A l.length c) := hz.cell 5
    clear hz
    by_cases hlt : j < l.length
    · have m1 : (j : Int) < (l.length : Int) := by omega
      have m0 : (0 : Int) ≤ (j : Int) := by omega
      obtain ⟨x, hx⟩ := HG.out j hlt
      obtain ⟨b, o, k2, n2, p2, q2, s2, B, m2, c2, rfl, hb, h0, h1, h2, h3, h4, h5, htx⟩ := HK.out _ (HX0.out.trans HH.out.2) j x hx
      have HCx := Lib.hid (fun w' (hy : Ex wr w') => HC.out w' x k2 n2 p2 q2 s2 B m2 c2 (HI.out j x hx) (htx.ex hy))
      obtain ⟨qq, hqq⟩ : ∃ qq, g x = qq := ⟨_, rfl⟩
      rw [hqq] at HCx
      have HXY := Lib.hid (And.intro hx hqq)
      clear htx hx hqq
      cases qq with
      | true =>
        go_wp2_with fail
        refine (HCx.out _ (Ex.refl _)).mono ?_
        rintro e w' ⟨rfl, z3, rfl⟩
        go_wp2_with fail
        refine ⟨⟨j + 1, by go_num, by omega, Lib.hid ⟨fun i y hi hy => ?_, HH.out.2.ext _⟩⟩, by simp [intOf]; omega⟩
        by_cases hij : i = j
        · subst hij
          have h9 := HXY.out.1
          rw [h9] at hy
          injection hy with hy
          rw [← hy]; exact HXY.out.2
        · exact HH.out.1 i y (by omega) hy
      | false =>
        go_wp2_with fail
        refine (HCx.out _ (Ex.refl _)).mono ?_
        rintro e w' ⟨rfl, z3, rfl⟩
        go_wp2_with fail
        go_ret
        exact Ret.mk (by rw [HF.out j x HXY.out.1 HXY.out.2]; rfl) (HX0.out.trans (HH.out.2.ext _))
    · have hjl : j = l.length := by omega
      subst hjl
      have m1 : decide (((l.length : Nat) : Int) < (l.length : Int)) = false := decide_eq_false (by omega)
      have HR := Lib.hid (HT.out (fun i x hi => HH.out.1 i x (by
        rcases Nat.lt_or_ge i l.length with h | h
        · exact h
        · rw [List.getElem?_eq_none h] at hi; cases hi) hi))
      have HE := Lib.hid HH.out.2
      clear hlt HH
      go_wp2_with fail
      go_ret
      exact Ret.mk (by rw [HR.out]; rfl) (HX0.out.trans HE.out)
set_option maxRecDepth 20000 in
set_option maxHeartbeats 1600000 in
theorem rf_F0 (k n p q : Int) (s : ByteArray) (A : Option Addr) (l : List Tr) (c : Nat) (w : World) (h0 : partsI k = (l.length : Int)) (h1 : n = 0) (h2 : k ≠ 1) (hnm : namesB k = false) (hp : p = 0) (hq : q = 0) (hs : s.size = 0) (Q : Nat → Prop) (N : Nat) (hl : l.length ≤ 1000000) (ht : TrC Q w (.node k n p q s l) (c6 k n p q s A l.length c)) (hN : ∀ (j : Nat) (x : Tr), l[j]? = some x → x.size ≤ N) (g : Tr → Bool) (HC : Hid (∀ w' x k n p q s A m c, x.size ≤ N → TrC Q w' x (c6 k n p q s A m c) → Calls Tryz.prog 63 #[.agg #[.int .i64 k, .int .i64 n, .int .i64 p, .int .i64 q, .string s, .slice A m c]] w' (Ret w' (.bool (g x))))) (RES : Bool) (HT : Hid ((∀ (i : Nat) (x : Tr), l[i]? = some x → g x = true) → RES = true)) (HF : Hid (∀ (i : Nat) (x : Tr), l[i]? = some x → g x = false → RES = false)) :
    Calls Tryz.prog 63 #[.agg #[.int .i64 k, .int .i64 n, .int .i64 p, .int .i64 q, .string s, .slice A l.length c]] w (Ret w (.bool RES)) := by
  have HP := Lib.hid (fun w => rParts_c k w)
  obtain ⟨_, _, _, _, _, _, hk⟩ := ht.kids
  have HK := Lib.hid (fun w' (hx : Ex w w') j x (hj : l[j]? = some x) => (hk j x hj).ex hx)
  have HG : Hid (∀ j, j < l.length → ∃ x, l[j]? = some x) := fun j hj => ⟨_, List.getElem?_eq_getElem hj⟩
  have HI := Lib.hid hN
  clear hk ht hN
  rw [h0] at HP
  clear h0
  subst hp
  subst hq
  have hs9 := empty_of hs
  subst hs9
  have HNm := Lib.hid (fun w => names_c k w)
  rw [hnm] at HNm
  have e2 : (k != 1) = true := by rw [bne_iff_ne]; exact h2
  have e2' : (k == 1) = false := beq_eq_false_iff_ne.2 h2
  subst h1
  clear hnm h2
  go_enter Tryz.func63, Tryz.ntmps63
  go_wp2_with fail
  refine wp_region_ext (by kernel_rfl) (by kernel_rfl) ?_
  repeat (go_big_quiet_step ((go_at_call 99; exact quiet_ext (HP.out _))))
  refine wpQuiet_end (fun z => ?_)
  go_wp2_with fail
  refine (HNm.out _).mono ?_
  rintro e w' ⟨rfl, z2, rfl⟩
  have HZ : Hid (Blk (ext (ext (w.alloc (.cells #[.int .i64 k, .int .i64 0, .int .i64 0, .int .i64 0, .string ⟨#[]⟩, .slice A l.length c] 24)) z) z2) w.heap.size 24 (c6 k 0 0 0 ⟨#[]⟩ A l.length c)) := (Blk.new w _ _).ex (((Ex.refl _).ext _).ext _)
  have HX0 : Hid (Ex w (ext (ext (w.alloc (.cells #[.int .i64 k, .int .i64 0, .int .i64 0, .int .i64 0, .string ⟨#[]⟩, .slice A l.length c] 24)) z) z2)) := (((Ex.refl w).alloc _).ext _).ext _
  obtain ⟨W0, hW0⟩ : ∃ W0, W0 = ext (ext (w.alloc (.cells #[.int .i64 k, .int .i64 0, .int .i64 0, .int .i64 0, .string ⟨#[]⟩, .slice A l.length c] 24)) z) z2 := ⟨_, rfl⟩
  rw [← hW0] at HZ HX0
  have HW0 := Lib.hid hW0
  clear hW0
  go_wp2_with fail
  rw [← HW0.out]
  go_loopw [3] (fun i wr => ∃ j : Nat, i = .int .i64 j ∧ j ≤ l.length ∧ Hid ((∀ (i : Nat) (x : Tr), i < j → l[i]? = some x → g x = true) ∧ Ex W0 wr)) (fun i _ => l.length - (intOf i).toNat)
  case atStart => exact ⟨0, rfl, Nat.zero_le _, Lib.hid ⟨fun i x h => absurd h (by omega), Ex.refl _⟩⟩
  case round =>
    obtain ⟨j, rfl, hj, HH⟩ := hrel
    have hz := HZ.out.ex HH.out.2
    have lz := hz.lt
    have r5 : wr.cell? ⟨w.heap.size, 5, none⟩ = some (.slice A l.length c) := hz.cell 5
    clear hz
    by_cases hlt : j < l.length
    · have m1 : (j : Int) < (l.length : Int) := by omega
      have m0 : (0 : Int) ≤ (j : Int) := by omega
      obtain ⟨x, hx⟩ := HG.out j hlt
      obtain ⟨b, o, k2, n2, p2, q2, s2, B, m2, c2, rfl, hb, h0, h1, h2, h3, h4, h5, htx⟩ := HK.out _ (HX0.out.trans HH.out.2) j x hx
      have HCx := Lib.hid (fun w' (hy : Ex wr w') => HC.out w' x k2 n2 p2 q2 s2 B m2 c2 (HI.out j x hx) (htx.ex hy))
      obtain ⟨qq, hqq⟩ : ∃ qq, g x = qq := ⟨_, rfl⟩
      rw [hqq] at HCx
      have HXY := Lib.hid (And.intro hx hqq)
      clear htx hx hqq
      cases qq with
      | true =>
        go_wp2_with fail
        refine (HCx.out _ (Ex.refl _)).mono ?_
        rintro e w' ⟨rfl, z3, rfl⟩
        go_wp2_with fail
        refine ⟨⟨j + 1, by go_num, by omega, Lib.hid ⟨fun i y hi hy => ?_, HH.out.2.ext _⟩⟩, by simp [intOf]; omega⟩
        by_cases hij : i = j
        · subst hij
          have h9 := HXY.out.1
          rw [h9] at hy
          injection hy with hy
          rw [← hy]; exact HXY.out.2
        · exact HH.out.1 i y (by omega) hy
      | false =>
        go_wp2_with fail
        refine (HCx.out _ (Ex.refl _)).mono ?_
        rintro e w' ⟨rfl, z3, rfl⟩
        go_wp2_with fail
        go_ret
        exact Ret.mk (by rw [HF.out j x HXY.out.1 HXY.out.2]; rfl) (HX0.out.trans (HH.out.2.ext _))
    · have hjl : j = l.length := by omega
      subst hjl
      have m1 : decide (((l.length : Nat) : Int) < (l.length : Int)) = false := decide_eq_false (by omega)
      have HR := Lib.hid (HT.out (fun i x hi => HH.out.1 i x (by
        rcases Nat.lt_or_ge i l.length with h | h
        · exact h
        · rw [List.getElem?_eq_none h] at hi; cases hi) hi))
      have HE := Lib.hid HH.out.2
      clear hlt HH
      go_wp2_with fail
      go_ret
      exact Ret.mk (by rw [HR.out]; rfl) (HX0.out.trans HE.out)
set_option maxRecDepth 20000 in
set_option maxHeartbeats 1600000 in
theorem rf_FN (k n p q : Int) (s : ByteArray) (A : Option Addr) (l : List Tr) (c : Nat) (w : World) (h0 : partsI k = (l.length : Int)) (h1 : n = 0) (h2 : k ≠ 1) (hnm : namesB k = true) (Q : Nat → Prop) (N : Nat) (hl : l.length ≤ 1000000) (ht : TrC Q w (.node k n p q s l) (c6 k n p q s A l.length c)) (hN : ∀ (j : Nat) (x : Tr), l[j]? = some x → x.size ≤ N) (g : Tr → Bool) (HC : Hid (∀ w' x k n p q s A m c, x.size ≤ N → TrC Q w' x (c6 k n p q s A m c) → Calls Tryz.prog 63 #[.agg #[.int .i64 k, .int .i64 n, .int .i64 p, .int .i64 q, .string s, .slice A m c]] w' (Ret w' (.bool (g x))))) (RES : Bool) (HT : Hid ((∀ (i : Nat) (x : Tr), l[i]? = some x → g x = true) → RES = true)) (HF : Hid (∀ (i : Nat) (x : Tr), l[i]? = some x → g x = false → RES = false)) :
    Calls Tryz.prog 63 #[.agg #[.int .i64 k, .int .i64 n, .int .i64 p, .int .i64 q, .string s, .slice A l.length c]] w (Ret w (.bool RES)) := by
  have HP := Lib.hid (fun w => rParts_c k w)
  obtain ⟨_, _, _, _, _, _, hk⟩ := ht.kids
  have HK := Lib.hid (fun w' (hx : Ex w w') j x (hj : l[j]? = some x) => (hk j x hj).ex hx)
  have HG : Hid (∀ j, j < l.length → ∃ x, l[j]? = some x) := fun j hj => ⟨_, List.getElem?_eq_getElem hj⟩
  have HI := Lib.hid hN
  clear hk ht hN
  rw [h0] at HP
  clear h0
  have HNm := Lib.hid (fun w => names_c k w)
  rw [hnm] at HNm
  have e2 : (k != 1) = true := by rw [bne_iff_ne]; exact h2
  have e2' : (k == 1) = false := beq_eq_false_iff_ne.2 h2
  subst h1
  clear hnm h2
  go_enter Tryz.func63, Tryz.ntmps63
  go_wp2_with fail
  refine wp_region_ext (by kernel_rfl) (by kernel_rfl) ?_
  repeat (go_big_quiet_step ((go_at_call 99; exact quiet_ext (HP.out _))))
  refine wpQuiet_end (fun z => ?_)
  go_wp2_with fail
  refine (HNm.out _).mono ?_
  rintro e w' ⟨rfl, z2, rfl⟩
  have HZ : Hid (Blk (ext (ext (w.alloc (.cells #[.int .i64 k, .int .i64 0, .int .i64 p, .int .i64 q, .string s, .slice A l.length c] 24)) z) z2) w.heap.size 24 (c6 k 0 p q s A l.length c)) := (Blk.new w _ _).ex (((Ex.refl _).ext _).ext _)
  have HX0 : Hid (Ex w (ext (ext (w.alloc (.cells #[.int .i64 k, .int .i64 0, .int .i64 p, .int .i64 q, .string s, .slice A l.length c] 24)) z) z2)) := (((Ex.refl w).alloc _).ext _).ext _
  obtain ⟨W0, hW0⟩ : ∃ W0, W0 = ext (ext (w.alloc (.cells #[.int .i64 k, .int .i64 0, .int .i64 p, .int .i64 q, .string s, .slice A l.length c] 24)) z) z2 := ⟨_, rfl⟩
  rw [← hW0] at HZ HX0
  have HW0 := Lib.hid hW0
  clear hW0
  go_wp2_with fail
  rw [← HW0.out]
  go_loopw [3] (fun i wr => ∃ j : Nat, i = .int .i64 j ∧ j ≤ l.length ∧ Hid ((∀ (i : Nat) (x : Tr), i < j → l[i]? = some x → g x = true) ∧ Ex W0 wr)) (fun i _ => l.length - (intOf i).toNat)
  case atStart => exact ⟨0, rfl, Nat.zero_le _, Lib.hid ⟨fun i x h => absurd h (by omega), Ex.refl _⟩⟩
  case round =>
    obtain ⟨j, rfl, hj, HH⟩ := hrel
    have hz := HZ.out.ex HH.out.2
    have lz := hz.lt
    have r5 : wr.cell? ⟨w.heap.size, 5, none⟩ = some (.slice A l.length c) := hz.cell 5
    clear hz
    by_cases hlt : j < l.length
    · have m1 : (j : Int) < (l.length : Int) := by omega
      have m0 : (0 : Int) ≤ (j : Int) := by omega
      obtain ⟨x, hx⟩ := HG.out j hlt
      obtain ⟨b, o, k2, n2, p2, q2, s2, B, m2, c2, rfl, hb, h0, h1, h2, h3, h4, h5, htx⟩ := HK.out _ (HX0.out.trans HH.out.2) j x hx
      have HCx := Lib.hid (fun w' (hy : Ex wr w') => HC.out w' x k2 n2 p2 q2 s2 B m2 c2 (HI.out j x hx) (htx.ex hy))
      obtain ⟨qq, hqq⟩ : ∃ qq, g x = qq := ⟨_, rfl⟩
      rw [hqq] at HCx
      have HXY := Lib.hid (And.intro hx hqq)
      clear htx hx hqq
      cases qq with
      | true =>
        go_wp2_with fail
        refine (HCx.out _ (Ex.refl _)).mono ?_
        rintro e w' ⟨rfl, z3, rfl⟩
        go_wp2_with fail
        refine ⟨⟨j + 1, by go_num, by omega, Lib.hid ⟨fun i y hi hy => ?_, HH.out.2.ext _⟩⟩, by simp [intOf]; omega⟩
        by_cases hij : i = j
        · subst hij
          have h9 := HXY.out.1
          rw [h9] at hy
          injection hy with hy
          rw [← hy]; exact HXY.out.2
        · exact HH.out.1 i y (by omega) hy
      | false =>
        go_wp2_with fail
        refine (HCx.out _ (Ex.refl _)).mono ?_
        rintro e w' ⟨rfl, z3, rfl⟩
        go_wp2_with fail
        go_ret
        exact Ret.mk (by rw [HF.out j x HXY.out.1 HXY.out.2]; rfl) (HX0.out.trans (HH.out.2.ext _))
    · have hjl : j = l.length := by omega
      subst hjl
      have m1 : decide (((l.length : Nat) : Int) < (l.length : Int)) = false := decide_eq_false (by omega)
      have HR := Lib.hid (HT.out (fun i x hi => HH.out.1 i x (by
        rcases Nat.lt_or_ge i l.length with h | h
        · exact h
        · rw [List.getElem?_eq_none h] at hi; cases hi) hi))
      have HE := Lib.hid HH.out.2
      clear hlt HH
      go_wp2_with fail
      go_ret
      exact Ret.mk (by rw [HR.out]; rfl) (HX0.out.trans HE.out)
set_option maxHeartbeats 1600000 in
theorem rformed_c : ∀ (N : Nat) (t : Tr) (Q : Nat → Prop) (w : World) (k n p q : Int) (s : ByteArray) (A : Option Addr) (m c : Nat), t.size ≤ N → N ≤ 1000000 → TrC Q w t (c6 k n p q s A m c) →
    Calls Tryz.prog 63 #[.agg #[.int .i64 k, .int .i64 n, .int .i64 p, .int .i64 q, .string s, .slice A m c]] w (Ret w (.bool (formedB plainB t))) := by
  intro N
  induction N with
  | zero => intro t Q w k n p q s A m c h; exact absurd h (by have := t.size_pos; omega)
  | succ N ih =>
    intro t Q w k n p q s A m c hs hN ht
    obtain ⟨k1, n1, p1, q1, s1, l⟩ := t
    have ht' := ht
    obtain ⟨rfl, rfl, rfl, rfl, rfl, rfl, -⟩ := ht.kids
    have hlen := Tr.len_le (l := l)
    rw [Tr.size_node] at hs
    have hI : ∀ (j : Nat) (x : Tr), l[j]? = some x → x.size ≤ N := fun j x hj => by
      have := mem_le_sum (l.map Tr.size) x.size (List.mem_map.2 ⟨x, List.mem_of_getElem? hj, rfl⟩)
      omega
    have HC := Lib.hid (fun w' (x : Tr) k n p q s A m c (h1 : x.size ≤ N) (h : TrC Q w' x (c6 k n p q s A m c)) => ih x Q w' k n p q s A m c h1 (by omega) h)
    have hT : headB k n l.length = true → plainB k p q s = true → (∀ (i : Nat) (x : Tr), l[i]? = some x → formedB plainB x = true) → formedB plainB (.node k n p q s l) = true := fun a b h => by
      rw [formed_node, a, b]
      simp only [Bool.true_and, Bool.not_eq_true']
      rw [List.any_eq_false]
      intro x hx
      obtain ⟨i, hi⟩ := List.mem_iff_getElem?.1 hx
      rw [h i x hi]; simp
    have hF : ∀ (i : Nat) (x : Tr), l[i]? = some x → formedB plainB x = false → formedB plainB (.node k n p q s l) = false := fun i x hi h => by
      rw [formed_node]
      have : l.any (fun x => !formedB plainB x) = true := List.any_eq_true.2 ⟨x, List.mem_of_getElem? hi, by rw [h]; rfl⟩
      rw [this]; simp
    have no : headB k n l.length = false ∨ plainB k p q s = false → formedB plainB (.node k n p q s l) = false := fun h => by
      rw [formed_node]
      rcases h with h | h <;> rw [h] <;> simp
    by_cases h0 : partsI k = (l.length : Int)
    · by_cases h2 : k = 1
      · by_cases h5 : n < 0
        · rw [no (.inl (by unfold headB; rw [decide_eq_false (show ¬ 0 ≤ n by omega)]; simp))]
          exact rf_C k n p q s A l c w h0 h5 h2
        · by_cases h6 : 1125899906842624 < n
          · rw [no (.inl (by unfold headB; rw [decide_eq_false (show ¬ n ≤ 1125899906842624 by omega)]; simp))]
            exact rf_D k n p q s A l c w h0 h6 h2
          · have hh : headB k n l.length = true := by unfold headB; rw [decide_eq_true h0, decide_eq_true h2, decide_eq_true (show 0 ≤ n by omega), decide_eq_true (show n ≤ 1125899906842624 by omega)]; simp
            have hnm : namesB k = false := by rw [h2]; rfl
            by_cases hp : p = 0
            · by_cases hq : q = 0
              · by_cases hz : s.size = 0
                · have hpl : plainB k p q s = true := by unfold plainB; rw [decide_eq_true hp, decide_eq_true hq, decide_eq_true hz]; simp
                  exact rf_E0 k n p q s A l c w h0 (by omega) (by omega) h2 hp hq hz Q N (by omega) ht' hI (formedB plainB) HC _ (Lib.hid (hT hh hpl)) (Lib.hid hF)
                · rw [no (.inr (by unfold plainB; rw [hnm, decide_eq_false hz]; simp))]
                  exact rf_Es k n p q s A l c w h0 (by omega) (by omega) h2 hp hq hz
              · rw [no (.inr (by unfold plainB; rw [hnm, decide_eq_false hq]; simp))]
                exact rf_Eq k n p q s A l c w h0 (by omega) (by omega) h2 hp hq
            · rw [no (.inr (by unfold plainB; rw [hnm, decide_eq_false hp]; simp))]
              exact rf_Ep k n p q s A l c w h0 (by omega) (by omega) h2 hp
      · by_cases h1 : n = 0
        · have hh : headB k n l.length = true := by unfold headB; rw [decide_eq_true h0, decide_eq_true h1, decide_eq_true (show 0 ≤ n by omega), decide_eq_true (show n ≤ 1125899906842624 by omega)]; simp
          cases hnm : namesB k with
          | true =>
            have hpl : plainB k p q s = true := by unfold plainB; rw [hnm]; simp
            exact rf_FN k n p q s A l c w h0 h1 h2 hnm Q N (by omega) ht' hI (formedB plainB) HC _ (Lib.hid (hT hh hpl)) (Lib.hid hF)
          | false =>
            by_cases hp : p = 0
            · by_cases hq : q = 0
              · by_cases hz : s.size = 0
                · have hpl : plainB k p q s = true := by unfold plainB; rw [decide_eq_true hp, decide_eq_true hq, decide_eq_true hz]; simp
                  exact rf_F0 k n p q s A l c w h0 h1 h2 hnm hp hq hz Q N (by omega) ht' hI (formedB plainB) HC _ (Lib.hid (hT hh hpl)) (Lib.hid hF)
                · rw [no (.inr (by unfold plainB; rw [hnm, decide_eq_false hz]; simp))]
                  exact rf_Fs k n p q s A l c w h0 h1 h2 hnm hp hq hz
              · rw [no (.inr (by unfold plainB; rw [hnm, decide_eq_false hq]; simp))]
                exact rf_Fq k n p q s A l c w h0 h1 h2 hnm hp hq
            · rw [no (.inr (by unfold plainB; rw [hnm, decide_eq_false hp]; simp))]
              exact rf_Fp k n p q s A l c w h0 h1 h2 hnm hp
        · rw [no (.inl (by unfold headB; rw [decide_eq_false h1, decide_eq_false h2]; simp))]
          exact rf_B k n p q s A l c w h0 h1 h2
    · rw [no (.inl (by unfold headB; rw [decide_eq_false h0]; simp))]
      exact rf_A k n p q s A l c w h0
set_option maxHeartbeats 1600000 in
theorem rFormed_c (t : Tr) (Q : Nat → Prop) (w : World) (k n p q : Int) (s : ByteArray) (A : Option Addr) (m c : Nat) (hs : t.size ≤ 1000000) (ht : TrC Q w t (c6 k n p q s A m c)) :
    Calls Tryz.prog 36 #[.agg #[.int .i64 k, .int .i64 n, .int .i64 p, .int .i64 q, .string s, .slice A m c]] w (Ret w (.bool (smallB t && formedB plainB t))) := by
  have H1 := Lib.hid (fun w' (hx : Ex w w') => rCount_c t.size 200 t Q w' k n p q s A m c (Nat.le_refl _) hs (by omega) (ht.ex hx))
  unfold CountR at H1
  have H2 := Lib.hid (fun w' (hx : Ex w w') => rDepth_c t.size t Q w' k n p q s A m c (Nat.le_refl _) hs (ht.ex hx))
  have H3 := Lib.hid (fun w' (hx : Ex w w') => rformed_c t.size t Q w' k n p q s A m c (Nat.le_refl _) hs (ht.ex hx))
  have hd := t.depth_le
  unfold smallB
  generalize formedB plainB t = b at *
  generalize t.size = N at *
  generalize t.depth = D at *
  clear ht
  by_cases h1 : N ≤ 200
  · rw [decide_eq_true h1]
    by_cases h2 : D ≤ 20
    · rw [decide_eq_true h2]
      have z2 : (D : Int) ≤ 20 := by omega
      go_enter Tryz.func36, Tryz.ntmps36
      go_wp2_with fail
      refine (H1.out _ ((Ex.refl _).alloc _)).mono ?_
      rintro e w' ⟨v, rfl, hv1, hv2, hv3, z, rfl⟩
      have z1 : (v : Int) ≤ 200 := by omega
      clear hv1 hv2 hv3
      go_wp2_with fail
      refine (H2.out _ (((Ex.refl _).alloc _).ext _)).mono ?_
      rintro e w' ⟨rfl, z3, rfl⟩
      go_wp2_with fail
      refine (H3.out _ ((((Ex.refl _).alloc _).ext _).ext _)).mono ?_
      rintro e w' ⟨rfl, z4, rfl⟩
      go_wp2_with fail
      go_ret
      exact Ret.mk (by simp) (((((Ex.refl _).alloc _).ext _).ext _).ext _)
    · rw [decide_eq_false h2]
      have z2 : decide ((D : Int) ≤ 20) = false := decide_eq_false (by omega)
      go_enter Tryz.func36, Tryz.ntmps36
      go_wp2_with fail
      refine (H1.out _ ((Ex.refl _).alloc _)).mono ?_
      rintro e w' ⟨v, rfl, hv1, hv2, hv3, z, rfl⟩
      have z1 : (v : Int) ≤ 200 := by omega
      clear hv1 hv2 hv3
      go_wp2_with fail
      refine (H2.out _ (((Ex.refl _).alloc _).ext _)).mono ?_
      rintro e w' ⟨rfl, z3, rfl⟩
      go_wp2_with fail
      go_ret
      exact Ret.mk (by simp) ((((Ex.refl _).alloc _).ext _).ext _)
  · rw [decide_eq_false h1]
    go_enter Tryz.func36, Tryz.ntmps36
    go_wp2_with fail
    refine (H1.out _ ((Ex.refl _).alloc _)).mono ?_
    rintro e w' ⟨v, rfl, hv1, hv2, hv3, z, rfl⟩
    have z1 : decide ((v : Int) ≤ 200) = false := decide_eq_false (by omega)
    clear hv1 hv2 hv3
    go_wp2_with fail
    go_ret
    exact Ret.mk (by simp) (((Ex.refl _).alloc _).ext _)
end Go.Proofs.YthjalkonlcjhnaaGreatDoor
