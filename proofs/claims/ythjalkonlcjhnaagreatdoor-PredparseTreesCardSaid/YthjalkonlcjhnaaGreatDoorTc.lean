/-
  The reference's count of nodes, and its kinds with names, walked.
  Conditions: as each theorem says.
-/
import Derived.Test.YthjalkonlcjhnaaGreatDoorQn
namespace Go.Proofs.YthjalkonlcjhnaaGreatDoor
open Go.RowKit
def CountR (L : Nat) (t : Tr) (w : World) (e : Ending) (w' : World) : Prop := ∃ v : Nat, e = .returned (.int .i64 v) ∧ v ≤ t.size ∧ (t.size ≤ L → v = t.size) ∧ (L < t.size → L < v) ∧ Ex w w'
set_option maxRecDepth 20000 in
set_option maxHeartbeats 1600000 in
theorem rCount_c : ∀ (N L : Nat) (t : Tr) (Q : Nat → Prop) (w : World) (k n p q : Int) (s : ByteArray) (A : Option Addr) (m c : Nat), t.size ≤ N → N ≤ 1000000 → L ≤ 1000000 → TrC Q w t (c6 k n p q s A m c) →
    Calls Tryz.prog 62 #[.agg #[.int .i64 k, .int .i64 n, .int .i64 p, .int .i64 q, .string s, .slice A m c], .int .i64 (L : Nat)] w (CountR L t w) := by
  intro N
  induction N with
  | zero => intro L t Q w k n p q s A m c h; exact absurd h (by have := t.size_pos; omega)
  | succ N ih =>
    intro L t Q w k n p q s A m c hs hN hL ht
    obtain ⟨k1, n1, p1, q1, s1, l⟩ := t
    obtain ⟨rfl, rfl, rfl, rfl, rfl, rfl, hk⟩ := ht.kids
    have hlen := Tr.len_le (l := l)
    unfold CountR
    rw [Tr.size_node] at hs
    rw [Tr.size_node]
    have HK := Lib.hid (fun w' (hx : Ex w w') j x (hj : l[j]? = some x) => (hk j x hj).ex hx)
    have HG : Hid (∀ j, j < l.length → ∃ x, l[j]? = some x) := fun j hj => ⟨_, List.getElem?_eq_getElem hj⟩
    have HI : Hid (∀ j x, l[j]? = some x → x.size ≤ N ∧ x.size ≤ 1000000 ∧ (1 + ((l.take j).map Tr.size).sum) + x.size = 1 + ((l.take (j + 1)).map Tr.size).sum ∧ 1 + ((l.take (j + 1)).map Tr.size).sum ≤ 1000001) := fun j x hj => by
      have h1 : (l.map Tr.size)[j]? = some x.size := by rw [List.getElem?_map, hj]; rfl
      have h2 := mem_le_sum _ _ (List.mem_of_getElem? h1)
      have h6 := sum_le (l.map Tr.size) (j + 1)
      have h4 := sum_take _ _ _ h1
      rw [← List.map_take, ← List.map_take] at h4
      rw [← List.map_take] at h6
      exact ⟨by omega, by omega, by omega, by omega⟩
    have HT : Hid (∀ j, 1 + ((l.take j).map Tr.size).sum ≤ 1 + (l.map Tr.size).sum) := fun j => by
      have h6 := sum_le (l.map Tr.size) j
      rw [← List.map_take] at h6
      omega
    have HC := Lib.hid (fun w' x (r : Nat) k n p q s A m c (h1 : x.size ≤ N) (hr : r ≤ 1000000) (h : TrC Q w' x (c6 k n p q s A m c)) => ih r x Q w' k n p q s A m c h1 (by omega) hr h)
    unfold CountR at HC
    have hl : l.length ≤ 1000000 := by omega
    clear ih hk ht hs hN hlen
    have HZ : Hid (Blk (w.alloc (.cells #[.int .i64 k, .int .i64 n, .int .i64 p, .int .i64 q, .string s, .slice A l.length c] 24)) w.heap.size 24 (c6 k n p q s A l.length c)) := Blk.new w _ _
    have HX0 : Hid (Ex w (w.alloc (.cells #[.int .i64 k, .int .i64 n, .int .i64 p, .int .i64 q, .string s, .slice A l.length c] 24))) := (Ex.refl w).alloc _
    obtain ⟨W0, hW0⟩ : ∃ W0, W0 = w.alloc (.cells #[.int .i64 k, .int .i64 n, .int .i64 p, .int .i64 q, .string s, .slice A l.length c] 24) := ⟨_, rfl⟩
    rw [← hW0] at HZ HX0
    have HW0 := Lib.hid hW0
    clear hW0
    go_enter Tryz.func62, Tryz.ntmps62
    go_wp2_with fail
    rw [← HW0.out]
    go_loopw [5, 6] (fun v i wr => ∃ j sv : Nat, i = .int .i64 j ∧ v = .int .i64 sv ∧ j ≤ l.length ∧ sv ≤ 1000001 ∧ Hid (sv ≤ 1 + ((l.take j).map Tr.size).sum ∧ (1 + ((l.take j).map Tr.size).sum ≤ L → sv = 1 + ((l.take j).map Tr.size).sum) ∧ (L < 1 + ((l.take j).map Tr.size).sum → L < sv) ∧ Ex W0 wr)) (fun v i _ => l.length - (intOf i).toNat)
    case atStart => exact ⟨0, 1, rfl, rfl, Nat.zero_le _, by omega, Lib.hid ⟨Nat.le_refl _, fun _ => rfl, fun h => h, Ex.refl _⟩⟩
    case round =>
      obtain ⟨j, sv, rfl, rfl, hj, hsv, HH⟩ := hrel
      have hz := HZ.out.ex HH.out.2.2.2
      have lz := hz.lt
      have r5 : wr.cell? ⟨w.heap.size, 5, none⟩ = some (.slice A l.length c) := hz.cell 5
      clear hz
      by_cases hlt : j < l.length
      · have m1 : (j : Int) < (l.length : Int) := by omega
        have m0 : (0 : Int) ≤ (j : Int) := by omega
        by_cases hle : sv ≤ L
        · have l1 : (sv : Int) ≤ (L : Int) := by omega
          obtain ⟨r, hr⟩ : ∃ r : Nat, L = sv + r := ⟨L - sv, by omega⟩
          have e4 : (L : Int) - (sv : Int) = (r : Int) := by omega
          have hrl : r ≤ 1000000 := by omega
          obtain ⟨x, hx⟩ := HG.out j hlt
          obtain ⟨b, o, k2, n2, p2, q2, s2, B, m2, c2, rfl, hb, h0, h1, h2, h3, h4, h5, htx⟩ := HK.out _ (HX0.out.trans HH.out.2.2.2) j x hx
          obtain ⟨hx1, hx2, hx3, hx4⟩ := HI.out j x hx
          have HX3 := Lib.hid hx3
          have HX4 := Lib.hid hx4
          have HCx := Lib.hid (fun w' (hy : Ex wr w') => HC.out w' x r k2 n2 p2 q2 s2 B m2 c2 hx1 hrl (htx.ex hy))
          have hne : sv + x.size ≤ 3000000 := by omega
          have HR := Lib.hid hr
          generalize x.size = xs at *
          have HBx := Lib.hid (HH.out)
          clear hx3 hx4 htx hx hx1 HH hr
          go_wp2_with fail
          refine (HCx.out _ (by repeat (first | exact Ex.refl _ | refine Ex.alloc ?_ _))).mono ?_
          rintro e w' ⟨v, rfl, hv1, hv2, hv3, z, rfl⟩
          have HV2 := Lib.hid hv2
          have HV3 := Lib.hid hv3
          clear hv2 hv3
          have hv9 : sv + v ≤ 3000000 := by omega
          go_wp2_with fail
          have g1 := HBx.out
          have g3 := HX3.out
          have g4 := HX4.out
          have g5 := HR.out
          refine ⟨⟨j + 1, sv + v, by go_num, by go_num, by omega, by omega, Lib.hid ⟨by omega, fun h => ?_, fun h => ?_, ?_⟩⟩, by simp [intOf]; omega⟩
          · have f1 := g1.2.1 (by omega)
            have f2 := HV2.out (by omega)
            omega
          · by_cases h9 : xs ≤ r
            · have f2 := HV2.out h9
              by_cases h8 : 1 + ((l.take j).map Tr.size).sum ≤ L
              · have f1 := g1.2.1 h8
                omega
              · have f1 := g1.2.2.1 (by omega)
                omega
            · have f2 := HV3.out (by omega)
              omega
          · exact g1.2.2.2.trans (Ex.ext (by repeat (first | exact Ex.refl _ | refine Ex.alloc ?_ _)) _)
        · have l1 : decide ((sv : Int) ≤ (L : Int)) = false := decide_eq_false (by omega)
          have HS := Lib.hid HH.out
          have HLt := Lib.hid hle
          clear HH hle
          go_wp2_with fail
          go_ret
          have g1 := HS.out
          have g2 := HT.out j
          have g3 := HLt.out
          exact ⟨sv, rfl, by omega, fun h => by omega, fun _ => by omega, HX0.out.trans g1.2.2.2⟩
      · have hjl : j = l.length := by omega
        subst hjl
        have m1 : decide (((l.length : Nat) : Int) < (l.length : Int)) = false := decide_eq_false (by omega)
        have HS := Lib.hid HH.out
        clear hlt HH
        go_wp2_with fail
        go_ret
        have g1 := HS.out
        rw [List.take_length] at g1
        exact ⟨sv, rfl, g1.1, g1.2.1, g1.2.2.1, HX0.out.trans g1.2.2.2⟩
/-- the kinds with names -/
def namesB (k : Int) : Bool := decide (k = 2) || decide (k = 3) || decide (k = 4)
theorem names_c (k : Int) (w : World) : Calls Tryz.prog 66 #[.int .i64 k] w (Ret w (.bool (namesB k))) := by
  unfold namesB
  by_cases h2 : k = 2
  · subst h2
    go_enter Tryz.func66, Tryz.ntmps66
    go_wp2_with fail
    go_ret
    exact Ret.mk rfl (Ex.refl _)
  · by_cases h3 : k = 3
    · subst h3
      go_enter Tryz.func66, Tryz.ntmps66
      go_wp2_with fail
      go_ret
      exact Ret.mk rfl (Ex.refl _)
    · by_cases h4 : k = 4
      · subst h4
        go_enter Tryz.func66, Tryz.ntmps66
        go_wp2_with fail
        go_ret
        exact Ret.mk rfl (Ex.refl _)
      · rw [decide_eq_false h2, decide_eq_false h3, decide_eq_false h4]
        have b2 : (k == 2) = false := beq_eq_false_iff_ne.2 h2
        have b3 : (k == 3) = false := beq_eq_false_iff_ne.2 h3
        have b4 : (k == 4) = false := beq_eq_false_iff_ne.2 h4
        clear h2 h3 h4
        go_enter Tryz.func66, Tryz.ntmps66
        go_wp2_with fail
        go_ret
        exact Ret.mk rfl (Ex.refl _)
end Go.Proofs.YthjalkonlcjhnaaGreatDoor
