/-
  Numbers: the sum of a list.
  Conditions: at most a million numbers.
-/
import Derived.Test.YtjbfoanboidkbaaDoorNf
import Derived.Shelf.SlicesE.IndexFunc
namespace Go.Proofs.YtjbfoanboidkbaaDoor
open Go.RowKit Nu Bn
def intsV (xs : List Int) : List Value := xs.map (fun x => .int .i64 x)
theorem is_x (n : Int) (w : World) : Calls Tryd.prog 30 #[.int .i64 n] w (fun e w' => e = .returned (.bool (isB n)) ∧ w = w') := by
  unfold isB
  cases h : decide (-1125899906842624 ≤ n)
  all_goals
    go_enter Tryd.func30, Tryd.ntmps30
    go_wp2
    go_ret
    exact ⟨by simp, rfl⟩
theorem out_x (n : Int) (w : World) : Calls Tryd.prog 40 #[.int .i64 n] w (fun e w' => e = .returned (.bool (!isB n)) ∧ w = w') := by
  have H := Lib.hid (is_x n)
  generalize isB n = b at *
  go_enter Tryd.func40, Tryd.ntmps40
  go_wp2_with fail
  refine (H.out _).mono ?_
  rintro e w' ⟨rfl, rfl⟩
  go_wp2_with fail
  go_ret
  exact ⟨rfl, rfl⟩
theorem spot_none {w : World} {a : Addr} {u : Value} (h : w.cell? a = some u) : a.spot = none := by
  unfold World.cell? at h
  split at h
  · cases hs : a.spot with
    | none => rfl
    | some x => rw [hs] at h; simp at h
  · cases h
theorem add_plain (b off j : Nat) : (⟨b, off, none⟩ : Addr).add j = ⟨b, off + j, none⟩ := by
  unfold Addr.add
  split
  · rename_i h; rw [h]; rfl
  · rfl
/-- where the cells of a list lie -/
theorem cells_at {w : World} {A : Option Addr} {xs : List Int} (hC : Cells w A (intsV xs)) (h : xs ≠ []) : ∃ b off, A = some ⟨b, off, none⟩ ∧ b < w.heap.size ∧ ∀ j, j < xs.length → w.cell? ⟨b, off + j, none⟩ = some (.int .i64 (xs.getD j 0)) := by
  match xs, hC, h with
  | x :: l, hC, _ =>
    obtain ⟨ad, e, hb, hc⟩ := hC 0 (.int .i64 x) rfl
    obtain ⟨b, off, s⟩ := ad
    have hc' : w.cell? ⟨b, off, s⟩ = some (.int .i64 x) := hc
    have hs : s = none := spot_none hc'
    subst hs
    refine ⟨b, off, e, hb, fun j hj => ?_⟩
    obtain ⟨ad2, e2, -, hc2⟩ := hC j (.int .i64 ((x :: l).getD j 0)) (by unfold intsV; rw [List.getElem?_map, List.getElem?_eq_getElem hj, List.getD_eq_getElem?_getD, List.getElem?_eq_getElem hj]; rfl)
    rw [e] at e2
    injection e2 with e2
    subst e2
    rwa [add_plain] at hc2
theorem contains_c (l : List Int) (A : Option Addr) (c : Nat) (w : World) (hC : Cells w A (intsV l)) (hl : l.length ≤ 1000000) :
    Calls Tryd.prog 39 #[.slice A l.length c, .func (.func 40) #[] #[]] w (Ret w (.bool (l.any fun x => !isB x))) := by
  by_cases h0 : l = []
  · subst h0
    refine (Tryd.slices_ContainsFunc_empty (α := Int) A c _ w).mono ?_
    rintro e w' ⟨rfl, rfl⟩
    exact ⟨rfl, Ex.refl _⟩
  · obtain ⟨b, off, rfl, hb, hc⟩ := cells_at hC h0
    refine (Tryd.slices_ContainsFunc (Value.int .i64) (fun x => !isB x) 40 #[] (fun args w => by kernel_rfl) b off l.length c l w ?_ (Nat.le_refl _) (by omega) fun j hj => ?_).mono ?_
    · intro W x _
      refine (out_x x W).mono ?_
      rintro e w' ⟨rfl, rfl⟩
      exact ⟨rfl, 0, rfl⟩
    · rw [hc j hj, List.getD_eq_getElem?_getD, List.getElem?_eq_getElem hj, getElem!_pos l j hj]; rfl
    · rintro e w' ⟨rfl, q, rfl⟩
      rw [List.take_of_length_le (Nat.le_refl _)]
      exact ⟨rfl, (Ex.refl _).drewN q⟩
def sumTo (l : List Int) (k : Nat) : Int := (l.take k).sum
theorem sumTo_succ {l : List Int} {k : Nat} (h : k < l.length) : sumTo l (k + 1) = sumTo l k + l.getD k 0 := by
  unfold sumTo
  rw [List.take_succ_eq_append_getElem h, List.sum_append, List.getD_eq_getElem?_getD, List.getElem?_eq_getElem h]
  simp
theorem sumTo_all (l : List Int) : sumTo l l.length = l.sum := by unfold sumTo; rw [List.take_length]
theorem sumTo_bd {l : List Int} (h : ∀ x ∈ l, isB x = true) : ∀ k, k ≤ l.length → -(1125899906842624 * (k : Int)) ≤ sumTo l k ∧ sumTo l k ≤ 1125899906842624 * (k : Int)
  | 0, _ => by simp [sumTo]
  | k + 1, hk => by
    have h1 := sumTo_bd h k (by omega)
    rw [sumTo_succ (by omega)]
    have h2 : isB (l.getD k 0) = true := by
      rw [List.getD_eq_getElem?_getD, List.getElem?_eq_getElem (by omega)]
      exact h _ (List.getElem_mem _)
    rw [isB_iff] at h2
    omega
theorem sum_long (A : Option Addr) (m c : Nat) (w : World) (h : 1000 < m) : Calls Tryd.prog 27 #[.slice A m c] w (Ret w (Two 0 5)) := by
  unfold Two
  have h1 : decide ((1000 : Int) < (m : Int)) = true := by simp; omega
  go_enter Tryd.func27, Tryd.ntmps27
  go_wp2_with fail
  go_ret2
  exact Ret.mk rfl (Ex.refl _)
theorem sum_bad (l : List Int) (A : Option Addr) (c : Nat) (w : World) (hC : Cells w A (intsV l)) (hl : l.length ≤ 1000) (h : (l.any fun x => !isB x) = true) : Calls Tryd.prog 27 #[.slice A l.length c] w (Ret w (Two 0 2)) := by
  have H := Lib.hid (contains_c l A c w hC (by omega))
  rw [h] at H
  have h1 : decide ((1000 : Int) < (l.length : Int)) = false := by simp; omega
  unfold Two
  clear hC h
  generalize l.length = m at *
  go_enter Tryd.func27, Tryd.ntmps27
  go_wp2_with fail
  refine H.out.mono ?_
  rintro e w' ⟨rfl, z, rfl⟩
  go_wp2_with fail
  go_ret2
  exact Ret.mk rfl ((Ex.refl _).ext _)
set_option maxHeartbeats 800000 in
theorem sum_ok (l : List Int) (A : Option Addr) (c : Nat) (w : World) (hC : Cells w A (intsV l)) (hl : l.length ≤ 1000) (h : (l.any fun x => !isB x) = false) : Calls Tryd.prog 27 #[.slice A l.length c] w (Ret w (Two (limV l.sum) (limE l.sum))) := by
  have H := Lib.hid (contains_c l A c w hC (by omega))
  rw [h] at H
  have h1 : decide ((1000 : Int) < (l.length : Int)) = false := by simp; omega
  have hall : ∀ x ∈ l, isB x = true := fun x hx => by
    have := List.any_eq_false.1 h x hx
    simpa using this
  have HBd := Lib.hid (sumTo_bd hall)
  have HS := Lib.hid (fun k (hk : k < l.length) => sumTo_succ hk)
  have HA := Lib.hid (sumTo_all l)
  have HL := Lib.hid (limited_c l.sum)
  have HC : Hid (∀ w', Ex w w' → ∀ k, k < l.length → ∃ ad, A = some ad ∧ (ad.add k).block < w'.heap.size ∧ w'.cell? (ad.add k) = some (.int .i64 (l.getD k 0))) := fun w' hx k hk => by
    obtain ⟨ad, e, hb, hc⟩ := hC k (.int .i64 (l.getD k 0)) (by unfold intsV; rw [List.getElem?_map, List.getElem?_eq_getElem hk, List.getD_eq_getElem?_getD, List.getElem?_eq_getElem hk]; rfl)
    exact ⟨ad, e, Nat.lt_of_lt_of_le hb hx.below.size, (hx.below.cell hb).trans hc⟩
  have HZ : Hid (sumTo l 0 = 0) := rfl
  unfold Two at *
  clear hC h hall
  generalize l.length = m at *
  go_enter Tryd.func27, Tryd.ntmps27
  go_wp2_with fail
  refine H.out.mono ?_
  rintro e w' ⟨rfl, z, rfl⟩
  go_wp2_with fail
  go_loopw [4, 6, 16] (fun s _ i wr => ∃ k : Nat, i = .int .i64 k ∧ k ≤ m ∧ s = .int .i64 (sumTo l k) ∧ Ex w wr) (fun _ _ i _ => m - (intOf i).toNat)
  case atStart => exact ⟨0, rfl, by omega, by rw [HZ.out], (Ex.refl _).ext _⟩
  case round =>
    obtain ⟨k, rfl, hk, rfl, hx⟩ := hrel
    by_cases hlt : k < m
    · obtain ⟨ad, rfl, -, hc⟩ := HC.out _ hx k hlt
      have hb1 := HBd.out k hk
      have hb2 := HBd.out (k + 1) hlt
      have hs := HS.out k hlt
      rw [hs] at hb2
      have HS' := Lib.hid hs
      have HXx := Lib.hid hx
      have hki : (k : Int) < (m : Int) := by omega
      clear hs hx
      generalize sumTo l k = s at *
      generalize l.getD k 0 = x at *
      have p1 : -9000000000000000000 ≤ s + x := by omega
      have p2 : s + x ≤ 9000000000000000000 := by omega
      clear hb1 hb2
      go_wp2_with fail
      refine ⟨⟨k + 1, by go_num, by omega, by rw [HS'.out], HXx.out⟩, by simp [intOf]; omega⟩
    · obtain rfl : k = m := by omega
      rw [HA.out]
      go_wp2_with fail
      refine (HL.out _).mono ?_
      rintro e w' ⟨rfl, z2, rfl⟩
      go_wp2_with fail
      go_ret2
      exact Ret.mk rfl (hx.ext _)
/-- the sum of a list, and its code -/
def sumV (l : List Int) : Int := if 1000 < l.length then 0 else if l.any fun x => !isB x then 0 else limV l.sum
def sumE (l : List Int) : Int := if 1000 < l.length then 5 else if l.any fun x => !isB x then 2 else limE l.sum
theorem sum_c (l : List Int) (A : Option Addr) (c : Nat) (w : World) (hC : Cells w A (intsV l)) : Calls Tryd.prog 27 #[.slice A l.length c] w (Ret w (Two (sumV l) (sumE l))) := by
  unfold sumV sumE
  by_cases h : 1000 < l.length
  · rw [if_pos h, if_pos h]
    exact sum_long A _ c w h
  · rw [if_neg h, if_neg h]
    cases hb : l.any fun x => !isB x
    · exact sum_ok l A c w hC (by omega) hb
    · exact sum_bad l A c w hC (by omega) hb
end Go.Proofs.YtjbfoanboidkbaaDoor
