/-
  The reference's form of a tree: its contract.
  Conditions: as each theorem says.
-/
import Derived.Test.YthjalkonlcjhnaaGreatDoorTe
namespace Go.Proofs.YthjalkonlcjhnaaGreatDoor
open Go.RowKit
set_option maxHeartbeats 1600000 in
theorem rformed_c : ∀ (N : Nat) (t : Tr) (Q : Nat → Prop) (w : World) (k n p q : Int) (s : ByteArray) (A : Option Addr) (m c : Nat), t.size ≤ N → N ≤ 1000000 → TrC Q w t (c6 k n p q s A m c) →
    Calls Tryz.prog 63 #[.agg #[.int .i64 k, .int .i64 n, .int .i64 p, .int .i64 q, .string s, .slice A m c]] w (Ret w (.bool (formedB plainB t))) := by
  intro N
  induction N with
  | zero => intro t Q w k n p q s A m c h; exact absurd h (by have := t.size_pos; omega)
  | succ N ih =>
    intro t Q w k n p q s A m c hs hN ht
    obtain ⟨k1, n1, p1, q1, s1, l⟩ := t
    have ht' := ht
    obtain ⟨rfl, rfl, rfl, rfl, rfl, rfl, -⟩ := ht.kids
    have hlen := Tr.len_le (l := l)
    rw [Tr.size_node] at hs
    have hI : ∀ (j : Nat) (x : Tr), l[j]? = some x → x.size ≤ N := fun j x hj => by
      have := mem_le_sum (l.map Tr.size) x.size (List.mem_map.2 ⟨x, List.mem_of_getElem? hj, rfl⟩)
      omega
    have HC := Lib.hid (fun w' (x : Tr) k n p q s A m c (h1 : x.size ≤ N) (h : TrC Q w' x (c6 k n p q s A m c)) => ih x Q w' k n p q s A m c h1 (by omega) h)
    have hT : headB k n l.length = true → plainB k p q s = true → (∀ (i : Nat) (x : Tr), l[i]? = some x → formedB plainB x = true) → formedB plainB (.node k n p q s l) = true := fun a b h => by
      rw [formed_node, a, b]
      simp only [Bool.true_and, Bool.not_eq_true']
      rw [List.any_eq_false]
      intro x hx
      obtain ⟨i, hi⟩ := List.mem_iff_getElem?.1 hx
      rw [h i x hi]; simp
    have hF : ∀ (i : Nat) (x : Tr), l[i]? = some x → formedB plainB x = false → formedB plainB (.node k n p q s l) = false := fun i x hi h => by
      rw [formed_node]
      have : l.any (fun x => !formedB plainB x) = true := List.any_eq_true.2 ⟨x, List.mem_of_getElem? hi, by rw [h]; rfl⟩
      rw [this]; simp
    have no : headB k n l.length = false ∨ plainB k p q s = false → formedB plainB (.node k n p q s l) = false := fun h => by
      rw [formed_node]
      rcases h with h | h <;> rw [h] <;> simp
    by_cases h0 : partsI k = (l.length : Int)
    · by_cases h2 : k = 1
      · by_cases h5 : n < 0
        · rw [no (.inl (by unfold headB; rw [decide_eq_false (show ¬ 0 ≤ n by omega)]; simp))]
          exact rf_C k n p q s A l c w h0 h5 h2
        · by_cases h6 : 1125899906842624 < n
          · rw [no (.inl (by unfold headB; rw [decide_eq_false (show ¬ n ≤ 1125899906842624 by omega)]; simp))]
            exact rf_D k n p q s A l c w h0 h6 h2
          · have hh : headB k n l.length = true := by unfold headB; rw [decide_eq_true h0, decide_eq_true h2, decide_eq_true (show 0 ≤ n by omega), decide_eq_true (show n ≤ 1125899906842624 by omega)]; simp
            have hnm : namesB k = false := by rw [h2]; rfl
            by_cases hp : p = 0
            · by_cases hq : q = 0
              · by_cases hz : s.size = 0
                · have hpl : plainB k p q s = true := by unfold plainB; rw [decide_eq_true hp, decide_eq_true hq, decide_eq_true hz]; simp
                  exact rf_E0 k n p q s A l c w h0 (by omega) (by omega) h2 hp hq hz Q N (by omega) ht' hI (formedB plainB) HC _ (Lib.hid (hT hh hpl)) (Lib.hid hF)
                · rw [no (.inr (by unfold plainB; rw [hnm, decide_eq_false hz]; simp))]
                  exact rf_Es k n p q s A l c w h0 (by omega) (by omega) h2 hp hq hz
              · rw [no (.inr (by unfold plainB; rw [hnm, decide_eq_false hq]; simp))]
                exact rf_Eq k n p q s A l c w h0 (by omega) (by omega) h2 hp hq
            · rw [no (.inr (by unfold plainB; rw [hnm, decide_eq_false hp]; simp))]
              exact rf_Ep k n p q s A l c w h0 (by omega) (by omega) h2 hp
      · by_cases h1 : n = 0
        · have hh : headB k n l.length = true := by unfold headB; rw [decide_eq_true h0, decide_eq_true h1, decide_eq_true (show 0 ≤ n by omega), decide_eq_true (show n ≤ 1125899906842624 by omega)]; simp
          cases hnm : namesB k with
          | true =>
            have hpl : plainB k p q s = true := by unfold plainB; rw [hnm]; simp
            exact rf_FN k n p q s A l c w h0 h1 h2 hnm Q N (by omega) ht' hI (formedB plainB) HC _ (Lib.hid (hT hh hpl)) (Lib.hid hF)
          | false =>
            by_cases hp : p = 0
            · by_cases hq : q = 0
              · by_cases hz : s.size = 0
                · have hpl : plainB k p q s = true := by unfold plainB; rw [decide_eq_true hp, decide_eq_true hq, decide_eq_true hz]; simp
                  exact rf_F0 k n p q s A l c w h0 h1 h2 hnm hp hq hz Q N (by omega) ht' hI (formedB plainB) HC _ (Lib.hid (hT hh hpl)) (Lib.hid hF)
                · rw [no (.inr (by unfold plainB; rw [hnm, decide_eq_false hz]; simp))]
                  exact rf_Fs k n p q s A l c w h0 h1 h2 hnm hp hq hz
              · rw [no (.inr (by unfold plainB; rw [hnm, decide_eq_false hq]; simp))]
                exact rf_Fq k n p q s A l c w h0 h1 h2 hnm hp hq
            · rw [no (.inr (by unfold plainB; rw [hnm, decide_eq_false hp]; simp))]
              exact rf_Fp k n p q s A l c w h0 h1 h2 hnm hp
        · rw [no (.inl (by unfold headB; rw [decide_eq_false h1, decide_eq_false h2]; simp))]
          exact rf_B k n p q s A l c w h0 h1 h2
    · rw [no (.inl (by unfold headB; rw [decide_eq_false h0]; simp))]
      exact rf_A k n p q s A l c w h0
end Go.Proofs.YthjalkonlcjhnaaGreatDoor
