/-
  Clone, sort, compact: what they leave, in this seat's words; and plain facts on compacted sorted lists.
  Conditions: lists of at most a million numbers.
-/
import Derived.Test.YtfinldppcdkeoaaDoorWt
import Derived.Test.YtfinldppcdkeoaaDoorWv
import Derived.Test.YtfinldppcdkeoaaDoorShelf
import Derived.Lib.OwnBridge
import Derived.Lib.QuietBelow
namespace Go.Proofs.YtfinldppcdkeoaaDoor
open Go.RowKit Bm
/-- a sorted list without repetitions -/
theorem asc_ext : ∀ {a b : List Int}, a.Pairwise (· < ·) → b.Pairwise (· < ·) → (∀ x, x ∈ a ↔ x ∈ b) → a = b
  | [], [], _, _, _ => rfl
  | [], y :: b, _, _, h => by have := (h y).2 (by simp); simp at this
  | x :: a, [], _, _, h => by have := (h x).1 (by simp); simp at this
  | x :: a, y :: b, ha, hb, h => by
    rw [List.pairwise_cons] at ha hb
    have e : x = y := by
      have h1 := (h x).1 (by simp)
      have h2 := (h y).2 (by simp)
      rw [List.mem_cons] at h1 h2
      rcases h1 with h1 | h1
      · exact h1
      · rcases h2 with h2 | h2
        · exact h2.symm
        · have := ha.1 _ h2
          have := hb.1 _ h1
          omega
    subst e
    rw [asc_ext ha.2 hb.2 fun z => ?_]
    constructor
    · intro hz
      have h1 := (h z).1 (List.mem_cons_of_mem _ hz)
      rw [List.mem_cons] at h1
      rcases h1 with rfl | h1
      · have := ha.1 _ hz; omega
      · exact h1
    · intro hz
      have h1 := (h z).2 (List.mem_cons_of_mem _ hz)
      rw [List.mem_cons] at h1
      rcases h1 with rfl | h1
      · have := hb.1 _ hz; omega
      · exact h1
theorem get_le {zs : List Int} (hs : zs.Pairwise (· ≤ ·)) {i j : Nat} (hij : i ≤ j) (hj : j < zs.length) : zs.toArray[i]! ≤ zs.toArray[j]! := by
  have hi : i < zs.length := by omega
  rw [getElem!_pos _ _ (by simpa using hi), getElem!_pos _ _ (by simpa using hj)]
  simp only [List.getElem_toArray]
  rcases Nat.lt_or_ge i j with h | h
  · exact List.pairwise_iff_getElem.1 hs i j hi hj h
  · obtain rfl : i = j := by omega
    exact Int.le_refl _
theorem compact_asc {zs : List Int} (hs : zs.Pairwise (· ≤ ·)) : (Lib.compact zs).Pairwise (· < ·) := by
  unfold Lib.compact Lib.compactUpTo
  rw [List.pairwise_map]
  have hr : ((List.range zs.length).filter (Lib.keeps zs.toArray)).Pairwise (· < ·) := List.Pairwise.filter _ List.pairwise_lt_range
  refine List.Pairwise.imp_of_mem ?_ hr
  intro i j hi hj hij
  rw [List.mem_filter, List.mem_range] at hi hj
  have h1 := get_le hs (i := i) (j := j - 1) (by omega) (by omega)
  have h2 := get_le hs (i := j - 1) (j := j) (by omega) hj.1
  have h3 := hj.2
  unfold Lib.keeps at h3
  rw [decide_eq_true_eq] at h3
  rcases h3 with h3 | h3
  · omega
  · omega
theorem mem_compact {zs : List Int} (x : Int) : x ∈ Lib.compact zs ↔ x ∈ zs := by
  unfold Lib.compact Lib.compactUpTo
  rw [List.mem_map]
  constructor
  · rintro ⟨i, hi, rfl⟩
    rw [List.mem_filter, List.mem_range] at hi
    rw [getElem!_pos _ _ (by simpa using hi.1)]
    simp
  · intro hx
    obtain ⟨j, hj, rfl⟩ := List.mem_iff_getElem.1 hx
    have key : ∀ j, (hj : j < zs.length) → ∃ i, i ∈ (List.range zs.length).filter (Lib.keeps zs.toArray) ∧ zs.toArray[i]! = zs[j] := by
      intro j
      induction j with
      | zero =>
        intro hj
        refine ⟨0, ?_, ?_⟩
        · rw [List.mem_filter, List.mem_range]; exact ⟨hj, by simp [Lib.keeps]⟩
        · rw [getElem!_pos _ _ (by simpa using hj)]; simp
      | succ j ih =>
        intro hj
        by_cases hk : Lib.keeps zs.toArray (j + 1) = true
        · refine ⟨j + 1, ?_, ?_⟩
          · rw [List.mem_filter, List.mem_range]; exact ⟨hj, hk⟩
          · rw [getElem!_pos _ _ (by simpa using hj)]; simp
        · obtain ⟨i, hi, he⟩ := ih (by omega)
          refine ⟨i, hi, ?_⟩
          unfold Lib.keeps at hk
          rw [decide_eq_true_eq] at hk
          have h1 : zs.toArray[j + 1]! = zs.toArray[j + 1 - 1]! := Classical.byContradiction fun h => hk (.inr h)
          rw [getElem!_pos _ _ (by simpa using hj), getElem!_pos _ _ (by simp; omega)] at h1
          simp only [List.getElem_toArray, Nat.add_sub_cancel] at h1
          rw [he, h1]
    exact key j hj
theorem sort_asc (zs : List Int) : (zs.mergeSort fun x y => decide (x ≤ y)).Pairwise (· ≤ ·) := by
  have h := List.pairwise_mergeSort (le := fun (x y : Int) => decide (x ≤ y)) (fun a b c h1 h2 => by simp only [decide_eq_true_eq] at *; omega) (fun a b => by simp only [Bool.or_eq_true, decide_eq_true_eq]; omega) zs
  exact h.imp fun h => by simpa using h
/-- what remains of a list of members -/
theorem compact_mems (n : Nat) (l : List Nat) (h : ∀ x ∈ l, x < n) :
    Lib.compact ((l.map fun (x : Nat) => (x : Int)).mergeSort fun x y => decide (x ≤ y)) = (mems n (ofL n l)).map fun (x : Nat) => (x : Int) := by
  refine asc_ext (compact_asc (sort_asc _)) ?_ fun x => ?_
  · rw [List.pairwise_map]
    have h1 : (mems n (ofL n l)).Pairwise (· < ·) := List.Pairwise.filter _ List.pairwise_lt_range
    exact h1.imp fun h => by omega
  · rw [mem_compact, List.mem_mergeSort, List.mem_map, List.mem_map]
    constructor
    · rintro ⟨y, hy, rfl⟩
      exact ⟨y, mem_mems.2 ⟨h y hy, by rw [bit_ofL h]; simpa using hy⟩, rfl⟩
    · rintro ⟨y, hy, rfl⟩
      have := (mem_mems.1 hy).2
      rw [bit_ofL h] at this
      exact ⟨y, by simpa using this, rfl⟩
theorem spot_none {w : World} {a : Addr} {u : Value} (h : w.cell? a = some u) : a.spot = none := by
  unfold World.cell? at h
  split at h
  · cases hs : a.spot with
    | none => rfl
    | some x => rw [hs] at h; simp at h
  · cases h
theorem add_plain (b off j : Nat) : (⟨b, off, none⟩ : Addr).add j = ⟨b, off + j, none⟩ := by
  unfold Addr.add
  split
  · rename_i h; rw [h]; rfl
  · rfl
/-- the slice v owns the numbers zs, from block base on; and older worlds see nothing of it -/
def Owns (w : World) (base : Nat) (v : Value) (zs : List Int) : Prop := w.ownsRow base 3 1 v zs.length (ints zs)
theorem Owns.ex {w w' : World} {base : Nat} {v : Value} {zs : List Int} (h : Owns w base v zs) (hx : Ex w w') : Owns w' base v zs := own_ex h hx
theorem clone_c (A : Option Addr) (c : Nat) (l : List Int) (w : World) (hC : Cells w A (ints l)) (hl : l.length ≤ 1000000) :
    Calls Tryd.prog 43 #[.slice A l.length c] w (fun e w' => ∃ v, e = .returned v ∧ Owns w' w.heap.size v l ∧ Ex w w') := by
  match A, hC with
  | none, hC =>
    have h0 : l = [] := by
      cases l with
      | nil => rfl
      | cons x l => obtain ⟨ad, e, -⟩ := hC 0 (.int .i64 x) (by simp [ints]); cases e
    subst h0
    refine (Tryd.slices_Clone_int_nil _ c w).mono ?_
    rintro e w' ⟨rfl, rfl⟩
    exact ⟨_, rfl, ⟨rfl, .inl ⟨rfl, rfl⟩⟩, Ex.refl _⟩
  | some ⟨b, off, s⟩, hC =>
    by_cases hl0 : l.length = 0
    · have h0 : l = [] := List.length_eq_zero_iff.1 hl0
      subst h0
      refine (Tryd.slices_Clone_int_zero ⟨b, off, s⟩ c w).mono ?_
      rintro e w' ⟨v, rfl, ho, -, hb⟩
      exact ⟨v, rfl, ho, Ex.of hb⟩
    · have hs : s = none := by
        match l, hC, hl0 with
        | x :: l, hC, _ =>
          obtain ⟨ad, e, -, h⟩ := hC 0 (.int .i64 x) (by simp [ints])
          injection e with e
          subst e
          have h' : w.cell? ⟨b, off, s⟩ = some (.int .i64 x) := h
          exact spot_none h'
      subst hs
      refine (Tryd.slices_Clone_int b off l.length c l w (Nat.le_refl _) (by omega) fun j hj => ?_).mono ?_
      · obtain ⟨ad, e, -, h⟩ := hC j (.int .i64 (l.getD j 0)) (by unfold ints; rw [List.getElem?_map, List.getElem?_eq_getElem hj, List.getD_eq_getElem?_getD, List.getElem?_eq_getElem hj]; rfl)
        injection e with e
        subst e
        rwa [add_plain] at h
      · rintro e w' ⟨v, rfl, ho, -, hb⟩
        rw [List.take_of_length_le (Nat.le_refl _)] at ho
        exact ⟨v, rfl, ho, Ex.of hb⟩
/-- sorting in place -/
theorem sort_c (base : Nat) (v : Value) (zs : List Int) (w : World) (ho : Owns w base v zs) (hl : zs.length ≤ 1000000) :
    Calls Tryd.prog 44 #[v] w (fun e w' => e = .returned (.tuple #[]) ∧ Owns w' base v (zs.mergeSort fun x y => decide (x ≤ y)) ∧ ∀ W0, Ex W0 w → W0.heap.size ≤ base → Ex W0 w') := by
  by_cases hv : v = .slice none 0 0
  · subst hv
    have h0 : zs = [] := by
      rcases ho.2 with ⟨-, e⟩ | ⟨g, cap, cur, e, -⟩
      · simpa [ints] using e
      · cases e
    subst h0
    refine (Tryd.slices_Sort_int_none none 0 w).mono ?_
    rintro e w' ⟨rfl, rfl⟩
    exact ⟨rfl, by simpa using ho, fun _ h _ => h⟩
  · obtain ⟨g, cap, rfl, hg, hlt, hcap, hmx, -, hH⟩ := Lib.holds_of_ownsRow (zs := zs) ho hv
    refine (Tryd.slices_Sort_int g 0 cap zs w hH hlt (by omega)).mono ?_
    rintro e w' ⟨rfl, q, os, rfl⟩
    have h1 := Lib.ownsRow_putRow (q := q) (k := zs.length) (ys := zs.mergeSort fun x y => decide (x ≤ y)) ho (by simp) (Nat.le_refl _)
    rw [List.take_of_length_le (by simp)] at h1
    have hgr : ∀ X : World, Ex X (Sort.grow X os) := fun X => Ex.of (Go.below_regrown X X.drawn os)
    refine ⟨rfl, ?_, fun W0 hx hb => ?_⟩
    · unfold Owns
      rw [List.length_mergeSort]
      exact own_ex h1 (hgr _)
    · exact Ex.trans (Ex.of (Lib.below_putRow hx.below (Nat.le_trans hb hg))) (hgr _)
/-- neighbours that are equal, but the first, go -/
theorem compact_c (base : Nat) (v : Value) (zs : List Int) (w : World) (ho : Owns w base v zs) (hl : zs.length ≤ 1000000) :
    Calls Tryd.prog 45 #[v] w (fun e w' => ∃ v', e = .returned v' ∧ Owns w' base v' (Lib.compact zs) ∧ ∀ W0, Ex W0 w → W0.heap.size ≤ base → Ex W0 w') := by
  by_cases hv : v = .slice none 0 0
  · subst hv
    have h0 : zs = [] := by
      rcases ho.2 with ⟨-, e⟩ | ⟨g, cap, cur, e, -⟩
      · simpa [ints] using e
      · cases e
    subst h0
    refine (Tryd.slices_Compact_int_empty none 0 w).mono ?_
    rintro e w' ⟨rfl, rfl⟩
    exact ⟨_, rfl, by simpa [Lib.compact, Lib.compactUpTo] using ho, fun _ h _ => h⟩
  · obtain ⟨g, cap, rfl, hg, hlt, hcap, hmx, -, hH⟩ := Lib.holds_of_ownsRow (zs := zs) ho hv
    have hle := Lib.compact_length_le zs
    refine (Tryd.slices_Compact_int g 0 cap zs w hH (by omega) hcap).mono ?_
    rintro e w' ⟨rfl, q, rfl⟩
    have h1 := Lib.ownsRow_putRow (q := q) (k := (Lib.compact zs).length) (ys := Lib.compact zs ++ List.replicate (zs.length - (Lib.compact zs).length) 0) ho (by simp; omega) hle
    rw [List.take_left] at h1
    exact ⟨_, rfl, h1, fun W0 hx hb => Ex.of (Lib.below_putRow hx.below (Nat.le_trans hb hg))⟩
end Go.Proofs.YtfinldppcdkeoaaDoor
