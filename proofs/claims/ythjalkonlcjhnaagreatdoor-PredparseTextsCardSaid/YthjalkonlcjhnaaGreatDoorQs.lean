/-
  Plain laws of the parser's trees and words: a tree has no more nodes than words were taken; words are short.
  Conditions: none. Plain, no program in sight.
-/
import Derived.Test.YthjalkonlcjhnaaGreatDoorQn
namespace Go.Proofs.YthjalkonlcjhnaaGreatDoor
open Go.RowKit
def sizeO : Option Tr → Nat
  | none => 0
  | some t => t.size
theorem nd_size1 (k : Int) (t : Tr) : (nd k [t]).size = 1 + t.size := by unfold nd; rw [Tr.size_node]; simp
theorem nd_size2 (k : Int) (t u : Tr) : (nd k [t, u]).size = 1 + (t.size + u.size) := by unfold nd; rw [Tr.size_node]; simp
theorem nd_size0 (k : Int) : (nd k []).size = 1 := by unfold nd; rw [Tr.size_node]; simp
theorem num_size (v : Nat) : (numT v).size = 1 := by unfold numT; rw [Tr.size_node]; simp
theorem name_size (k : Int) (s : List UInt8) : (nameT k s).size = 1 := by unfold nameT; rw [Tr.size_node]; simp
theorem count_size {ks r : List K} {t : Tr} (h : countP ks = .ok t r) : t.size = 1 ∧ r.length ≤ ks.length := by
  have hf := count_fine ks
  rw [h] at hf
  refine ⟨?_, by have h2 : r.length < ks.length := hf.2; omega⟩
  unfold countP at h
  (repeat' split at h) <;> first | (cases h; done) | (injection h with h1 h2; rw [← h1]; exact name_size _ _)
theorem chan_size {ks r : List K} {t : Tr} (h : chanP ks = .ok t r) : t.size = 1 ∧ r.length ≤ ks.length := by
  have hf := chan_fine ks
  rw [h] at hf
  refine ⟨?_, by have h2 : r.length < ks.length := hf.2; omega⟩
  unfold chanP at h
  (repeat' split at h) <;> first | (cases h; done) | (injection h with h1 h2; rw [← h1]; exact name_size _ _)
theorem var_size {ks r : List K} {t : Tr} (h : varP ks = .ok t r) : t.size = 1 ∧ r.length < ks.length := by
  have hf := var_fine ks
  rw [h] at hf
  refine ⟨?_, hf.2⟩
  unfold varP at h
  (repeat' split at h) <;> first | (cases h; done) | (injection h with h1 h2; rw [← h1]; exact name_size _ _)
theorem atom_size {P : List K → PR} {ks r : List K} {t : Tr} (hP : ∀ ks r t, P ks = .ok t r → t.size + r.length ≤ ks.length) (h : atomP P ks = .ok t r) : t.size + r.length ≤ ks.length := by
  unfold atomP at h
  split at h
  · rename_i h1
    have := tail_lt (one_pos h1)
    injection h with h2 h3
    rw [← h2, ← h3, num_size]; omega
  split at h
  · rename_i h1
    have := tail_lt (isT_pos h1)
    injection h with h2 h3
    rw [← h2, ← h3, nd_size0]; omega
  split at h
  · rename_i h1
    have := tail_lt (isT_pos h1)
    injection h with h2 h3
    rw [← h2, ← h3, nd_size0]; omega
  split at h
  · rename_i h1
    have := tail_lt (isT_pos h1)
    obtain ⟨u, s, h2, h3⟩ := bind_ok h
    have h4 := hP _ _ _ h2
    split at h3
    · injection h3 with h5 h6
      rw [← h5, ← h6, List.length_tail]; omega
    · cases h3
  split at h
  · rename_i h1
    have := tail_lt (isT_pos h1)
    have := count_size h
    omega
  split at h
  · rename_i h1
    have := tail_lt (isT_pos h1)
    have := chan_size h
    omega
  · have := var_size h
    omega
theorem pz_size : ∀ (f lv : Nat) (o : Option Tr) (ks : List K) (t : Tr) (r : List K), pz f lv o ks = .ok t r → t.size + r.length ≤ ks.length + sizeO o := by
  intro f
  induction f with
  | zero => intro lv o ks t r h; cases o <;> cases h
  | succ f ih =>
    intro lv o ks t r h
    have ihn : ∀ lv ks t r, pz f lv none ks = .ok t r → t.size + r.length ≤ ks.length := fun lv ks t r h => by have := ih lv none ks t r h; unfold sizeO at this; omega
    cases o with
    | some t0 =>
      show _ ≤ _ + t0.size
      unfold pz at h
      cases hp : pick (joints lv) (hd ks) with
      | none =>
        rw [hp] at h
        injection h with h1 h2
        rw [← h1, ← h2]; omega
      | some k =>
        rw [hp] at h
        have := tail_lt (pick_pos hp)
        obtain ⟨u, s, h2, h3⟩ := bind_ok h
        have h4 := ihn _ _ _ _ h2
        have h5 := ih _ _ _ _ _ h3
        have h6 : t.size + r.length ≤ s.length + (nd k [t0, u]).size := h5
        rw [nd_size2] at h6
        omega
    | none =>
      show _ ≤ _ + 0
      unfold pz at h
      split at h
      · cases hp : pick prefs (hd ks) with
        | none => rw [hp] at h; exact ihn _ _ _ _ h
        | some k =>
          rw [hp] at h
          have := tail_lt (pick_pos hp)
          obtain ⟨u, s, h2, h3⟩ := bind_ok h
          have h4 := ihn _ _ _ _ h2
          injection h3 with h5 h6
          rw [← h5, ← h6, nd_size1]; omega
      split at h
      · obtain ⟨u, s, h2, h3⟩ := bind_ok h
        have h4 := ihn _ _ _ _ h2
        cases hp : pick cmp1 (hd s) with
        | some k =>
          rw [hp] at h3
          have := tail_lt (pick_pos hp)
          obtain ⟨v, s2, h5, h6⟩ := bind_ok h3
          have h7 := ihn _ _ _ _ h5
          injection h6 with h8 h9
          rw [← h8, ← h9, nd_size2]; omega
        | none =>
          rw [hp] at h3
          dsimp only at h3
          cases hp2 : pick cmp2 (hd s) with
          | some k =>
            rw [hp2] at h3
            have := tail_lt (pick_pos hp2)
            obtain ⟨v, s2, h5, h6⟩ := bind_ok h3
            have h7 := ihn _ _ _ _ h5
            injection h6 with h8 h9
            rw [← h8, ← h9, nd_size2]; omega
          | none =>
            rw [hp2] at h3
            injection h3 with h8 h9
            rw [← h8, ← h9]; omega
      split at h
      · split at h
        · rename_i h1
          have := tail_lt (isT_pos h1)
          obtain ⟨u, s, h2, h3⟩ := bind_ok h
          have h4 := ihn _ _ _ _ h2
          injection h3 with h5 h6
          rw [← h5, ← h6, nd_size1]; omega
        · exact ihn _ _ _ _ h
      split at h
      · exact atom_size (fun ks r t h => ihn 0 ks t r h) h
      · obtain ⟨u, s, h2, h3⟩ := bind_ok h
        have h4 := ihn _ _ _ _ h2
        have h5 := ih _ _ _ _ _ h3
        have h6 : t.size + r.length ≤ s.length + u.size := h5
        omega
theorem parse_size {ks r : List K} {t : Tr} (h : parse ks = .ok t r) : t.size ≤ ks.length := by
  have := pz_size _ _ _ _ _ _ h
  have e : sizeO none = 0 := rfl
  rw [e] at this
  omega
theorem blanks_le (l : List UInt8) : (blanks l).length ≤ l.length := by unfold blanks; rw [List.length_drop]; omega
theorem lex_short : ∀ (f : Nat) (l : List UInt8) (p : Nat × Nat) (r : List Wd), lexL f l p = .ok r → ∀ x ∈ r, x.text.length ≤ l.length := by
  intro f
  induction f with
  | zero =>
    intro l p r h x hx
    unfold lexL at h
    split at h
    · injection h with h
      rw [← h] at hx
      rw [List.mem_singleton.1 hx]; simp
    · cases h
  | succ f ih =>
    intro l p r h x hx
    unfold lexL at h
    split at h
    · injection h with h
      rw [← h] at hx
      rw [List.mem_singleton.1 hx]; simp
    · dsimp only at h
      split at h
      · cases hh : lexL f ((blanks l).drop (firstL (blanks l)).2.1) (((blanks l).take (firstL (blanks l)).2.1).foldl posStep (blankP l p)) with
        | bad q e => rw [hh] at h; cases h
        | ok r' =>
          rw [hh] at h
          injection h with h
          rw [← h] at hx
          have hb := blanks_le l
          rcases List.mem_cons.1 hx with rfl | hx
          · show ((blanks l).take _).length ≤ _
            rw [List.length_take]; omega
          · have := ih _ _ _ hh x hx
            rw [List.length_drop] at this
            omega
      · cases h
end Go.Proofs.YthjalkonlcjhnaaGreatDoor
