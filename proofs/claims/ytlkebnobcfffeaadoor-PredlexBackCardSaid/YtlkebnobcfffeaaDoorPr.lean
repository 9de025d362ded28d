/-
  Words that stand in a text: plain laws of lexL along a text.
  Conditions: none. Plain lists, no program in sight.
-/
import Derived.Test.YtlkebnobcfffeaaDoorPp
namespace Go.Proofs.YtlkebnobcfffeaaDoor
open Go.RowKit
/-- behind place i the words r stand in L -/
def Sx (L : List UInt8) (i : Nat) (r : List Wd) : Prop :=
  i ≤ L.length ∧ ((r = [] ∧ i = L.length) ∨ ∃ f, lexL f (L.drop i) (posF (L.take i)) = .ok r)
theorem blankP_pos (L : List UInt8) (i : Nat) : blankP (L.drop i) (posF (L.take i)) = posF (L.take (i + spanL blkB (L.drop i))) := by
  unfold blankP
  rw [List.take_add, posF_append]
theorem blanks_drop (L : List UInt8) (i : Nat) : blanks (L.drop i) = L.drop (i + spanL blkB (L.drop i)) := by
  unfold blanks
  rw [List.drop_drop]
theorem sx_step {L : List UInt8} {i : Nat} {x : Wd} {r : List Wd} (h : Sx L i (x :: r)) {j : Nat} (hj : j = i + spanL blkB (L.drop i)) :
    j ≤ L.length ∧ x.pos = posF (L.take j) ∧ x.text = (L.drop j).take x.text.length ∧ (x.kind = 4 ↔ x.text = []) ∧ Sx L (j + x.text.length) r ∧ (r = [] → x.kind = 4) ∧ (x.kind = 4 ↔ j = L.length) := by
  obtain ⟨hi, h⟩ := h
  have hjl : j ≤ L.length := by
    have := span_le blkB (L.drop i)
    rw [List.length_drop] at this
    omega
  rcases h with ⟨h, _⟩ | ⟨f, h⟩
  · cases h
  · unfold lexL at h
    rw [blanks_drop, blankP_pos, ← hj] at h
    split at h
    · rename_i h4
      have he := first_end _ h4
      injection h with h
      injection h with h1 h2
      subst h1
      subst h2
      have hlen : j = L.length := by
        have := congrArg List.length he
        rw [List.length_drop] at this
        simp at this
        omega
      refine ⟨hjl, rfl, rfl, by simp, ⟨by simpa using hjl, .inl ⟨rfl, by simpa using hlen⟩⟩, fun _ => rfl, by simp [hlen]⟩
    · rename_i h4
      cases f with
      | zero => cases h
      | succ f =>
        dsimp only at h
        split at h
        · rename_i he
          generalize hR : lexL f _ _ = R at h
          cases R with
          | bad q e => cases h
          | ok r' =>
            injection h with h
            injection h with h1 h2
            subst h2
            have hF : firstL (L.drop j) = ((firstL (L.drop j)).1, (firstL (L.drop j)).2.1, 0) := by rw [← he]
            obtain ⟨hn, hle, hM⟩ := first_pos hF h4
            generalize (firstL (L.drop j)).2.1 = n at *
            have hlen : ((L.drop j).take n).length = n := by rw [List.length_take]; omega
            rw [List.length_drop] at hle
            subst h1
            dsimp only
            rw [hlen]
            refine ⟨hjl, rfl, rfl, ⟨fun h => absurd h h4, fun h => ?_⟩, ⟨by omega, .inr ⟨f, ?_⟩⟩, fun h => ?_, ⟨fun h => absurd h h4, fun h => by omega⟩⟩
            · rw [h] at hlen; simp at hlen; omega
            · rw [← hR, List.drop_drop, List.take_add, posF_append]
            · subst h
              have := lex_ne hR
              simp at this
        · cases h
theorem sx_start (L : List UInt8) {l : List Wd} (h : lexL 1000 L (1, 1) = .ok l) : Sx L 0 l := ⟨Nat.zero_le _, .inr ⟨1000, h⟩⟩
end Go.Proofs.YtlkebnobcfffeaaDoor
