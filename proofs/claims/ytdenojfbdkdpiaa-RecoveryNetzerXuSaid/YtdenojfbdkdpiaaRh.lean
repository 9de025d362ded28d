/-
  The names of the states of all lines: plain.
  Conditions: as each theorem says.
-/
import Derived.Test.YtdenojfbdkdpiaaRg
namespace Go.Proofs.Ytdenojfbdkdpiaa
open Go.RowKit Go.Shelf
theorem countP_at {r : List Int} (h : Asc r) {j : Nat} {a : Int} (hj : r[j]? = some a) : r.countP (· < a) = j := by
  have hl := (List.getElem?_eq_some_iff.1 hj).1
  rw [← List.take_append_drop j r, List.countP_append]
  have h1 : (r.take j).countP (· < a) = (r.take j).length := by
    rw [List.countP_eq_length]
    intro b hb
    obtain ⟨i, hi⟩ := List.mem_iff_getElem?.1 hb
    have hij : i < j := by
      have := (List.getElem?_eq_some_iff.1 hi).1
      rw [List.length_take] at this
      omega
    rw [List.getElem?_take, if_pos hij] at hi
    exact decide_eq_true (asc_lt h hij hi hj)
  have h2 : (r.drop j).countP (· < a) = 0 := by
    rw [List.countP_eq_zero]
    intro b hb
    obtain ⟨i, hi⟩ := List.mem_iff_getElem?.1 hb
    rw [List.getElem?_drop] at hi
    have : a ≤ b := by
      by_cases h0 : i = 0
      · subst h0
        rw [Nat.add_zero, hj] at hi
        cases hi
        exact Int.le_refl _
      · exact Int.le_of_lt (asc_lt h (show j < j + i by omega) hj hi)
    simp
    omega
  rw [h1, h2, List.length_take]
  omega
theorem mem_usK (l : List (List Int)) (cs : List Int) (x : Nat × Nat) : ∀ k, x ∈ usK l cs k ↔ x.1 < k ∧ x = nmU l cs x.1
  | 0 => by simp [usK]
  | k + 1 => by
    unfold usK
    rw [List.mem_cons, mem_usK l cs x k]
    constructor
    · rintro (h | ⟨h1, h2⟩)
      · have : x.1 = k := by rw [h]; rfl
        exact ⟨by omega, by rw [this]; exact h⟩
      · exact ⟨by omega, h2⟩
    · rintro ⟨h1, h2⟩
      by_cases h : x.1 = k
      · rw [h] at h2; exact .inl h2
      · exact .inr ⟨by omega, h2⟩
theorem mem_usedL (l : List (List Int)) (x : Nat × Nat) (vs : List (List Int)) : x ∈ usedL l vs ↔ ∃ cs, cs ∈ vs ∧ x ∈ usK l cs l.length := by
  have h : ∀ (vs : List (List Int)) (s : List (Nat × Nat)), x ∈ vs.foldl (fun s cs => usK l cs l.length ++ s) s ↔ x ∈ s ∨ ∃ cs, cs ∈ vs ∧ x ∈ usK l cs l.length := by
    intro vs
    induction vs with
    | nil => intro s; simp
    | cons c vs ih =>
      intro s
      rw [List.foldl_cons, ih, List.mem_append]
      constructor
      · rintro ((h | h) | ⟨cs, h1, h2⟩)
        · exact .inr ⟨c, List.mem_cons_self, h⟩
        · exact .inl h
        · exact .inr ⟨cs, List.mem_cons_of_mem _ h1, h2⟩
      · rintro (h | ⟨cs, h1, h2⟩)
        · exact .inl (.inr h)
        · rcases List.mem_cons.1 h1 with rfl | h1
          · exact .inl (.inl h2)
          · exact .inr ⟨cs, h1, h2⟩
  unfold usedL
  rw [h]
  simp
theorem nmU_iff {l : List (List Int)} {cs : List Int} {x : Nat × Nat} (hx : CkP l x) (hasc : ∀ (p : Nat) (r : List Int), l[p]? = some r → Asc r) (hlen : cs.length = l.length) (hm : ∀ (p : Nat) (r : List Int) (a : Int), l[p]? = some r → cs[p]? = some a → a ∈ r) : x = nmU l cs x.1 ↔ cs[x.1]? = some (lvZ l x) := by
  obtain ⟨r, hr⟩ := get_at hx.1
  obtain ⟨a, ha⟩ := get_at (show x.1 < cs.length by rw [hlen]; exact hx.1)
  have hg : l.getD x.1 [] = r := by rw [List.getD_eq_getElem?_getD, hr]; rfl
  have hga : cs.getD x.1 0 = a := by rw [List.getD_eq_getElem?_getD, ha]; rfl
  obtain ⟨j, hj⟩ := List.mem_iff_getElem?.1 (hm _ r a hr ha)
  have hc := countP_at (hasc _ r hr) hj
  have h1 := hx.2.1
  have h2 := hx.2.2
  rw [hg] at h2
  obtain ⟨b, hb⟩ := get_at (show x.2 - 1 < r.length by omega)
  have hlv : lvZ l x = b := by
    unfold lvZ
    rw [hg, List.getD_eq_getElem?_getD, hb]
    rfl
  unfold nmU
  rw [hg, hga, hc, ha, hlv]
  constructor
  · intro h
    have h3 : x.2 = j + 1 := congrArg Prod.snd h
    rw [show x.2 - 1 = j by omega, hj] at hb
    exact hb
  · intro h
    cases h
    have hcb := countP_at (hasc _ r hr) hb
    have : x.2 = j + 1 := by omega
    exact Prod.ext rfl this
/-- a checkpoint's state is in a line exactly if no path leads from it to itself -/
theorem used_iff {t : List Pr} {l : List (List Int)} (hv : cpB t l = true) {x : Nat × Nat} (hx : CkP l x) : decide (x ∈ usedL l ((prodL l).filter (conB t))) = !(zzB l (msgs t) x x) := by
  have hc := cp_of hv
  have hz := fault_zero (of_decide_eq_true hc.1)
  have hP : Paired t := paired_of hz.2.2.2.1
  have hf := msg_fit hP hc.2
  have key := line_iff hf (X := oneX x.1 (lvZ l x)) (fun p a h => by
    unfold oneX at h
    by_cases h1 : p = x.1
    · rw [if_pos h1] at h; cases h; rw [h1]; exact lv_mem hx
    · rw [if_neg h1] at h; cases h)
  have hm : x ∈ usedL l ((prodL l).filter (conB t)) ↔ ∃ c, IsLine (msgs t) l c ∧ ∀ p a, oneX x.1 (lvZ l x) p = some a → c[p]? = some a := by
    rw [mem_usedL]
    constructor
    · rintro ⟨c, h1, h2⟩
      have hl := (line_mem hv c).1 h1
      refine ⟨c, hl, fun p a h => ?_⟩
      have h3 := (nmU_iff hx (cp_asc hc.2) hl.len hl.mem).1 ((mem_usK _ _ _ _).1 h2).2
      unfold oneX at h
      by_cases h1 : p = x.1
      · rw [if_pos h1] at h; cases h; rw [h1]; exact h3
      · rw [if_neg h1] at h; cases h
    · rintro ⟨c, hl, h⟩
      refine ⟨c, (line_mem hv c).2 hl, (mem_usK _ _ _ _).2 ⟨hx.1, (nmU_iff hx (cp_asc hc.2) hl.len hl.mem).2 (h _ _ ?_)⟩⟩
      unfold oneX
      rw [if_pos rfl]
  rw [Bool.eq_iff_iff, decide_eq_true_iff, hm, key, Bool.not_eq_true', ← Bool.not_eq_true]
  unfold zzB
  rw [zB_iff]
end Go.Proofs.Ytdenojfbdkdpiaa
