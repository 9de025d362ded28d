/-
  Words with blanks between them: plain laws.
  Conditions: none. Plain lists, no program in sight.
-/
import Derived.Test.YtlkebnobcfffeaaDoorPr
namespace Go.Proofs.YtlkebnobcfffeaaDoor
open Go.RowKit
def glue (sp : List UInt8) (l : List Wd) : List UInt8 := sp ++ l.flatMap (fun x => x.text ++ sp)
theorem glue_snoc (sp : List UInt8) (l : List Wd) (x : Wd) : glue sp (l ++ [x]) = glue sp l ++ (x.text ++ sp) := by
  unfold glue; simp
theorem glue_take (sp : List UInt8) (l : List Wd) (k : Nat) (x : Wd) (h : l[k]? = some x) : glue sp (l.take (k + 1)) = glue sp (l.take k) ++ (x.text ++ sp) := by
  rw [List.take_add_one, h]
  exact glue_snoc sp _ x
def texts (l : List Wd) : Nat := (l.map (fun x => x.text.length)).sum
theorem glue_len (sp : List UInt8) : ∀ l : List Wd, (glue sp l).length = sp.length + texts l + l.length * sp.length
  | [] => by simp [glue, texts]
  | x :: l => by
    have := glue_len sp l
    unfold glue texts at *
    simp only [List.flatMap_cons, List.length_append, List.map_cons, List.sum_cons, List.length_cons] at *
    rw [Nat.add_mul]
    omega
theorem texts_take (l : List Wd) (k : Nat) : texts (l.take k) ≤ texts l := by
  unfold texts
  conv => rhs; rw [← List.take_append_drop k l, List.map_append, List.sum_append]
  omega
theorem lex_total : ∀ (f : Nat) (L : List UInt8) (p : Nat × Nat) (r : List Wd), lexL f L p = .ok r → texts r ≤ L.length ∧ r.length ≤ L.length + 1 := by
  intro f
  induction f with
  | zero =>
    intro L p r h
    unfold lexL at h
    split at h
    · injection h with h; subst h; simp [texts]
    · cases h
  | succ f ih =>
    intro L p r h
    unfold lexL at h
    split at h
    · injection h with h; subst h; simp [texts]
    · rename_i h4
      dsimp only at h
      split at h
      · rename_i he
        generalize hR : lexL f _ _ = R at h
        cases R with
        | bad q e => cases h
        | ok r' =>
          injection h with h
          subst h
          have hF : firstL (blanks L) = ((firstL (blanks L)).1, (firstL (blanks L)).2.1, 0) := by rw [← he]
          obtain ⟨hn, hle, hM⟩ := first_pos hF h4
          obtain ⟨h1, h2⟩ := ih _ _ _ hR
          have hb : (blanks L).length ≤ L.length := by unfold blanks; rw [List.length_drop]; omega
          rw [List.length_drop] at h1 h2
          constructor
          · unfold texts at *
            simp only [List.map_cons, List.sum_cons, List.length_take]
            omega
          · simp only [List.length_cons]
            omega
      · cases h
theorem glue_rd (sp : List UInt8) (h0 : sp ≠ []) (hs : sp.all blkB = true) (E : Wd) (hE : E.text = []) : ∀ ws : List Wd, (∀ x ∈ ws, Right x.kind x.text) → Rd (ws.map key) (glue sp (ws ++ [E]))
  | [], _ => by
    have e : glue sp ([] ++ [E]) = sp ++ sp := by unfold glue; simp [hE]
    rw [e]
    exact Rd.fin _ (by rw [List.all_append, hs]; rfl)
  | x :: ws, h => by
    have e : glue sp (x :: ws ++ [E]) = sp ++ (x.text ++ glue sp (ws ++ [E])) := by unfold glue; simp
    rw [e]
    refine Rd.next sp x.kind x.text _ _ hs (h x (List.mem_cons_self ..)) ?_ (glue_rd sp h0 hs E hE ws (fun y hy => h y (List.mem_cons_of_mem _ hy)))
    cases sp with
    | nil => exact absurd rfl h0
    | cons c r =>
      refine .inr ⟨c, _, rfl, ?_⟩
      simp at hs
      exact hs.1
theorem glue_words {L : List UInt8} {l : List Wd} (h : lexL 1000 L (1, 1) = .ok l) (sp : List UInt8) (h0 : sp ≠ []) (hs : sp.all blkB = true) :
    ∃ m, lexL 1000 (glue sp l) (1, 1) = .ok m ∧ m.map key = l.map key := by
  obtain ⟨ws, E, rfl, h1, h2, h3, h4⟩ := lex_rights _ _ _ _ h
  obtain ⟨m, hm, hk⟩ := rd_lex (glue_rd sp h0 hs E h2 ws h4) 1000 (1, 1) (by simpa using h3)
  refine ⟨m, hm, ?_⟩
  rw [hk]
  simp [key, h1, h2]
theorem key_get {l m : List Wd} (h : m.map key = l.map key) {k : Nat} {x : Wd} (hx : l[k]? = some x) : ∃ y, m[k]? = some y ∧ y.kind = x.kind ∧ y.text = x.text := by
  have h1 : (m.map key)[k]? = (l.map key)[k]? := by rw [h]
  rw [List.getElem?_map, List.getElem?_map, hx] at h1
  cases hm : m[k]? with
  | none => rw [hm] at h1; cases h1
  | some y =>
    rw [hm] at h1
    simp only [Option.map_some, key, Option.some.injEq, Prod.mk.injEq] at h1
    exact ⟨y, rfl, h1.1, h1.2⟩
end Go.Proofs.YtlkebnobcfffeaaDoor
