/-
  Forced lists: what the program adds and sorts is what the reference collects. Plain lemmas.
  Conditions: as each theorem says.
-/
import Derived.Test.YtdenojfbdkdpiaaGreatPg
namespace Go.Proofs.YtdenojfbdkdpiaaGreat
/-- sent since the last state, one event on -/
def nxS (r : List Int) (k : Nat) (s : Bool) (e : Ev) : Bool := (s && !decide ((k : Int) ∈ r ∨ (s = true ∧ e.kind = 3))) || decide (e.kind = 2)
/-- what is added -/
def addF (r : List Int) : List Ev → Nat → Bool → List Int
  | [], _, _ => []
  | e :: es, k, s => (if (k : Int) ∉ r ∧ s = true ∧ e.kind = 3 then [(k : Int)] else []) ++ addF r es (k + 1) (nxS r k s e)
theorem frc_cons (r : List Int) (e : Ev) (es : List Ev) (k : Nat) (s : Bool) : frc r (e :: es) k s = (if (k : Int) ∈ r ∨ (s = true ∧ e.kind = 3) then [(k : Int)] else []) ++ frc r es (k + 1) (nxS r k s e) := rfl
theorem mem_frc (r : List Int) : ∀ (es : List Ev) (k : Nat) (s : Bool) (a : Int), a ∈ frc r es k s ↔ (a ∈ r ∧ (k : Int) ≤ a ∧ a ≤ (k + es.length : Nat)) ∨ a ∈ addF r es k s
  | [], k, s, a => by
    unfold frc addF
    constructor
    · intro h
      split at h
      · rename_i hk
        rw [List.mem_singleton.1 h]
        exact .inl ⟨hk, Int.le_refl _, by simp⟩
      · exact absurd h List.not_mem_nil
    · rintro (⟨h1, h2, h3⟩ | h)
      · have : a = (k : Int) := by simp only [List.length_nil] at h3; omega
        subst this
        rw [if_pos h1]
        exact List.mem_singleton.2 rfl
      · exact absurd h List.not_mem_nil
  | e :: es, k, s, a => by
    rw [frc_cons]
    unfold addF
    rw [List.mem_append, List.mem_append, mem_frc r es (k + 1) _ a]
    simp only [List.length_cons]
    constructor
    · rintro (h | ⟨h1, h2, h3⟩ | h)
      · split at h
        · rename_i hk
          have ha := List.mem_singleton.1 h
          by_cases hr : (k : Int) ∈ r
          · exact .inl ⟨by rw [ha]; exact hr, by omega, by omega⟩
          · rcases hk with hk | hk
            · exact absurd hk hr
            · exact .inr (.inl (by rw [if_pos ⟨hr, hk⟩]; exact h))
        · exact absurd h List.not_mem_nil
      · exact .inl ⟨h1, by omega, by omega⟩
      · exact .inr (.inr h)
    · rintro (⟨h1, h2, h3⟩ | h | h)
      · by_cases hk : a = (k : Int)
        · left
          rw [if_pos (.inl (by rw [← hk]; exact h1)), hk]
          exact List.mem_singleton.2 rfl
        · exact .inr (.inl ⟨h1, by omega, by omega⟩)
      · split at h
        · rename_i hk
          left
          rw [if_pos (.inr hk.2)]
          exact h
        · exact absurd h List.not_mem_nil
      · exact .inr (.inr h)
theorem addF_ge (r : List Int) (es : List Ev) (k : Nat) (s : Bool) (a : Int) (h : a ∈ addF r es k s) : (k : Int) ≤ a ∧ a ∉ r := by
  induction es generalizing k s with
  | nil => exact absurd h List.not_mem_nil
  | cons e es ih =>
    unfold addF at h
    rcases List.mem_append.1 h with h | h
    · split at h
      · rename_i hk
        rw [List.mem_singleton.1 h]
        exact ⟨Int.le_refl _, hk.1⟩
      · exact absurd h List.not_mem_nil
    · have := ih _ _ h
      exact ⟨by omega, this.2⟩
theorem addF_asc (r : List Int) (es : List Ev) (k : Nat) (s : Bool) : (addF r es k s).Pairwise (· < ·) := by
  induction es generalizing k s with
  | nil => exact List.Pairwise.nil
  | cons e es ih =>
    unfold addF
    refine List.pairwise_append.2 ⟨by split <;> simp, ih _ _, fun a ha b hb => ?_⟩
    have := addF_ge r es _ _ b hb
    split at ha
    · rw [List.mem_singleton.1 ha]; omega
    · exact absurd ha List.not_mem_nil
theorem asc_ext : ∀ {a b : List Int}, a.Pairwise (· < ·) → b.Pairwise (· < ·) → (∀ x, x ∈ a ↔ x ∈ b) → a = b
  | [], [], _, _, _ => rfl
  | [], y :: b, _, _, h => absurd ((h y).2 List.mem_cons_self) List.not_mem_nil
  | x :: a, [], _, _, h => absurd ((h x).1 List.mem_cons_self) List.not_mem_nil
  | x :: a, y :: b, ha, hb, h => by
    obtain ⟨a1, a2⟩ := List.pairwise_cons.1 ha
    obtain ⟨b1, b2⟩ := List.pairwise_cons.1 hb
    have hxy : x = y := by
      rcases List.mem_cons.1 ((h x).1 List.mem_cons_self) with e | e
      · exact e
      · rcases List.mem_cons.1 ((h y).2 List.mem_cons_self) with e' | e'
        · exact e'.symm
        · have := b1 x e; have := a1 y e'; omega
    subst hxy
    rw [asc_ext a2 b2 fun z => ?_]
    constructor
    · intro hz
      rcases List.mem_cons.1 ((h z).1 (List.mem_cons_of_mem _ hz)) with e | e
      · have := a1 z hz; omega
      · exact e
    · intro hz
      rcases List.mem_cons.1 ((h z).2 (List.mem_cons_of_mem _ hz)) with e | e
      · have := b1 z hz; omega
      · exact e
theorem asc_lt_pair {r : List Int} (h : Asc r) : r.Pairwise (· < ·) := by
  rw [List.pairwise_iff_getElem]
  intro i j hi hj hij
  exact asc_lt h hij (List.getElem?_eq_getElem hi) (List.getElem?_eq_getElem hj)
/-- the sorted ones are those that are collected in order -/
theorem sort_frc {r : List Int} {es : List Ev} (h : okRow es.length r) : ((r ++ addF r es 0 false).mergeSort fun x y => decide (x ≤ y)) = frc r es 0 false := by
  have hasc := h.asc
  have hp : ((r ++ addF r es 0 false).mergeSort fun x y => decide (x ≤ y)).Pairwise (· ≤ ·) := by
    have := List.pairwise_mergeSort (le := fun x y : Int => decide (x ≤ y)) (fun a b c => by simp; omega) (fun a b => by simp; omega) (r ++ addF r es 0 false)
    exact this.imp fun h => of_decide_eq_true h
  have hn : ((r ++ addF r es 0 false).mergeSort fun x y => decide (x ≤ y)).Nodup := by
    refine ((List.mergeSort_perm _ _).nodup_iff).2 (List.nodup_append.2 ⟨(asc_lt_pair hasc).imp fun h => by omega, (addF_asc r es 0 false).imp fun h => by omega, fun a ha b hb he => ?_⟩)
    have := (addF_ge r es 0 false b hb).2
    rw [← he] at this
    exact this ha
  refine asc_ext ?_ (frc_asc r es 0 false) fun x => ?_
  · exact (hp.and hn).imp fun ⟨h1, h2⟩ => by
      have : ¬ _ = _ := h2
      omega
  · rw [(List.mergeSort_perm _ _).mem_iff, List.mem_append, mem_frc]
    constructor
    · rintro (h1 | h1)
      · exact .inl ⟨h1, by have := asc_nonneg hasc h1; simpa using this, by have := okRow_le h h1; simpa using this⟩
      · exact .inr h1
    · rintro (⟨h1, -⟩ | h1)
      · exact .inl h1
      · exact .inr h1
theorem drop_at {α : Type} {es : List α} {k : Nat} {e : α} (h : es[k]? = some e) : es.drop k = e :: es.drop (k + 1) := by
  obtain ⟨hk, he⟩ := List.getElem?_eq_some_iff.1 h
  rw [List.drop_eq_getElem_cons hk, he]
theorem add_step {r : List Int} {es : List Ev} {k : Nat} {e : Ev} (h : es[k]? = some e) (s : Bool) : addF r (es.drop k) k s = (if (k : Int) ∉ r ∧ s = true ∧ e.kind = 3 then [(k : Int)] else []) ++ addF r (es.drop (k + 1)) (k + 1) (nxS r k s e) := by
  rw [drop_at h]
  rfl
theorem frc_step {r : List Int} {es : List Ev} {k : Nat} {e : Ev} (h : es[k]? = some e) (s : Bool) : frc r (es.drop k) k s = (if (k : Int) ∈ r ∨ (s = true ∧ e.kind = 3) then [(k : Int)] else []) ++ frc r (es.drop (k + 1)) (k + 1) (nxS r k s e) := by
  rw [drop_at h]
  rfl
/-- the events of a process -/
def evsOf (t : List Pr) (p : Nat) : List Ev := match t[p]? with | some x => x.evs | none => []
theorem evsOf_at {t : List Pr} {p : Nat} {x : Pr} (h : t[p]? = some x) : evsOf t p = x.evs := by unfold evsOf; rw [h]
/-- the forced list of a process, and of all -/
def frcP (t : List Pr) (l : List (List Int)) (p : Nat) : List Int := frc (l.getD p []) (evsOf t p) 0 false
def frcL (t : List Pr) (l : List (List Int)) : List (List Int) := (List.range l.length).map (frcP t l)
theorem frcL_len (t : List Pr) (l : List (List Int)) : (frcL t l).length = l.length := by simp [frcL]
theorem frcL_get {t : List Pr} {l : List (List Int)} {p : Nat} (h : p < l.length) : (frcL t l)[p]? = some (frcP t l p) := by simp [frcL, h]
theorem frcP_at {t : List Pr} {l : List (List Int)} {p : Nat} {x : Pr} {r : List Int} (hx : t[p]? = some x) (hr : l[p]? = some r) : frcP t l p = frc r x.evs 0 false := by
  unfold frcP
  rw [evsOf_at hx, List.getD_eq_getElem?_getD, hr]
  rfl
theorem frc_len (r : List Int) : ∀ (es : List Ev) (k : Nat) (s : Bool), (frc r es k s).length ≤ es.length + 1
  | [], k, s => by unfold frc; split <;> simp
  | e :: es, k, s => by
    have := frc_len r es (k + 1) (nxS r k s e)
    rw [frc_cons, List.length_append, List.length_cons]
    split <;> simp <;> omega
theorem addF_len (r : List Int) : ∀ (es : List Ev) (k : Nat) (s : Bool), (addF r es k s).length ≤ es.length
  | [], k, s => by unfold addF; simp
  | e :: es, k, s => by
    have := addF_len r es (k + 1) (nxS r k s e)
    unfold addF
    rw [List.length_append, List.length_cons]
    split <;> simp <;> omega
end Go.Proofs.YtdenojfbdkdpiaaGreat
