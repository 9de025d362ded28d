import Derived.Test.YtfinldppcdkeoaaDoorMath
namespace Go.Proofs.YtfinldppcdkeoaaDoor.Bm
/-- the members of the first k words -/
def pm (ws : List Nat) (k : Nat) : List Nat := (List.range k).flatMap fun j => (wmem (ws.getD j 0)).map (64 * j + ·)
theorem pm_succ (ws : List Nat) (k : Nat) : pm ws (k + 1) = pm ws k ++ (wmem (ws.getD k 0)).map (64 * k + ·) := by
  unfold pm; rw [List.range_succ, List.flatMap_append]; simp
theorem range_blocks (k : Nat) : List.range (64 * k) = (List.range k).flatMap fun j => (List.range 64).map (64 * j + ·) := by
  induction k with
  | zero => rfl
  | succ k ih =>
    rw [show List.range (k + 1) = List.range k ++ [k] from List.range_succ, List.flatMap_append, ← ih, show 64 * (k + 1) = 64 * k + 64 by omega, List.range_eq_range', List.range_eq_range', ← List.range'_append_1]
    congr 1
    simp [List.range_eq_range', List.map_add_range']
theorem filter_flatMap' {α β : Type} (l : List α) (f : α → List β) (p : β → Bool) : (l.flatMap f).filter p = l.flatMap fun a => (f a).filter p := by
  induction l with
  | nil => rfl
  | cons a l ih => rw [List.flatMap_cons, List.filter_append, ih, List.flatMap_cons]
theorem pm_eq (ws : List Nat) (k : Nat) : pm ws k = (List.range (64 * k)).filter (bitAt ws) := by
  rw [range_blocks, filter_flatMap']
  unfold pm
  congr 1
  funext j
  rw [List.filter_map]
  congr 1
  unfold wmem
  apply List.filter_congr
  intro t ht
  simp only [Function.comp]
  rw [bit_word (by simpa using ht)]
theorem filter_range_le {n m : Nat} (p : Nat → Bool) (h : n ≤ m) (hp : ∀ i, n ≤ i → p i = false) : (List.range m).filter p = (List.range n).filter p := by
  rw [List.range_eq_range', List.range_eq_range', show m = n + (m - n) by omega, ← List.range'_append_1, List.filter_append]
  have : (List.range' (0 + n) (m - n)).filter p = [] := by
    rw [List.filter_eq_nil_iff]
    intro a ha
    rw [List.mem_range'_1] at ha
    simp [hp a (by omega)]
  rw [this, List.append_nil]
theorem pm_mems {n : Nat} {ws : List Nat} (h : Valid n ws) : pm ws ws.length = mems n ws := by
  rw [pm_eq, mems]
  exact filter_range_le _ (by have := h.len; omega) h.clean
def total (ws : List Nat) (k : Nat) : Nat := (pm ws k).length
theorem total_succ (ws : List Nat) (k : Nat) : total ws (k + 1) = total ws k + cnt 64 (ws.getD k 0) := by
  unfold total; rw [pm_succ, List.length_append, List.length_map, wmem_length]
theorem cnt_le (n x : Nat) : cnt n x ≤ n := by
  rw [cnt_filter]; have := List.length_filter_le x.testBit (List.range n); simpa using this
theorem total_le (ws : List Nat) (k : Nat) : total ws k ≤ 64 * k := by
  induction k with
  | zero => simp [total, pm]
  | succ k ih => rw [total_succ]; have := cnt_le 64 (ws.getD k 0); omega
/-- the first difference decides -/
def fd (a b : Nat → Bool) : List Nat → Int
  | [] => 0
  | i :: l => if a i && !b i then -1 else if !a i && b i then 1 else fd a b l
theorem fd_same {a b : Nat → Bool} {l : List Nat} (h : ∀ i ∈ l, a i = b i) : fd a b l = 0 := by
  induction l with
  | nil => rfl
  | cons i l ih =>
    have hi := h i List.mem_cons_self
    rw [fd, hi, ih (fun j hj => h j (List.mem_cons_of_mem _ hj))]
    simp
theorem fd_append {a b : Nat → Bool} {l m : List Nat} (h : ∀ i ∈ l, a i = b i) : fd a b (l ++ m) = fd a b m := by
  induction l with
  | nil => rfl
  | cons i l ih =>
    have hi := h i List.mem_cons_self
    rw [List.cons_append, fd, hi, ih (fun j hj => h j (List.mem_cons_of_mem _ hj))]
    simp
theorem fd_at {a b : Nat → Bool} {t : Nat} {m : List Nat} (h : a t ≠ b t) : fd a b (t :: m) = if a t then -1 else 1 := by
  rw [fd]
  cases ha : a t <;> cases hb : b t <;> simp_all
theorem fd_neg (a b : Nat → Bool) (l : List Nat) : fd b a l = - fd a b l := by
  induction l with
  | nil => rfl
  | cons i l ih =>
    rw [fd, fd, ih]
    cases a i <;> cases b i <;> simp
theorem fd_range (a b : Nat → Bool) (l : List Nat) : fd a b l = 0 ∨ fd a b l = 1 ∨ fd a b l = -1 := by
  induction l with
  | nil => exact .inl rfl
  | cons i l ih =>
    rw [fd]
    split
    · exact .inr (.inr rfl)
    · split
      · exact .inr (.inl rfl)
      · exact ih
theorem fd_zero {a b : Nat → Bool} {l : List Nat} (h : fd a b l = 0) : ∀ i ∈ l, a i = b i := by
  induction l with
  | nil => intro i hi; cases hi
  | cons i l ih =>
    rw [fd] at h
    cases ha : a i <;> cases hb : b i <;> simp [ha, hb] at h
    · intro j hj
      rcases List.mem_cons.1 hj with rfl | hj
      · rw [ha, hb]
      · exact ih h j hj
    · intro j hj
      rcases List.mem_cons.1 hj with rfl | hj
      · rw [ha, hb]
      · exact ih h j hj
theorem fd_trans {a b c : Nat → Bool} {l : List Nat} (h : fd a b l ≤ 0) (k : fd b c l ≤ 0) : fd a c l ≤ 0 := by
  induction l with
  | nil => exact Int.le_refl _
  | cons i l ih =>
    rw [fd] at h k ⊢
    cases ha : a i <;> cases hb : b i <;> cases hc : c i <;> simp [ha, hb, hc] at h k ⊢ <;> exact ih h k
/-- the order of the document -/
def cmpS (n : Nat) (ws us : List Nat) : Int :=
  if (mems n ws).length < (mems n us).length then -1 else if (mems n us).length < (mems n ws).length then 1 else fd (bitAt ws) (bitAt us) (List.range n)
theorem fd_range_le {a b : Nat → Bool} {n m : Nat} (h : n ≤ m) (hp : ∀ i, n ≤ i → a i = b i) : fd a b (List.range m) = fd a b (List.range n) := by
  by_cases hz : fd a b (List.range n) = 0
  · rw [hz]
    apply fd_same
    intro i _
    by_cases hi : i < n
    · exact fd_zero hz i (by simpa using hi)
    · exact hp i (by omega)
  · obtain ⟨k, rfl⟩ : ∃ k, m = n + k := ⟨m - n, by omega⟩
    clear h hp
    induction k with
    | zero => rfl
    | succ k ih =>
      rw [← Nat.add_assoc, List.range_succ]
      have key : ∀ (l : List Nat) (x : Nat), fd a b l ≠ 0 → fd a b (l ++ [x]) = fd a b l := by
        intro l x
        induction l with
        | nil => intro h; exact absurd rfl h
        | cons j l ihl =>
          intro h
          rw [List.cons_append, fd, fd]
          rw [fd] at h
          split
          · rfl
          · split
            · rfl
            · rename_i h1 h2
              rw [if_neg h1, if_neg h2] at h
              exact ihl h
      rw [key _ _ (by rw [ih]; exact hz), ih]
theorem range_cut (q r : Nat) : List.range (q + (1 + r)) = List.range q ++ (q :: List.range' (q + 1) r) := by
  rw [List.range_eq_range', List.range_eq_range', ← List.range'_append_1, ← List.range'_append_1]
  simp
/-- the word that differs first -/
theorem fd_word {ws us : List Nat} {k m : Nat} (hk : k < m) (hlow : ∀ j, j < k → ws.getD j 0 = us.getD j 0) (hw : ws.getD k 0 < 2 ^ 64) (hu : us.getD k 0 < 2 ^ 64) (hd : ws.getD k 0 ^^^ us.getD k 0 ≠ 0) :
    fd (bitAt ws) (bitAt us) (List.range (64 * m)) = if (ws.getD k 0).testBit (Go.Lib.ctz 64 (ws.getD k 0 ^^^ us.getD k 0)) then -1 else 1 := by
  obtain ⟨h1, h2, h3⟩ := low_set hd (Nat.xor_lt_two_pow hw hu)
  generalize Go.Lib.ctz 64 (ws.getD k 0 ^^^ us.getD k 0) = t at *
  have e : List.range (64 * m) = List.range (64 * k + t) ++ ((64 * k + t) :: List.range' (64 * k + t + 1) (64 * m - (64 * k + t) - 1)) := by
    rw [← range_cut]
    congr 1
    omega
  rw [e, fd_append, fd_at]
  · rw [bit_word h2]
  · rw [bit_word h2, bit_word h2]
    rw [Nat.testBit_xor] at h1
    simpa using h1
  · intro i hi
    rw [List.mem_range] at hi
    by_cases hik : i / 64 < k
    · unfold bitAt; rw [hlow _ hik]
    · have hq : i = 64 * k + i % 64 := by omega
      have h4 := h3 (i % 64) (by omega)
      rw [Nat.testBit_xor] at h4
      rw [hq, bit_word (by omega), bit_word (by omega)]
      simpa using h4
end Go.Proofs.YtfinldppcdkeoaaDoor.Bm
