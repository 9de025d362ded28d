/-
  Words that are joined are found again: plain laws of lexL.
  Conditions: none. Plain lists, no program in sight.
-/
import Derived.Test.YthjalkonlcjhnaaGreatDoorPj
namespace Go.Proofs.YthjalkonlcjhnaaGreatDoor
open Go.RowKit
theorem blk_cases {c : UInt8} (h : blkB c = true) : c = 32 ∨ c = 9 ∨ c = 10 := by
  unfold blkB at h
  simp only [Bool.or_eq_true, decide_eq_true_eq] at h
  rcases h with (h | h) | h
  · exact .inl (UInt8.toNat_inj.1 h)
  · exact .inr (.inl (UInt8.toNat_inj.1 h))
  · exact .inr (.inr (UInt8.toNat_inj.1 h))
def Sep (b : List UInt8) : Prop := b = [] ∨ ∃ c r, b = c :: r ∧ blkB c = true
theorem span_app (p : UInt8 → Bool) : ∀ (l b : List UInt8), l.all p = true → (∀ c r, b = c :: r → p c = false) → spanL p (l ++ b) = l.length
  | [], [], _, _ => rfl
  | [], c :: r, _, h => by simp [spanL, h c r rfl]
  | a :: l, b, ha, h => by
    simp only [List.all_cons, Bool.and_eq_true] at ha
    have := span_app p l b ha.2 h
    unfold spanL at *
    simp only [List.cons_append, List.takeWhile_cons, ha.1, if_true, List.length_cons, this]
theorem sep_dig {b : List UInt8} (hb : Sep b) : ∀ c r, b = c :: r → digB c = false := by
  intro c r h
  rcases hb with rfl | ⟨c', r', rfl, hc⟩
  · cases h
  · injection h with h1 h2; subst h1
    rcases blk_cases hc with rfl | rfl | rfl <;> decide
theorem sep_part {b : List UInt8} (hb : Sep b) : ∀ c r, b = c :: r → partB c = false := by
  intro c r h
  rcases hb with rfl | ⟨c', r', rfl, hc⟩
  · cases h
  · injection h with h1 h2; subst h1
    rcases blk_cases hc with rfl | rfl | rfl <;> decide
theorem first_dig {l : List UInt8} {c : UInt8} (hc : l.head? = some c) (hd : digB c = true) : firstL l = (1, spanL digB l, numE (l.take (spanL digB l))) := by
  cases l with
  | nil => cases hc
  | cons a r => injection hc with hc; subst hc; simp only [firstL, hd, if_true]
theorem first_let {l : List UInt8} {c : UInt8} (hc : l.head? = some c) (hd : digB c = false) (hl : letB c = true) : firstL l = (2, spanL partB l, if spanL partB l ≤ 16 then 0 else 13) := by
  cases l with
  | nil => cases hc
  | cons a r => injection hc with hc; subst hc; simp only [firstL, hd, hl, if_true, Bool.false_eq_true, if_false]
theorem first_sgn {l : List UInt8} {c : UInt8} (hc : l.head? = some c) (hd : digB c = false) (hl : letB c = false) : firstL l = match signF ⟨l.toArray⟩ with
      | some t => (3, t.size, 0)
      | none => (3, 0, 3) := by
  cases l with
  | nil => cases hc
  | cons a r => injection hc with hc; subst hc; simp only [firstL, hd, hl, Bool.false_eq_true, if_false]; rfl
theorem sign_app {t : ByteArray} (ht : t ∈ signs) {b : List UInt8} (hb : Sep b) : signF ⟨(t.data.toList ++ b).toArray⟩ = some t := by
  rcases hb with rfl | ⟨c, r, rfl, hc⟩
  · revert t
    decide
  · simp only [signs, List.mem_cons, List.not_mem_nil, or_false] at ht
    rcases blk_cases hc with rfl | rfl | rfl <;>
    rcases ht with rfl | rfl | rfl | rfl | rfl | rfl | rfl | rfl | rfl | rfl | rfl | rfl | rfl <;>
    rfl
theorem first_blank {c : UInt8} (r : List UInt8) (h : blkB c = true) : firstL (c :: r) = (3, 0, 3) := by
  rcases blk_cases h with rfl | rfl | rfl <;> rfl
theorem head_take {M b : List UInt8} {n : Nat} (h : 0 < n) (hM : M ≠ []) : (M.take n ++ b).head? = M.head? := by
  cases M with
  | nil => exact absurd rfl hM
  | cons a r =>
    cases n with
    | zero => omega
    | succ n => rfl
theorem first_pos {M : List UInt8} {k n : Nat} (h : firstL M = (k, n, 0)) (h4 : k ≠ 4) : 0 < n ∧ n ≤ M.length ∧ M ≠ [] := by
  have hle := first_le M
  rw [h] at hle
  cases M with
  | nil => unfold firstL at h; injection h with h1 _; exact absurd h1.symm h4
  | cons c r =>
    refine ⟨?_, hle, by simp⟩
    by_cases hd : digB c = true
    · rw [first_dig (c := c) rfl hd] at h
      injection h with _ h; injection h with h _
      rw [← h]; unfold spanL; simp [hd]
    · by_cases hl : letB c = true
      · rw [first_let (c := c) rfl (by simpa using hd) hl] at h
        injection h with _ h; injection h with h _
        rw [← h]; unfold spanL; simp [let_part hl]
      · rw [first_sgn (c := c) rfl (by simpa using hd) (by simpa using hl)] at h
        cases hs : signF ⟨(c :: r).toArray⟩ with
        | none => rw [hs] at h; simp at h
        | some t =>
          rw [hs] at h
          injection h with _ h; injection h with h _
          rw [← h]
          exact (sign_small t (List.mem_of_find?_eq_some hs)).2
theorem first_app {M b : List UInt8} (hb : Sep b) {k n : Nat} (h : firstL M = (k, n, 0)) (h4 : k ≠ 4) : firstL (M.take n ++ b) = (k, n, 0) := by
  obtain ⟨hn, hle, hM⟩ := first_pos h h4
  obtain ⟨c, hc⟩ : ∃ c, M.head? = some c := by
    cases M with
    | nil => exact absurd rfl hM
    | cons a r => exact ⟨a, rfl⟩
  have hc' : (M.take n ++ b).head? = some c := (head_take hn hM).trans hc
  have hlen : (M.take n).length = n := by rw [List.length_take]; omega
  by_cases hd : digB c = true
  · rw [first_dig hc hd] at h
    rw [first_dig hc' hd]
    injection h with h1 h; injection h with h2 h3
    have ha := take_all digB M
    rw [h2] at ha h3
    have hs := span_app digB (M.take n) b ha (sep_dig hb)
    rw [hlen] at hs
    rw [hs, List.take_left' hlen, h1, h3]
  · have hd : digB c = false := by simpa using hd
    by_cases hl : letB c = true
    · rw [first_let hc hd hl] at h
      rw [first_let hc' hd hl]
      injection h with h1 h; injection h with h2 h3
      have ha := take_all partB M
      rw [h2] at ha h3
      have hs := span_app partB (M.take n) b ha (sep_part hb)
      rw [hlen] at hs
      rw [hs, h1, h3]
    · have hl : letB c = false := by simpa using hl
      rw [first_sgn hc hd hl] at h
      rw [first_sgn hc' hd hl]
      cases hs : signF ⟨M.toArray⟩ with
      | none => rw [hs] at h; simp at h
      | some t =>
        rw [hs] at h
        injection h with h1 h; injection h with h2 _
        have ht := List.mem_of_find?_eq_some hs
        have hst := sign_take hs
        have e : M.take n = t.data.toList := by
          rw [hst]
          show M.take n = M.take _
          rw [h2]
        rw [e, sign_app ht hb]
        show (3, t.size, 0) = _
        rw [h1, h2]
/-- a word that stands by itself -/
def Right (k : Nat) (T : List UInt8) : Prop := firstL T = (k, T.length, 0) ∧ k ≠ 4
theorem right_of {M : List UInt8} {k n : Nat} (h : firstL M = (k, n, 0)) (h4 : k ≠ 4) : Right k (M.take n) := by
  obtain ⟨hn, hle, hM⟩ := first_pos h h4
  have := first_app (b := []) (.inl rfl) h h4
  rw [List.append_nil] at this
  refine ⟨?_, h4⟩
  rw [this, List.length_take, Nat.min_eq_left hle]
theorem right_pos {k : Nat} {T : List UInt8} (h : Right k T) : 0 < T.length := (first_pos h.1 h.2).1
theorem right_head {k : Nat} {T : List UInt8} (h : Right k T) : ∃ c r, T = c :: r ∧ blkB c = false := by
  cases hT : T with
  | nil => have := right_pos h; rw [hT] at this; simp at this
  | cons c r =>
    refine ⟨c, r, rfl, ?_⟩
    cases hb : blkB c with
    | false => rfl
    | true =>
      have h1 := h.1
      rw [hT, first_blank r hb] at h1
      simp at h1
theorem right_app {k : Nat} {T b : List UInt8} (h : Right k T) (hb : Sep b) : firstL (T ++ b) = (k, T.length, 0) := by
  have := first_app hb h.1 h.2
  rw [List.take_length] at this
  exact this
inductive Rd : List (Nat × List UInt8) → List UInt8 → Prop
  | fin (b : List UInt8) : b.all blkB = true → Rd [] b
  | next (b : List UInt8) (k : Nat) (T rest : List UInt8) (ws : List (Nat × List UInt8)) : b.all blkB = true → Right k T → Sep rest → Rd ws rest → Rd ((k, T) :: ws) (b ++ (T ++ rest))
def key (x : Wd) : Nat × List UInt8 := (x.kind, x.text)
theorem blanks_all {b : List UInt8} (h : b.all blkB = true) : blanks b = [] := by
  unfold blanks
  have := span_app blkB b [] h (fun c r e => by cases e)
  rw [List.append_nil] at this
  rw [this, List.drop_length]
theorem blanks_app {b l : List UInt8} (h : b.all blkB = true) (hl : ∀ c r, l = c :: r → blkB c = false) : blanks (b ++ l) = l := by
  unfold blanks
  rw [span_app blkB b l h hl]
  simp
theorem rd_lex {ws : List (Nat × List UInt8)} {l : List UInt8} (h : Rd ws l) : ∀ (f : Nat) (p : Nat × Nat), ws.length ≤ f → ∃ m, lexL f l p = .ok m ∧ m.map key = ws ++ [(4, [])] := by
  induction h with
  | fin b hb =>
    intro f p _
    refine ⟨[⟨4, [], blankP b p⟩], ?_, rfl⟩
    unfold lexL
    rw [blanks_all hb]
    rfl
  | next b k T rest ws hb hr hs _ ih =>
    intro f p hf
    have hbl : blanks (b ++ (T ++ rest)) = T ++ rest := by
      refine blanks_app hb ?_
      intro c r e
      obtain ⟨c', r', rfl, hc⟩ := right_head hr
      injection e with e1 _
      rw [← e1]; exact hc
    cases f with
    | zero => simp at hf
    | succ f =>
      obtain ⟨m, hm, hk⟩ := ih f ((((T ++ rest)).take T.length).foldl posStep (blankP (b ++ (T ++ rest)) p)) (by simpa using hf)
      unfold lexL
      rw [hbl, right_app hr hs]
      dsimp only
      rw [if_neg hr.2, if_pos rfl, List.drop_left, hm]
      refine ⟨_, rfl, ?_⟩
      simp [key, hk]
/-- what lexL finds stands by itself, and the end is behind it -/
theorem lex_rights : ∀ (f : Nat) (l : List UInt8) (p : Nat × Nat) (r : List Wd), lexL f l p = .ok r → ∃ ws E, r = ws ++ [E] ∧ E.kind = 4 ∧ E.text = [] ∧ ws.length ≤ f ∧ ∀ x ∈ ws, Right x.kind x.text := by
  intro f
  induction f with
  | zero =>
    intro l p r h
    unfold lexL at h
    split at h
    · injection h with h; exact ⟨[], _, h.symm, rfl, rfl, Nat.le_refl _, by simp⟩
    · cases h
  | succ f ih =>
    intro l p r h
    unfold lexL at h
    split at h
    · injection h with h; exact ⟨[], _, h.symm, rfl, rfl, Nat.zero_le _, by simp⟩
    · rename_i h4
      dsimp only at h
      split at h
      · rename_i he
        cases hh : lexL f ((blanks l).drop (firstL (blanks l)).2.1) (((blanks l).take (firstL (blanks l)).2.1).foldl posStep (blankP l p)) with
        | bad q e => rw [hh] at h; cases h
        | ok r' =>
          rw [hh] at h
          injection h with h
          obtain ⟨ws, E, rfl, h1, h2, h3, h5⟩ := ih _ _ _ hh
          refine ⟨⟨(firstL (blanks l)).1, (blanks l).take (firstL (blanks l)).2.1, blankP l p⟩ :: ws, E, h.symm, h1, h2, by simp; omega, ?_⟩
          intro x hx
          rcases List.mem_cons.1 hx with rfl | hx
          · refine right_of (M := blanks l) ?_ h4
            rw [← he]
          · exact h5 x hx
      · cases h
end Go.Proofs.YthjalkonlcjhnaaGreatDoor
