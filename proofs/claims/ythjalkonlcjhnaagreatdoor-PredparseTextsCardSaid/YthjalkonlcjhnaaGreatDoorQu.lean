/-
  Plain laws of the reader: texts that are joined where no word goes on.
  Conditions: none. Plain, no program in sight.
-/
import Derived.Test.YthjalkonlcjhnaaGreatDoorQq
namespace Go.Proofs.YthjalkonlcjhnaaGreatDoor
open Go.RowKit
/-- no word goes on into b -/
def Stop (b : List UInt8) : Prop := b = [] ∨ ∃ c r, b = c :: r ∧ (blkB c = true ∨ c = 40 ∨ c = 41 ∨ c = 44 ∨ c = 46)
theorem stop_dig {b : List UInt8} (hb : Stop b) : ∀ c r, b = c :: r → digB c = false := by
  intro c r e
  rcases hb with h | ⟨c', r', h, hc⟩
  · rw [h] at e; cases e
  · rw [h] at e
    injection e with e _
    subst e
    rcases hc with hc | rfl | rfl | rfl | rfl
    · rcases blk_cases hc with rfl | rfl | rfl <;> decide
    all_goals decide
theorem stop_part {b : List UInt8} (hb : Stop b) : ∀ c r, b = c :: r → partB c = false := by
  intro c r e
  rcases hb with h | ⟨c', r', h, hc⟩
  · rw [h] at e; cases e
  · rw [h] at e
    injection e with e _
    subst e
    rcases hc with hc | rfl | rfl | rfl | rfl
    · rcases blk_cases hc with rfl | rfl | rfl <;> decide
    all_goals decide
theorem stop_eq {b : List UInt8} (hb : Stop b) : ∀ c r, b = c :: r → c ≠ 61 := by
  intro c r e
  rcases hb with h | ⟨c', r', h, hc⟩
  · rw [h] at e; cases e
  · rw [h] at e
    injection e with e _
    subst e
    rcases hc with hc | rfl | rfl | rfl | rfl
    · rcases blk_cases hc with rfl | rfl | rfl <;> decide
    all_goals decide
theorem span_more (p : UInt8 → Bool) : ∀ (l b : List UInt8), (∀ c r, b = c :: r → p c = false) → spanL p (l ++ b) = spanL p l
  | [], b, h => by
    unfold spanL
    cases b with
    | nil => rfl
    | cons c r => rw [List.nil_append, List.takeWhile_cons, h c r rfl]; rfl
  | a :: l, b, h => by
    have ih := span_more p l b h
    unfold spanL at ih ⊢
    rw [List.cons_append, List.takeWhile_cons, List.takeWhile_cons]
    cases p a with
    | false => rfl
    | true => simp only [if_true, List.length_cons]; rw [ih]
theorem signs_two : ∀ t ∈ signs, (∃ a, t.data.toList = [a]) ∨ (∃ a, t.data.toList = [a, 61]) := by
  intro t ht
  unfold signs at ht
  simp only [List.mem_cons, List.not_mem_nil, or_false] at ht
  rcases ht with rfl | rfl | rfl | rfl | rfl | rfl | rfl | rfl | rfl | rfl | rfl | rfl | rfl
  · exact .inr ⟨_, rfl⟩
  · exact .inr ⟨_, rfl⟩
  · exact .inr ⟨_, rfl⟩
  all_goals exact .inl ⟨_, rfl⟩
theorem pre_more {t : ByteArray} (ht : t ∈ signs) (c : UInt8) (l b : List UInt8) (hb : ∀ d r, b = d :: r → d ≠ 61) : pre ⟨(c :: l ++ b).toArray⟩ t = pre ⟨(c :: l).toArray⟩ t := by
  unfold pre Lib.hasPrefix
  have e : ∀ x : List UInt8, (⟨x.toArray⟩ : ByteArray).data.toList = x := fun x => rfl
  rw [e, e]
  rcases signs_two t ht with ⟨a, ha⟩ | ⟨a, ha⟩
  · rw [ha]; simp [List.isPrefixOf]
  · rw [ha]
    cases l with
    | cons d l => simp [List.isPrefixOf]
    | nil =>
      cases b with
      | nil => simp
      | cons d r =>
        have := hb d r rfl
        simp [List.isPrefixOf, Ne.symm this]
theorem sign_more (c : UInt8) (l b : List UInt8) (hb : ∀ d r, b = d :: r → d ≠ 61) : signF ⟨(c :: l ++ b).toArray⟩ = signF ⟨(c :: l).toArray⟩ := by
  unfold signF
  have h := fun t ht => pre_more (t := t) ht c l b hb
  generalize signs = S at h
  induction S with
  | nil => rfl
  | cons t S ih =>
    rw [List.find?_cons, List.find?_cons, h t (List.mem_cons_self ..), ih (fun x hx => h x (List.mem_cons_of_mem _ hx))]
theorem first_stop {M b : List UInt8} (hM : M ≠ []) (hb : Stop b) : firstL (M ++ b) = firstL M := by
  cases M with
  | nil => exact absurd rfl hM
  | cons c l =>
    have h1 := span_more digB (c :: l) b (stop_dig hb)
    have h2 := span_more partB (c :: l) b (stop_part hb)
    have h3 := sign_more c l b (stop_eq hb)
    rw [List.cons_append] at h1 h2 h3 ⊢
    unfold firstL
    dsimp only
    rw [h1, h2, h3]
    have h4 : (c :: (l ++ b)).take (spanL digB (c :: l)) = (c :: l).take (spanL digB (c :: l)) := by
      rw [← List.cons_append, List.take_append_of_le_length (span_le _ _)]
    rw [h4]
/-- the words of a text -/
inductive Lx : List UInt8 → List K → Prop
  | fin (b : List UInt8) : b.all blkB = true → Lx b []
  | next (b M : List UInt8) (k n : Nat) (ws : List K) : b.all blkB = true → firstL M = (k, n, 0) → k ≠ 4 → Lx (M.drop n) ws → Lx (b ++ M) ((k, M.take n) :: ws)
theorem blank_split (l : List UInt8) : ∃ b, b.all blkB = true ∧ l = b ++ blanks l := by
  refine ⟨l.takeWhile blkB, ?_, ?_⟩
  · rw [List.all_eq_true]
    intro x hx
    exact List.all_takeWhile (p := blkB) (l := l) |> List.all_eq_true.1 |> fun h => h x hx
  · unfold blanks spanL
    have e := List.takeWhile_append_dropWhile (p := blkB) (l := l)
    have h := congrArg (List.drop (l.takeWhile blkB).length) e
    rw [List.drop_left] at h
    rw [← h]
    exact e.symm
theorem lx_blank {b l : List UInt8} {ws : List K} (hb : b.all blkB = true) (h : Lx l ws) : Lx (b ++ l) ws := by
  cases h with
  | fin _ h => exact .fin _ (by rw [List.all_append, hb, h]; rfl)
  | next b' M k n ws h1 h2 h3 h4 =>
    rw [← List.append_assoc]
    exact .next (b ++ b') M k n ws (by rw [List.all_append, hb, h1]; rfl) h2 h3 h4
theorem lx_of_lex : ∀ (f : Nat) (l : List UInt8) (p : Nat × Nat) (r : List Wd), lexL f l p = .ok r → ∃ ks, r.map key = ks ++ [kEnd] ∧ Lx l ks := by
  intro f
  induction f with
  | zero =>
    intro l p r h
    unfold lexL at h
    split at h
    · rename_i h4
      injection h with h
      obtain ⟨b, hb, hl⟩ := blank_split l
      rw [first_end _ h4, List.append_nil] at hl
      exact ⟨[], by rw [← h]; rfl, by rw [hl]; exact .fin _ hb⟩
    · cases h
  | succ f ih =>
    intro l p r h
    unfold lexL at h
    split at h
    · rename_i h4
      injection h with h
      obtain ⟨b, hb, hl⟩ := blank_split l
      rw [first_end _ h4, List.append_nil] at hl
      exact ⟨[], by rw [← h]; rfl, by rw [hl]; exact .fin _ hb⟩
    · rename_i h4
      dsimp only at h
      split at h
      · rename_i he
        cases hh : lexL f ((blanks l).drop (firstL (blanks l)).2.1) (((blanks l).take (firstL (blanks l)).2.1).foldl posStep (blankP l p)) with
        | bad q e => rw [hh] at h; cases h
        | ok r' =>
          rw [hh] at h
          injection h with h
          obtain ⟨ks, h1, h2⟩ := ih _ _ _ hh
          obtain ⟨b, hb, hl⟩ := blank_split l
          refine ⟨((firstL (blanks l)).1, (blanks l).take (firstL (blanks l)).2.1) :: ks, ?_, ?_⟩
          · rw [← h, List.map_cons, h1]; rfl
          · have h9 := Lx.next b (blanks l) (firstL (blanks l)).1 (firstL (blanks l)).2.1 ks hb (by rw [← he]) h4 h2
            rw [← hl] at h9
            exact h9
      · cases h
theorem first_ne {M : List UInt8} {k n : Nat} (h : firstL M = (k, n, 0)) (h4 : k ≠ 4) : M ≠ [] ∧ n ≤ M.length ∧ ∀ c r, M = c :: r → blkB c = false := by
  obtain ⟨h1, h2, h3⟩ := first_pos h h4
  refine ⟨h3, h2, fun c r e => ?_⟩
  cases hb : blkB c with
  | false => rfl
  | true =>
    rw [e, first_blank r hb] at h
    simp at h
theorem lex_of_lx {l : List UInt8} {ks : List K} (h : Lx l ks) : ∀ (f : Nat) (p : Nat × Nat), ks.length ≤ f → ∃ r, lexL f l p = .ok r ∧ r.map key = ks ++ [kEnd] := by
  induction h with
  | fin b hb =>
    intro f p _
    refine ⟨[⟨4, [], blankP b p⟩], ?_, rfl⟩
    unfold lexL
    rw [blanks_all hb]
    rfl
  | next b M k n ws hb h1 h4 _ ih =>
    intro f p hf
    obtain ⟨hM, hn, hc⟩ := first_ne h1 h4
    have hbl : blanks (b ++ M) = M := blanks_app hb hc
    cases f with
    | zero => simp at hf
    | succ f =>
      obtain ⟨m, hm, hk⟩ := ih f ((M.take n).foldl posStep (blankP (b ++ M) p)) (by simpa using hf)
      unfold lexL
      rw [hbl, h1]
      dsimp only
      rw [if_neg h4, if_pos rfl, hm]
      refine ⟨_, rfl, ?_⟩
      simp [key, hk]
theorem lx_app {l b : List UInt8} {ks vs : List K} (h : Lx l ks) (hs : Stop b) (hb : Lx b vs) : Lx (l ++ b) (ks ++ vs) := by
  induction h with
  | fin b' hb' => exact lx_blank hb' hb
  | next b' M k n ws hb' h1 h4 _ ih =>
    obtain ⟨hM, hn, -⟩ := first_ne h1 h4
    rw [List.append_assoc, List.cons_append, ← List.take_append_of_le_length (l₂ := b) hn]
    refine .next b' (M ++ b) k n (ws ++ vs) hb' ?_ h4 ?_
    · rw [first_stop hM hs, h1]
    · rw [List.drop_append_of_le_length hn]
      exact ih
theorem lx_len {l : List UInt8} {ks : List K} (h : Lx l ks) : ks.length ≤ l.length := by
  induction h with
  | fin b hb => simp
  | next b M k n ws hb h1 h4 _ ih =>
    obtain ⟨h2, h3, _⟩ := first_pos h1 h4
    rw [List.length_cons, List.length_append]
    rw [List.length_drop] at ih
    omega
theorem lx_kind {l : List UInt8} {ks : List K} (h : Lx l ks) : ∀ k ∈ ks, k.1 ≠ 4 := by
  induction h with
  | fin b hb => intro k hk; cases hk
  | next b M k n ws hb h1 h4 _ ih =>
    intro x hx
    rcases List.mem_cons.1 hx with rfl | hx
    · exact h4
    · exact ih x hx
/-- signs of one byte with which no other sign begins -/
theorem first_one (c : UInt8) (hc : c = 40 ∨ c = 41 ∨ c = 44 ∨ c = 46 ∨ c = 45) (r : List UInt8) : firstL (c :: r) = (3, 1, 0) := by
  have e : signF ⟨(c :: r).toArray⟩ = some ⟨#[c]⟩ := by
    unfold signF
    have ht : ∀ t ∈ signs, pre ⟨(c :: r).toArray⟩ t = decide (t.data.toList = [c]) := by
      intro t ht
      unfold pre Lib.hasPrefix
      have e : ∀ x : List UInt8, (⟨x.toArray⟩ : ByteArray).data.toList = x := fun x => rfl
      rw [e]
      unfold signs at ht
      simp only [List.mem_cons, List.not_mem_nil, or_false] at ht
      rcases hc with rfl | rfl | rfl | rfl | rfl <;> rcases ht with rfl | rfl | rfl | rfl | rfl | rfl | rfl | rfl | rfl | rfl | rfl | rfl | rfl <;> simp [List.isPrefixOf]
    have hf : ∀ S : List ByteArray, (∀ t ∈ S, t ∈ signs) → S.find? (pre ⟨(c :: r).toArray⟩) = S.find? (fun t => decide (t.data.toList = [c])) := by
      intro S hS
      induction S with
      | nil => rfl
      | cons t S ih => rw [List.find?_cons, List.find?_cons, ht t (hS t (List.mem_cons_self ..)), ih (fun x hx => hS x (List.mem_cons_of_mem _ hx))]
    rw [hf signs (fun _ h => h)]
    rcases hc with rfl | rfl | rfl | rfl | rfl <;> rfl
  unfold firstL
  dsimp only
  rw [e]
  rcases hc with rfl | rfl | rfl | rfl | rfl <;> rfl
theorem lx_one {c : UInt8} (hc : c = 40 ∨ c = 41 ∨ c = 44 ∨ c = 46 ∨ c = 45) {r : List UInt8} {ks : List K} (h : Lx r ks) : Lx (c :: r) ((3, [c]) :: ks) :=
  Lx.next [] (c :: r) 3 1 ks rfl (first_one c hc r) (by decide) h
theorem lx_paren {c : UInt8} (hc : c = 40 ∨ c = 41) {r : List UInt8} {ks : List K} (h : Lx r ks) : Lx (c :: r) ((3, [c]) :: ks) :=
  lx_one (by rcases hc with h | h; exact .inl h; exact .inr (.inl h)) h
end Go.Proofs.YthjalkonlcjhnaaGreatDoor
