/-
  Plain laws of places: a refused text is refused at the same place, whatever words follow.
  Conditions: none. Plain, no program in sight.
-/
import Derived.Test.YthjalkonlcjhnaaDoorQv
namespace Go.Proofs.YthjalkonlcjhnaaDoor
open Go.RowKit
def noNl (l : List UInt8) : Prop := ∀ x ∈ l, x.toNat ≠ 10
theorem pos_line : ∀ (l : List UInt8) (c : Nat), noNl l → l.foldl posStep (1, c) = (1, c + l.length)
  | [], c, _ => rfl
  | x :: l, c, h => by
    have ih := pos_line l (c + 1) (fun y hy => h y (List.mem_cons_of_mem _ hy))
    rw [List.foldl_cons, show posStep (1, c) x = (1, c + 1) from if_neg (h x (List.mem_cons_self ..)), ih, List.length_cons]
    congr 1
    omega
theorem noNl.take {l : List UInt8} (h : noNl l) (n : Nat) : noNl (l.take n) := fun x hx => h x (List.mem_of_mem_take hx)
theorem noNl.drop {l : List UInt8} (h : noNl l) (n : Nat) : noNl (l.drop n) := fun x hx => h x (List.mem_of_mem_drop hx)
theorem blankP_line {l : List UInt8} (h : noNl l) (c : Nat) : blankP l (1, c) = (1, c + spanL blkB l) := by
  unfold blankP
  rw [pos_line _ _ (h.take _), List.length_take, Nat.min_eq_left (span_le _ _)]
theorem blanks_len (l : List UInt8) : (blanks l).length = l.length - spanL blkB l := by unfold blanks; rw [List.length_drop]
/-- a word's place, or that of the fault -/
def InLine (c n : Nat) (p : Nat × Nat) : Prop := p.1 = 1 ∧ c ≤ p.2 ∧ p.2 ≤ c + n
theorem lex_pos : ∀ (f : Nat) (l : List UInt8) (c : Nat), noNl l →
    (∀ r, lexL f l (1, c) = .ok r → ∀ x ∈ r, InLine c l.length x.pos ∧ (x.kind = 4 → x.pos.2 = c + l.length)) ∧ (∀ p n, lexL f l (1, c) = .bad p n → InLine c l.length p) := by
  intro f
  induction f with
  | zero =>
    intro l c hl
    have hb := blankP_line hl c
    have hs := span_le blkB l
    refine ⟨fun r h => ?_, fun p n h => ?_⟩
    · unfold lexL at h
      split at h
      · rename_i h4
        injection h with h
        have he := first_end _ h4
        have hlen := blanks_len l
        rw [he] at hlen
        simp at hlen
        intro x hx
        rw [← h] at hx
        rw [List.mem_singleton.1 hx, hb]
        exact ⟨⟨rfl, by show c ≤ c + _; omega, by show c + _ ≤ _; omega⟩, fun _ => by show c + _ = _; omega⟩
      · cases h
    · unfold lexL at h
      split at h
      · cases h
      · injection h with h _
        rw [← h, hb]
        exact ⟨rfl, by show c ≤ c + _; omega, by show c + _ ≤ _; omega⟩
  | succ f ih =>
    intro l c hl
    have hb := blankP_line hl c
    have hs := span_le blkB l
    have hlen := blanks_len l
    have hn := first_le (blanks l)
    have hbl : noNl (blanks l) := hl.drop _
    have hp : ((blanks l).take (firstL (blanks l)).2.1).foldl posStep (blankP l (1, c)) = (1, c + spanL blkB l + (firstL (blanks l)).2.1) := by
      rw [hb, pos_line _ _ (hbl.take _), List.length_take, Nat.min_eq_left hn]
    have ih' := ih ((blanks l).drop (firstL (blanks l)).2.1) (c + spanL blkB l + (firstL (blanks l)).2.1) (hbl.drop _)
    rw [List.length_drop] at ih'
    refine ⟨fun r h => ?_, fun p n h => ?_⟩
    · unfold lexL at h
      split at h
      · rename_i h4
        injection h with h
        have he := first_end _ h4
        rw [he] at hlen
        simp at hlen
        intro x hx
        rw [← h] at hx
        rw [List.mem_singleton.1 hx, hb]
        exact ⟨⟨rfl, by show c ≤ c + _; omega, by show c + _ ≤ _; omega⟩, fun _ => by show c + _ = _; omega⟩
      · rename_i h4
        dsimp only at h
        split at h
        · rw [hp] at h
          cases hh : lexL f ((blanks l).drop (firstL (blanks l)).2.1) (1, c + spanL blkB l + (firstL (blanks l)).2.1) with
          | bad q e => rw [hh] at h; cases h
          | ok r' =>
            rw [hh] at h
            injection h with h
            intro x hx
            rw [← h] at hx
            rcases List.mem_cons.1 hx with rfl | hx
            · rw [hb]
              exact ⟨⟨rfl, by show c ≤ c + _; omega, by show c + _ ≤ _; omega⟩, fun e => absurd e h4⟩
            · obtain ⟨⟨h1, h2, h3⟩, h5⟩ := ih'.1 r' hh x hx
              exact ⟨⟨h1, by omega, by omega⟩, fun e => by have := h5 e; omega⟩
        · cases h
    · unfold lexL at h
      split at h
      · cases h
      · dsimp only at h
        split at h
        · rw [hp] at h
          cases hh : lexL f ((blanks l).drop (firstL (blanks l)).2.1) (1, c + spanL blkB l + (firstL (blanks l)).2.1) with
          | ok r => rw [hh] at h; cases h
          | bad q e =>
            rw [hh] at h
            injection h with h1 h2
            obtain ⟨h3, h5, h6⟩ := ih'.2 q e hh
            rw [← h1]
            exact ⟨h3, by omega, by omega⟩
        · injection h with h _
          rw [← h, hb]
          exact ⟨rfl, by show c ≤ c + _; omega, by show c + _ ≤ _; omega⟩
theorem blanks_more {l b : List UInt8} (h : blanks l ≠ []) : blanks (l ++ b) = blanks l ++ b ∧ ∀ p, blankP (l ++ b) p = blankP l p := by
  have hs : spanL blkB (l ++ b) = spanL blkB l := by
    have hlen := blanks_len l
    have hpos : 0 < (blanks l).length := List.length_pos_iff.2 h
    unfold spanL at hlen ⊢
    rw [List.takeWhile_append]
    split
    · rename_i he
      exfalso
      omega
    · rfl
  have hle := span_le blkB l
  constructor
  · unfold blanks
    rw [hs, List.drop_append_of_le_length hle]
  · intro p
    unfold blankP
    rw [hs, List.take_append_of_le_length hle]
theorem lex_more (b : List UInt8) (hb : Stop b) : ∀ (f : Nat) (l : List UInt8) (p : Nat × Nat) (r r2 : List Wd), lexL f l p = .ok r → lexL f (l ++ b) p = .ok r2 → ∃ us E vs, r = us ++ [E] ∧ r2 = us ++ vs ∧ E.kind = 4 := by
  intro f
  induction f with
  | zero =>
    intro l p r r2 h h2
    unfold lexL at h
    split at h
    · injection h with h
      exact ⟨[], _, r2, h.symm, rfl, rfl⟩
    · cases h
  | succ f ih =>
    intro l p r r2 h h2
    unfold lexL at h
    split at h
    · injection h with h
      exact ⟨[], _, r2, h.symm, rfl, rfl⟩
    · rename_i h4
      have hne : blanks l ≠ [] := fun e => h4 (by rw [e]; rfl)
      obtain ⟨e1, e2⟩ := blanks_more (b := b) hne
      have e3 : firstL (blanks l ++ b) = firstL (blanks l) := first_stop hne hb
      have hn := first_le (blanks l)
      unfold lexL at h2
      rw [e1, e2, e3, if_neg h4] at h2
      dsimp only at h h2
      split at h
      · rename_i he
        rw [if_pos he, List.take_append_of_le_length hn, List.drop_append_of_le_length hn] at h2
        cases hh : lexL f ((blanks l).drop (firstL (blanks l)).2.1) (((blanks l).take (firstL (blanks l)).2.1).foldl posStep (blankP l p)) with
        | bad q e => rw [hh] at h; cases h
        | ok r' =>
          rw [hh] at h
          injection h with h
          cases hh2 : lexL f ((blanks l).drop (firstL (blanks l)).2.1 ++ b) (((blanks l).take (firstL (blanks l)).2.1).foldl posStep (blankP l p)) with
          | bad q e => rw [hh2] at h2; cases h2
          | ok r2' =>
            rw [hh2] at h2
            injection h2 with h2
            obtain ⟨us, E, vs, h5, h6, h7⟩ := ih _ _ _ _ hh hh2
            exact ⟨_ :: us, E, vs, by rw [← h, h5]; rfl, by rw [← h2, h6]; rfl, h7⟩
      · cases h
/-- the end of the words -/
theorem lex_last {f : Nat} {l : List UInt8} {p : Nat × Nat} {r : List Wd} (h : lexL f l p = .ok r) : ∃ vs, r.map key = vs ++ [kEnd] := by
  obtain ⟨ks, h1, _⟩ := lx_of_lex _ _ _ _ h
  exact ⟨ks, h1⟩
theorem atW_app (us : List Wd) (vs : List Wd) (r' : List K) (m : List K) (hm : m.length = vs.length) (hr : Suf r' (us.map key)) (hne : r' ≠ []) : atW (us ++ vs) (r' ++ m) = hdW (us.drop (us.length - r'.length)) ∧ us.length - r'.length < us.length := by
  have hle := hr.le
  rw [List.length_map] at hle
  have hpos : 0 < r'.length := List.length_pos_iff.2 hne
  unfold atW
  rw [List.length_append, List.length_append, hm, show us.length + vs.length - (r'.length + vs.length) = us.length - r'.length by omega, List.drop_append_of_le_length (by omega)]
  refine ⟨?_, by omega⟩
  have hd : us.drop (us.length - r'.length) ≠ [] := by
    intro e
    have := congrArg List.length e
    rw [List.length_drop] at this
    simp at this
    omega
  cases hu : us.drop (us.length - r'.length) with
  | nil => exact absurd hu hd
  | cons a l => rfl
theorem hdW_mem {l : List Wd} (h : l ≠ []) : hdW l ∈ l := by
  cases l with
  | nil => exact absurd rfl h
  | cons a r => exact List.mem_cons_self ..
theorem numE_not (l : List UInt8) : numE l ≠ 4 := by
  unfold numE
  split
  · omega
  · split <;> omega
theorem first_not4 (l : List UInt8) : (firstL l).2.2 ≠ 4 := by
  unfold firstL
  split
  · decide
  · split
    · exact numE_not _
    · split
      · dsimp only
        split <;> omega
      · split <;> (dsimp only; omega)
theorem lex_not4 : ∀ (f : Nat) (l : List UInt8) (p q : Nat × Nat) (n : Nat), lexL f l p = .bad q n → n ≠ 4 := by
  intro f
  induction f with
  | zero =>
    intro l p q n h
    unfold lexL at h
    split at h
    · cases h
    · injection h with _ h; omega
  | succ f ih =>
    intro l p q n h
    unfold lexL at h
    split at h
    · cases h
    · dsimp only at h
      split at h
      · cases hh : lexL f ((blanks l).drop (firstL (blanks l)).2.1) (((blanks l).take (firstL (blanks l)).2.1).foldl posStep (blankP l p)) with
        | ok r => rw [hh] at h; cases h
        | bad q' n' =>
          rw [hh] at h
          injection h with h1 h2
          rw [← h2]
          exact ih _ _ _ _ hh
      · injection h with _ h
        rw [← h]; exact first_not4 _
/-- where a refused text is refused -/
theorem places_at {s : List UInt8} {p : Nat × Nat} {n : Nat} (hs : noNl s) (h : parseO s = .err p n) (hn : n = 3 ∨ n = 4) : InLine 1 s.length p ∧ (n = 4 → p.2 = 1 + s.length) := by
  unfold parseO at h
  split at h
  · injection h with _ h; omega
  · cases hx : lexL 1000 s (1, 1) with
    | bad q m =>
      rw [hx] at h
      injection h with h1 h2
      refine ⟨by rw [← h1]; exact (lex_pos 1000 s 1 hs).2 q m hx, fun e => ?_⟩
      exfalso
      exact lex_not4 _ _ _ _ _ hx (by omega)
    | ok l =>
      rw [hx] at h
      dsimp only at h
      obtain ⟨ks, hk⟩ := lex_last hx
      have key0 : ∀ r : List K, (∃ r', r = r' ++ [kEnd]) → Suf r (l.map key) → atW l r ∈ l := by
        rintro r ⟨r', rfl⟩ hsuf
        have hle := hsuf.le
        rw [List.length_map] at hle
        unfold atW
        refine List.mem_of_mem_drop (hdW_mem (fun e => ?_)) (i := l.length - (r' ++ [kEnd]).length)
        have := congrArg List.length e
        rw [List.length_drop] at this
        simp at this hle
        omega
      have fin : ∀ r : List K, (∃ r', r = r' ++ [kEnd]) → Suf r (l.map key) → PO.err (atW l r).pos (errAt (atW l r)) = .err p n → InLine 1 s.length p ∧ (n = 4 → p.2 = 1 + s.length) := by
        intro r h1 h2 h3
        injection h3 with h4 h5
        obtain ⟨h6, h7⟩ := (lex_pos 1000 s 1 hs).1 l hx _ (key0 r h1 h2)
        rw [← h4, ← h5]
        refine ⟨h6, fun e => h7 ?_⟩
        unfold errAt at e
        split at e
        · assumption
        · omega
      unfold treeO at h
      have hsf := fine (10 * (l.map key).length + 8) 0 (l.map key)
      cases hp : parse (l.map key) with
      | stuck => exact absurd hp (parse_not _)
      | bad r =>
        rw [hp] at h
        have hp' : pz (10 * (l.map key).length + 8) 0 none (l.map key) = .bad r := hp
        rw [hp'] at hsf
        refine fin r ?_ hsf h
        rw [hk] at hp'
        exact pz_kp _ _ _ _ (nd 0 []) r (.inr hp')
      | ok t r =>
        rw [hp] at h
        dsimp only at h
        have hp' : pz (10 * (l.map key).length + 8) 0 none (l.map key) = .ok t r := hp
        rw [hp'] at hsf
        split at h
        · split at h
          · cases h
          · injection h with _ h; omega
        · refine fin r ?_ hsf.1 h
          rw [hk] at hp'
          exact pz_kp _ _ _ _ t r (.inl hp')
/-- a prefix is enough to be wrong -/
theorem places_same {s b : List UInt8} {p : Nat × Nat} {l l2 : List Wd} (hb : Stop b) (hl : (s ++ b).length ≤ 16384) (h : parseO s = .err p 3) (hx : lexL 1000 s (1, 1) = .ok l) (hx2 : lexL 1000 (s ++ b) (1, 1) = .ok l2) : parseO (s ++ b) = .err p 3 := by
  obtain ⟨us, E, vs, rfl, rfl, hE⟩ := lex_more b hb 1000 s (1, 1) l l2 hx hx2
  obtain ⟨ks, hk⟩ := lex_last hx
  have hkE : key E = kEnd ∧ us.map key = ks := by
    rw [List.map_append] at hk
    have h1 := List.append_inj' hk rfl
    exact ⟨by simpa using h1.2, h1.1⟩
  rw [List.length_append] at hl
  have core : ∀ (f : Nat) (x : PR) (r : List K), pz f 0 none (us.map key ++ [kEnd]) = x → (∃ r', r' ≠ [] ∧ r = r' ++ [kEnd]) → Suf r (us.map key ++ [kEnd]) → (x = .bad r ∨ ∃ t, x = .ok t r) → errAt (atW (us ++ [E]) r) = 3 →
      ∃ m, parse ((us ++ vs).map key) = (match x with | .ok t _ => .ok t m | _ => .bad m) ∧ atW (us ++ vs) m = atW (us ++ [E]) r ∧ (hd m).1 = (hd r).1 := by
    rintro f x r hx ⟨r', hne, rfl⟩ hsuf hxr herr
    have hrep := pz_rep f 0 none [kEnd] (vs.map key) (us.map key)
    obtain ⟨r2, h1, h2⟩ := Suf.cut hsuf (by simp)
    have h3 : r' = r2 := List.append_cancel_right h1
    subst h3
    have a1 := (atW_app us vs r' (vs.map key) (by simp) h2 hne).1
    have a2 := (atW_app us [E] r' [kEnd] rfl h2 hne).1
    refine ⟨r' ++ vs.map key, ?_, by rw [a1, a2], by rw [hd_app hne, hd_app hne]⟩
    rw [List.map_append]
    rcases hxr with h4 | ⟨t, h4⟩
    · subst h4
      dsimp only
      have h5 := hrep.2 r' hne hx
      have h6 := pz_mono (f' := max f (10 * (us.map key ++ vs.map key).length + 8)) (by rw [h5]; exact fun h => by cases h) (by omega)
      rw [parse_at (by omega), h5] at h6
      exact h6
    · subst h4
      dsimp only
      have h5 := hrep.1 t r' (.inl hne) hx
      have h6 := pz_mono (f' := max f (10 * (us.map key ++ vs.map key).length + 8)) (by rw [h5]; exact fun h => by cases h) (by omega)
      rw [parse_at (by omega), h5] at h6
      exact h6
  unfold parseO at h ⊢
  rw [if_neg (by rw [List.length_append]; omega), hx2]
  rw [if_neg (by omega), hx] at h
  dsimp only at h ⊢
  have hkeys : (us ++ [E]).map key = us.map key ++ [kEnd] := by rw [List.map_append, ← hkE.1]; rfl
  rw [hkeys] at h
  have hsf := fine (10 * (us.map key ++ [kEnd]).length + 8) 0 (us.map key ++ [kEnd])
  have nonend : ∀ r' : List K, errAt (atW (us ++ [E]) (r' ++ [kEnd])) = 3 → Suf (r' ++ [kEnd]) (us.map key ++ [kEnd]) → r' ≠ [] := by
    rintro r' herr hsuf rfl
    unfold atW at herr
    rw [List.length_append] at herr
    simp at herr
    unfold errAt hdW at herr
    simp [hE] at herr
  unfold treeO at h
  cases hp : parse (us.map key ++ [kEnd]) with
  | stuck => exact absurd hp (parse_not _)
  | bad r =>
    have hp' : pz (10 * (us.map key ++ [kEnd]).length + 8) 0 none (us.map key ++ [kEnd]) = .bad r := hp
    rw [hp'] at hsf
    rw [hp] at h
    injection h with h1 h2
    obtain ⟨r', rfl⟩ := pz_kp _ _ _ _ (nd 0 []) r (.inr hp')
    obtain ⟨m, m1, m2, m3⟩ := core _ _ _ hp' ⟨r', nonend r' h2 hsf, rfl⟩ hsf (.inl rfl) h2
    unfold treeO
    rw [m1]
    dsimp only
    rw [m2, h1, h2]
  | ok t r =>
    have hp' : pz (10 * (us.map key ++ [kEnd]).length + 8) 0 none (us.map key ++ [kEnd]) = .ok t r := hp
    rw [hp'] at hsf
    rw [hp] at h
    dsimp only at h
    split at h
    · split at h
      · cases h
      · injection h with _ h; omega
    · rename_i h4
      injection h with h1 h2
      obtain ⟨r', rfl⟩ := pz_kp _ _ _ _ t r (.inl hp')
      obtain ⟨m, m1, m2, m3⟩ := core _ _ _ hp' ⟨r', nonend r' h2 hsf.1, rfl⟩ hsf.1 (.inr ⟨t, rfl⟩) h2
      unfold treeO
      rw [m1]
      dsimp only
      rw [m3, if_neg h4, m2, h1, h2]
end Go.Proofs.YthjalkonlcjhnaaDoor
