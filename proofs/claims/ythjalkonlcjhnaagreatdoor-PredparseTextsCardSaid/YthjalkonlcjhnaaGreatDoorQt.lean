/-
  PROVED HERE: Parse answers what the plain parser answers.
  Conditions: the world's tables are as laid (Env).
-/
import Derived.Test.YthjalkonlcjhnaaGreatDoorQp
import Derived.Test.YthjalkonlcjhnaaGreatDoorQs
namespace Go.Proofs.YthjalkonlcjhnaaGreatDoor
open Go.RowKit
theorem lex_bad_ne : ∀ (f : Nat) (l : List UInt8) (p q : Nat × Nat) (n : Nat), lexL f l p = .bad q n → n ≠ 0 := by
  intro f
  induction f with
  | zero =>
    intro l p q n h
    unfold lexL at h
    split at h
    · cases h
    · injection h with _ h; omega
  | succ f ih =>
    intro l p q n h
    unfold lexL at h
    split at h
    · cases h
    · dsimp only at h
      split at h
      · cases hh : lexL f ((blanks l).drop (firstL (blanks l)).2.1) (((blanks l).take (firstL (blanks l)).2.1).foldl posStep (blankP l p)) with
        | ok r => rw [hh] at h; cases h
        | bad q' n' =>
          rw [hh] at h
          injection h with h1 h2
          rw [← h2]
          exact ih _ _ _ _ hh
      · rename_i h2
        injection h with _ h
        rw [← h]; exact h2
theorem lex_wf {l : List UInt8} {p : Nat × Nat} {r : List Wd} (h : lexL 1000 l p = .ok r) (hl : l.length ≤ 16384) : WfW r ∧ r.length ≤ 1001 := by
  obtain ⟨ws, E, rfl, h1, h2, h3, h4⟩ := lex_rights _ _ _ _ h
  refine ⟨⟨ws, E, rfl, h1, h2, fun u hu => ⟨h4 u hu, ?_⟩⟩, by simp; omega⟩
  have := lex_short _ _ _ _ h u (List.mem_append_left _ hu)
  omega
theorem WfW.drop : ∀ (n : Nat) {ws x r} (_ : WfW ws) (_ : ws.drop n = x :: r), WfW (x :: r)
  | 0, ws, x, r, h, e => by rw [List.drop_zero] at e; rw [← e]; exact h
  | n + 1, ws, x, r, h, e => by
    obtain ⟨y, r', rfl⟩ := h.cons
    rw [List.drop_succ_cons] at e
    by_cases hy : y.kind = 4
    · obtain ⟨us, E, h1, hE, hT, hu⟩ := h
      cases us with
      | nil =>
        injection h1 with _ h2
        rw [h2] at e
        simp at e
      | cons a l =>
        injection h1 with h2 h3
        exact absurd (hu a (List.mem_cons_self ..)).1.2 (by rw [← h2]; exact fun h => h hy)
    · exact WfW.drop n (h.next hy).1 e
theorem parse_c (s : ByteArray) (w : World) (hE : Env w) : Calls Tryz.prog 23 #[.string s] w (ParseR w (parseO s.data.toList)) := by
  unfold parseO
  by_cases hl : 16384 < s.size
  · rw [if_pos (by rw [← size_data]; exact hl)]
    exact parse_bad s (0, 0) 5 w (by omega) (fun w' _ => words_long s w' hl)
  · rw [if_neg (by rw [← size_data]; exact hl)]
    have HW := fun w' (hx : Ex w w') => words_c s w' (hE.ex hx) (by omega)
    cases hx : lexL 1000 s.data.toList (1, 1) with
    | bad p n =>
      rw [hx] at HW
      exact parse_bad s p n w (lex_bad_ne _ _ _ _ _ hx) HW
    | ok ws =>
      rw [hx] at HW
      obtain ⟨hwf, hlen⟩ := lex_wf hx (by rw [← size_data]; omega)
      have hs := orS_sim ws
      have hc := fun W g b h => orS_c g b ws W h
      generalize orS ws = R at hs hc
      obtain ⟨T0, S0⟩ := R
      show Calls _ _ _ _ (ParseR w (treeO ws (parse (ws.map key))))
      cases hp : parse (ws.map key) with
      | stuck => exact absurd hp (parse_not _)
      | bad r =>
        rw [hp] at hs
        obtain ⟨n, h1, rfl⟩ := hs
        dsimp only at h1
        have h2 : St.no ⟨ws, 0, (0, 0)⟩ n = ⟨ws.drop n, errAt (hdW (ws.drop n)), (hdW (ws.drop n)).pos⟩ := rfl
        rw [h2] at h1
        have := parse_dead s ws w hwf HW T0 S0 hc (by rw [h1]; exact errAt_ne _)
        unfold treeO
        dsimp only
        rw [atW_drop]
        rw [h1] at this
        exact this
      | ok t r =>
        have hsz := parse_size hp
        rw [List.length_map] at hsz
        rw [hp] at hs
        obtain ⟨n, h1, rfl⟩ := hs
        injection h1 with h1 h2
        subst h1
        have h3 : St.at ⟨ws, 0, (0, 0)⟩ n = ⟨ws.drop n, 0, (0, 0)⟩ := rfl
        rw [h3] at h2
        unfold treeO
        dsimp only
        rw [atW_drop, hd_key]
        cases hd : ws.drop n with
        | nil =>
          rw [hd] at h2
          exact parse_none s ws w hwf HW T0 S0 hc (by rw [h2]) _
        | cons x r =>
          obtain ⟨k0, TX, x1, x2⟩ := x
          rw [hd] at h2
          subst h2
          show Calls _ _ _ _ (ParseR w (if k0 = 4 then _ else .err (x1, x2) (errAt ⟨k0, TX, (x1, x2)⟩)))
          by_cases hk : k0 = 4
          · rw [if_pos hk]
            cases hsb : smallB T0 with
            | true => exact parse_tree s ws w hwf HW T0 k0 TX x1 x2 r 0 0 hc hk (by omega) hsb
            | false => exact parse_full s ws w hwf HW T0 k0 TX x1 x2 r 0 0 hc hk (by omega) hsb
          · rw [if_neg hk, show errAt ⟨k0, TX, (x1, x2)⟩ = 3 from if_neg hk]
            exact parse_wrong s ws w hwf HW T0 k0 TX x1 x2 r 0 0 hc hk
end Go.Proofs.YthjalkonlcjhnaaGreatDoor
