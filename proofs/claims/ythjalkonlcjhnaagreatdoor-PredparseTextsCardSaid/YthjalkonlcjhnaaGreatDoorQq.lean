/-
  The plain parser: what it has not reached may be replaced; levels lifted.
  Conditions: none. Plain, no program in sight.
-/
import Derived.Test.YthjalkonlcjhnaaGreatDoorQa
namespace Go.Proofs.YthjalkonlcjhnaaGreatDoor
open Go.RowKit
abbrev kEnd : K := (4, [])
abbrev kClose : K := (3, [41])
/-- the tail e may be replaced by m behind r: r is not empty, or e is the end, and m begins with a closing parenthesis -/
def Tl (e m r : List K) : Prop := r ≠ [] ∨ (e = [kEnd] ∧ ∃ m', m = kClose :: m')
theorem Tl.up {e m r s : List K} (h : Tl e m r) (hl : r.length ≤ s.length) : Tl e m s := by
  rcases h with h | h
  · refine .inl fun hs => h ?_
    rw [hs] at hl
    exact List.eq_nil_of_length_eq_zero (by simpa using hl)
  · exact .inr h
theorem hd_app {s : List K} (h : s ≠ []) (e : List K) : hd (s ++ e) = hd s := by
  cases s with
  | nil => exact absurd rfl h
  | cons a l => rfl
theorem tail_app {s : List K} (h : s ≠ []) (e : List K) : (s ++ e).tail = s.tail ++ e := by
  cases s with
  | nil => exact absurd rfl h
  | cons a l => rfl
theorem isT_same {e m s : List K} (h : Tl e m s) {S : List UInt8} (hS : S ≠ [41]) : isT (hd (s ++ m)) S = isT (hd (s ++ e)) S := by
  by_cases hs : s = []
  · rcases h with h | ⟨rfl, m', rfl⟩
    · exact absurd hs h
    · subst hs
      simp [isT, hd, Ne.symm hS]
  · rw [hd_app hs, hd_app hs]
theorem isT_live {e m s : List K} (h : Tl e m s) {S : List UInt8} (ht : isT (hd (s ++ e)) S = true) : s ≠ [] := by
  intro hs
  rcases h with h | ⟨rfl, m', rfl⟩
  · exact h hs
  · subst hs
    simp [isT, hd] at ht
theorem isNm_same {e m s : List K} (h : Tl e m s) : isNm (hd (s ++ m)) = isNm (hd (s ++ e)) := by
  by_cases hs : s = []
  · rcases h with h | ⟨rfl, m', rfl⟩
    · exact absurd hs h
    · subst hs
      simp [isNm, hd]
  · rw [hd_app hs, hd_app hs]
theorem isNm_live {e m s : List K} (h : Tl e m s) (ht : isNm (hd (s ++ e)) = true) : s ≠ [] := by
  intro hs
  rcases h with h | ⟨rfl, m', rfl⟩
  · exact h hs
  · subst hs
    simp [isNm, hd] at ht
theorem one_same {e m s : List K} (h : Tl e m s) : ((hd (s ++ m)).1 = 1) = ((hd (s ++ e)).1 = 1) := by
  by_cases hs : s = []
  · rcases h with h | ⟨rfl, m', rfl⟩
    · exact absurd hs h
    · subst hs
      simp [hd]
  · rw [hd_app hs, hd_app hs]
theorem one_live {e m s : List K} (h : Tl e m s) (ht : (hd (s ++ e)).1 = 1) : s ≠ [] := by
  intro hs
  rcases h with h | ⟨rfl, m', rfl⟩
  · exact h hs
  · subst hs
    simp [hd] at ht
theorem pick_same {e m s : List K} (h : Tl e m s) {js : List (List UInt8 × Int)} (hj : ∀ j ∈ js, j.1 ≠ [41]) : pick js (hd (s ++ m)) = pick js (hd (s ++ e)) := by
  unfold pick
  congr 1
  induction js with
  | nil => rfl
  | cons j js ih =>
    rw [List.find?_cons, List.find?_cons, isT_same h (hj j (List.mem_cons_self ..)), ih (fun x hx => hj x (List.mem_cons_of_mem _ hx))]
theorem pick_live {e m s : List K} (h : Tl e m s) {js : List (List UInt8 × Int)} {k : Int} (ht : pick js (hd (s ++ e)) = some k) : s ≠ [] := by
  unfold pick at ht
  cases hf : js.find? (fun j => isT (hd (s ++ e)) j.1) with
  | none => rw [hf] at ht; cases ht
  | some j =>
    have := List.find?_some (p := fun (j : List UInt8 × Int) => isT (hd (s ++ e)) j.1) hf
    exact isT_live h this
theorem joints_ok (lv : Nat) : ∀ j ∈ joints lv, j.1 ≠ [41] := by
  unfold joints
  intro j hj
  split at hj
  · simp at hj; subst hj; decide
  split at hj
  · simp at hj; subst hj; decide
  split at hj
  · simp at hj; rcases hj with rfl | rfl <;> decide
  split at hj
  · simp at hj; subst hj; decide
  · simp at hj
theorem prefs_ok : ∀ j ∈ prefs, j.1 ≠ [41] := by decide
theorem cmp1_ok : ∀ j ∈ cmp1, j.1 ≠ [41] := by decide
theorem cmp2_ok : ∀ j ∈ cmp2, j.1 ≠ [41] := by decide
/-- what is left of s ++ e and is not shorter than e -/
theorem Suf.cut {r s e : List K} (h : Suf r (s ++ e)) (hl : e.length ≤ r.length) : ∃ r', r = r' ++ e ∧ Suf r' s := by
  obtain ⟨n, rfl⟩ := h
  rw [List.length_drop, List.length_append] at hl
  by_cases hn : n ≤ s.length
  · exact ⟨s.drop n, by rw [List.drop_append_of_le_length hn], n, rfl⟩
  · have he : e = [] := List.eq_nil_of_length_eq_zero (by omega)
    subst he
    exact ⟨s.drop n, by simp, n, rfl⟩
/-- a result of the words s ++ e, and that of s ++ m -/
def Rep (e m : List K) (x y : PR) : Prop :=
  (∀ t r, Tl e m r → x = .ok t (r ++ e) → y = .ok t (r ++ m)) ∧ (∀ r, r ≠ [] → x = .bad (r ++ e) → y = .bad (r ++ m))
theorem Rep.bad {e m s : List K} (x : PR) : (x = .bad (s ++ m)) → Rep e m (.bad (s ++ e)) x := fun h =>
  ⟨fun t r _ hx => by (cases hx), fun r _ hx => by
    injection hx with hx
    rw [h, List.append_cancel_right hx]⟩
theorem Rep.no {e m : List K} (x : PR) : Rep e m (.bad e) x :=
  ⟨fun t r _ hx => by (cases hx), fun r hr hx => by
    injection hx with hx
    exact absurd (by simpa using hx) hr⟩
theorem Rep.ok {e m s : List K} (t : Tr) : Rep e m (.ok t (s ++ e)) (.ok t (s ++ m)) :=
  ⟨fun u r _ hx => by
    injection hx with h1 h2
    rw [h1, List.append_cancel_right h2], fun r _ hx => by (cases hx)⟩
theorem Rep.bind {e m s : List K} {x y : PR} {g g' : Tr → List K → PR} (h : Rep e m x y) (hx : Fine (s ++ e) x) (hf : ∀ t r, x = .ok t r → ∀ u q, (g t r = .ok u q ∨ g t r = .bad q) → Suf q r)
    (hg : ∀ t r, x = .ok t (r ++ e) → Suf r s → Tl e m r → Rep e m (g t (r ++ e)) (g' t (r ++ m))) : Rep e m (x.bind g) (y.bind g') := by
  constructor
  · intro t r hT hb
    obtain ⟨u, q, h1, h2⟩ := bind_ok hb
    have hsuf := hf u q h1 t (r ++ e) (.inl h2)
    rw [h1] at hx
    obtain ⟨q', rfl, hq⟩ := Suf.cut hx.1 (by have := hsuf.le; rw [List.length_append] at this; omega)
    have hTq : Tl e m q' := hT.up (by have := hsuf.le; rw [List.length_append, List.length_append] at this; omega)
    rw [h.1 u q' hTq h1]
    exact (hg u q' h1 hq hTq).1 t r hT h2
  · intro r hr hb
    rcases bind_bad hb with h1 | ⟨u, q, h1, h2⟩
    · rw [h.2 r hr h1]; rfl
    · have hsuf := hf u q h1 u (r ++ e) (.inr h2)
      rw [h1] at hx
      obtain ⟨q', rfl, hq⟩ := Suf.cut hx.1 (by have := hsuf.le; rw [List.length_append] at this; omega)
      have hTq : Tl e m q' := Tl.up (.inl hr) (by have := hsuf.le; rw [List.length_append, List.length_append] at this; omega)
      rw [h.1 u q' hTq h1]
      exact (hg u q' h1 hq hTq).2 r hr h2
theorem Rep.keep {e m : List K} {x y : PR} {f : Tr → Tr} (h : Rep e m x y) : Rep e m (x.bind fun t r => .ok (f t) r) (y.bind fun t r => .ok (f t) r) := by
  constructor
  · intro t r hT hb
    obtain ⟨u, q, h1, h2⟩ := bind_ok hb
    injection h2 with h2 h3
    subst h3
    rw [h.1 u r hT h1, ← h2]; rfl
  · intro r hr hb
    rcases bind_bad hb with h1 | ⟨u, q, h1, h2⟩
    · rw [h.2 r hr h1]; rfl
    · cases h2
/-- a test of a token: the way for true is asked where it is true of a token of s, the way for false where both are false -/
theorem Rep.test {e m s : List K} (hT : Tl e m s) {S : List UInt8} (hS : S ≠ [41]) {a b a' b' : PR} (h1 : s ≠ [] → Rep e m a a') (h2 : Rep e m b b') :
    Rep e m (if isT (hd (s ++ e)) S then a else b) (if isT (hd (s ++ m)) S then a' else b') := by
  rw [isT_same hT hS]
  cases ht : isT (hd (s ++ e)) S with
  | true => exact h1 (isT_live hT ht)
  | false => exact h2
theorem Rep.testN {e m s : List K} (hT : Tl e m s) {a b a' b' : PR} (h1 : s ≠ [] → Rep e m a a') (h2 : Rep e m b b') :
    Rep e m (if isNm (hd (s ++ e)) then a else b) (if isNm (hd (s ++ m)) then a' else b') := by
  rw [isNm_same hT]
  cases ht : isNm (hd (s ++ e)) with
  | true => exact h1 (isNm_live hT ht)
  | false => exact h2
theorem Rep.one {e m s : List K} (hT : Tl e m s) {a b a' b' : PR} (h1 : s ≠ [] → Rep e m a a') (h2 : Rep e m b b') :
    Rep e m (if (hd (s ++ e)).1 = 1 then a else b) (if (hd (s ++ m)).1 = 1 then a' else b') := by
  by_cases ht : (hd (s ++ e)).1 = 1
  · rw [if_pos ht, if_pos (by rw [one_same hT]; exact ht)]
    exact h1 (one_live hT ht)
  · rw [if_neg ht, if_neg (by rw [one_same hT]; exact ht)]
    exact h2
theorem Rep.close {e m s : List K} (hT : Tl e m s) {a a' : PR} (h1 : s ≠ [] → Rep e m a a') :
    Rep e m (if isT (hd (s ++ e)) [41] then a else .bad (s ++ e)) (if isT (hd (s ++ m)) [41] then a' else .bad (s ++ m)) := by
  by_cases hs : s = []
  · subst hs
    rcases hT with h | ⟨rfl, m', rfl⟩
    · exact absurd rfl h
    · rw [if_neg (by simp [isT, hd])]
      exact Rep.no _
  · rw [hd_app hs, hd_app hs]
    split
    · exact h1 hs
    · exact Rep.bad _ rfl
/-- all that a result leaves is of ks -/
def Sfx (ks : List K) : PR → Prop
  | .stuck => True
  | .ok _ r => Suf r ks
  | .bad r => Suf r ks
theorem Sfx.ite {ks : List K} {c : Prop} [Decidable c] {a b : PR} (h : Sfx ks a) (k : Sfx ks b) : Sfx ks (if c then a else b) := by
  split
  · exact h
  · exact k
theorem Fine.sfx {ks : List K} {x : PR} (h : Fine ks x) : Sfx ks x := by
  cases x with
  | stuck => trivial
  | ok t r => exact h.1
  | bad r => exact h
theorem Sfx.bind {ks r : List K} {x : PR} {g : Tr → List K → PR} (hs : Suf r ks) (h : Fine r x) (hg : ∀ t s, Suf s ks → Sfx ks (g t s)) : Sfx ks (x.bind g) := by
  cases x with
  | stuck => trivial
  | ok t s => exact hg t s (h.1.trans hs)
  | bad s => exact Suf.trans h hs
theorem Sfx.suf {ks : List K} {x : PR} (h : Sfx ks x) : ∀ t r, (x = .ok t r ∨ x = .bad r) → Suf r ks := by
  intro t r hx
  rcases hx with rfl | rfl
  · exact h
  · exact h
/-- the next state: what stands behind may be all that is left -/
theorem Rep.any {e m s : List K} {x y : PR} (hx : Sfx (s ++ e) x) (h : Tl e m s → Rep e m x y) : Rep e m x y := by
  constructor
  · intro t r hT hb
    refine (h (hT.up ?_)).1 t r hT hb
    have := (hx.suf t _ (.inl hb)).le
    rw [List.length_append, List.length_append] at this
    omega
  · intro r hr hb
    refine (h (Tl.up (.inl hr) ?_)).2 r hr hb
    have := (hx.suf (nd 0 []) _ (.inr hb)).le
    rw [List.length_append, List.length_append] at this
    omega
theorem count_rep {e m s : List K} (hT : Tl e m s) : Rep e m (countP (s ++ e)) (countP (s ++ m)) := by
  unfold countP
  refine Rep.test hT (by decide) (fun hs => ?_) (Rep.bad _ rfl)
  rw [tail_app hs, tail_app hs]
  refine Rep.any (s := s.tail) ?_ fun hT => Rep.testN hT (fun hs => ?_) (Rep.bad _ rfl)
  · (repeat' refine Sfx.ite ?_ ?_) <;> (show Suf _ _; repeat (first | exact Suf.refl _ | refine Suf.trans (Suf.tail _) ?_))
  rw [hd_app hs, hd_app hs, tail_app hs, tail_app hs]
  refine Rep.any (s := s.tail.tail) ?_ fun hT => Rep.close hT (fun hs => ?_)
  · (repeat' refine Sfx.ite ?_ ?_) <;> (show Suf _ _; repeat (first | exact Suf.refl _ | refine Suf.trans (Suf.tail _) ?_))
  rw [tail_app hs, tail_app hs]
  exact Rep.ok _
theorem chan_rep {e m s : List K} (hT : Tl e m s) : Rep e m (chanP (s ++ e)) (chanP (s ++ m)) := by
  unfold chanP
  refine Rep.test hT (by decide) (fun hs => ?_) (Rep.bad _ rfl)
  rw [tail_app hs, tail_app hs]
  refine Rep.any (s := s.tail) ?_ fun hT => Rep.testN hT (fun hs => ?_) (Rep.bad _ rfl)
  · (repeat' refine Sfx.ite ?_ ?_) <;> (show Suf _ _; repeat (first | exact Suf.refl _ | refine Suf.trans (Suf.tail _) ?_))
  rw [hd_app hs, hd_app hs, tail_app hs, tail_app hs]
  refine Rep.any (s := s.tail.tail) ?_ fun hT => Rep.test hT (by decide) (fun hs => ?_) (Rep.bad _ rfl)
  · (repeat' refine Sfx.ite ?_ ?_) <;> (show Suf _ _; repeat (first | exact Suf.refl _ | refine Suf.trans (Suf.tail _) ?_))
  rw [tail_app hs, tail_app hs]
  refine Rep.any (s := s.tail.tail.tail) ?_ fun hT => Rep.testN hT (fun hs => ?_) (Rep.bad _ rfl)
  · (repeat' refine Sfx.ite ?_ ?_) <;> (show Suf _ _; repeat (first | exact Suf.refl _ | refine Suf.trans (Suf.tail _) ?_))
  rw [hd_app hs, hd_app hs, tail_app hs, tail_app hs]
  refine Rep.any (s := s.tail.tail.tail.tail) ?_ fun hT => Rep.close hT (fun hs => ?_)
  · (repeat' refine Sfx.ite ?_ ?_) <;> (show Suf _ _; repeat (first | exact Suf.refl _ | refine Suf.trans (Suf.tail _) ?_))
  rw [tail_app hs, tail_app hs]
  exact Rep.ok _
theorem var_rep {e m s : List K} (hT : Tl e m s) : Rep e m (varP (s ++ e)) (varP (s ++ m)) := by
  unfold varP
  refine Rep.testN hT (fun hs => ?_) (Rep.bad _ rfl)
  rw [hd_app hs, hd_app hs, tail_app hs, tail_app hs]
  refine Rep.any (s := s.tail) ?_ fun hT => Rep.test hT (by decide) (fun hs => ?_) (Rep.bad _ rfl)
  · (repeat' refine Sfx.ite ?_ ?_) <;> (show Suf _ _; repeat (first | exact Suf.refl _ | refine Suf.trans (Suf.tail _) ?_))
  rw [tail_app hs, tail_app hs]
  refine Rep.any (s := s.tail.tail) ?_ fun hT => Rep.testN hT (fun hs => ?_) (Rep.bad _ rfl)
  · (repeat' refine Sfx.ite ?_ ?_) <;> (show Suf _ _; repeat (first | exact Suf.refl _ | refine Suf.trans (Suf.tail _) ?_))
  rw [hd_app hs, hd_app hs, tail_app hs, tail_app hs]
  exact Rep.ok _
theorem atom_rep {e m s : List K} (P P' : List K → PR) (hP : ∀ s, Rep e m (P (s ++ e)) (P' (s ++ m))) (hF : ∀ r, Fine r (P r)) (hT : Tl e m s) : Rep e m (atomP P (s ++ e)) (atomP P' (s ++ m)) := by
  unfold atomP
  refine Rep.one hT (fun hs => ?_) ?_
  · rw [hd_app hs, hd_app hs, tail_app hs, tail_app hs]
    exact Rep.ok _
  refine Rep.test hT (by decide) (fun hs => ?_) ?_
  · rw [tail_app hs, tail_app hs]; exact Rep.ok _
  refine Rep.test hT (by decide) (fun hs => ?_) ?_
  · rw [tail_app hs, tail_app hs]; exact Rep.ok _
  refine Rep.test hT (by decide) (fun hs => ?_) ?_
  · rw [tail_app hs, tail_app hs]
    refine Rep.bind (hP _) (hF _) (fun t r _ u q hx => ?_) (fun t r _ _ hT => Rep.close hT (fun hs => ?_))
    · refine Sfx.suf ?_ u q hx
      (repeat' refine Sfx.ite ?_ ?_) <;> (show Suf _ _; repeat (first | exact Suf.refl _ | refine Suf.trans (Suf.tail _) ?_))
    · rw [tail_app hs, tail_app hs]; exact Rep.ok _
  refine Rep.test hT (by decide) (fun hs => ?_) ?_
  · rw [tail_app hs, tail_app hs]
    exact Rep.any (count_fine _).sfx fun hT => count_rep hT
  refine Rep.test hT (by decide) (fun hs => ?_) ?_
  · rw [tail_app hs, tail_app hs]
    exact Rep.any (chan_fine _).sfx fun hT => chan_rep hT
  · exact var_rep hT
theorem stuck_rep {e m : List K} (y : PR) : Rep e m .stuck y := ⟨fun t r _ hx => by (cases hx), fun r _ hx => by (cases hx)⟩
theorem pz_sfx (f lv : Nat) (o : Option Tr) (ks : List K) : Sfx ks (pz f lv o ks) := by
  cases o with
  | none => exact (fine f lv ks).sfx
  | some t =>
    cases h : pz f lv (some t) ks with
    | stuck => trivial
    | ok u r => exact fine_chain f lv t ks (.inl h)
    | bad r => exact fine_chain f lv t ks (u := t) (.inr h)
theorem Rep.pick {e m s : List K} (hT : Tl e m s) {js : List (List UInt8 × Int)} (hj : ∀ j ∈ js, j.1 ≠ [41]) {a a' : Int → PR} {b b' : PR} (h1 : ∀ k, s ≠ [] → Rep e m (a k) (a' k)) (h2 : Rep e m b b') :
    Rep e m (match pick js (hd (s ++ e)) with | some k => a k | none => b) (match pick js (hd (s ++ m)) with | some k => a' k | none => b') := by
  rw [pick_same hT hj]
  cases ht : Go.Proofs.YthjalkonlcjhnaaGreatDoor.pick js (hd (s ++ e)) with
  | some k => exact h1 k (pick_live hT ht)
  | none => exact h2
theorem pz_rep : ∀ (f lv : Nat) (o : Option Tr) (e m s : List K), Rep e m (pz f lv o (s ++ e)) (pz f lv o (s ++ m)) := by
  intro f
  induction f with
  | zero => intro lv o e m s; cases o <;> exact stuck_rep _
  | succ f ih =>
    intro lv o e m s
    refine Rep.any (pz_sfx _ _ _ _) fun hT => ?_
    cases o with
    | some t =>
      unfold pz
      refine Rep.pick hT (joints_ok lv) (fun k hs => ?_) (Rep.ok _)
      rw [tail_app hs, tail_app hs]
      exact Rep.bind (ih _ _ _ _ _) (fine _ _ _) (fun t r _ u q hx => (pz_sfx _ _ _ _).suf u q hx) (fun t r _ _ _ => ih _ _ _ _ _)
    | none =>
      unfold pz
      split
      · refine Rep.pick hT prefs_ok (fun k hs => ?_) (ih _ _ _ _ _)
        rw [tail_app hs, tail_app hs]
        exact Rep.keep (ih _ _ _ _ _)
      split
      · refine Rep.bind (ih _ _ _ _ _) (fine _ _ _) (fun t r _ u q hx => ?_) (fun t r _ _ hT => ?_)
        · refine Sfx.suf ?_ u q hx
          cases Go.Proofs.YthjalkonlcjhnaaGreatDoor.pick cmp1 (hd r) with
          | some k => exact Sfx.bind (Suf.tail _) (fine f 4 _) fun u s' hs' => hs'
          | none =>
            dsimp only
            cases Go.Proofs.YthjalkonlcjhnaaGreatDoor.pick cmp2 (hd r) with
            | some k => exact Sfx.bind (Suf.tail _) (fine f 4 _) fun u s' hs' => hs'
            | none => exact Suf.refl _
        refine Rep.pick hT cmp1_ok (fun k hs => ?_) (Rep.pick hT cmp2_ok (fun k hs => ?_) (Rep.ok _))
        · rw [tail_app hs, tail_app hs]
          exact Rep.keep (ih _ _ _ _ _)
        · rw [tail_app hs, tail_app hs]
          exact Rep.keep (f := fun u => nd k [u, t]) (ih _ _ _ _ _)
      split
      · refine Rep.test hT (by decide) (fun hs => ?_) (ih _ _ _ _ _)
        rw [tail_app hs, tail_app hs]
        exact Rep.keep (f := fun u => nd 5 [u]) (ih _ _ _ _ _)
      split
      · exact atom_rep _ _ (fun s => ih _ _ _ _ _) (fun r => fine _ _ _) hT
      · exact Rep.bind (ih _ _ _ _ _) (fine _ _ _) (fun t r _ u q hx => (pz_sfx _ _ _ _).suf u q hx) (fun t r _ _ _ => ih _ _ _ _ _)
end Go.Proofs.YthjalkonlcjhnaaGreatDoor
