/-
  Plain laws of the parser: parentheses around texts, and operators between them.
  Conditions: none. Plain, no program in sight.
-/
import Derived.Test.YthjalkonlcjhnaaGreatDoorQu
import Derived.Test.YthjalkonlcjhnaaGreatDoorQt
namespace Go.Proofs.YthjalkonlcjhnaaGreatDoor
open Go.RowKit
/-- the end is never passed -/
def Kp (x : PR) : Prop := ∀ t r, (x = .ok t r ∨ x = .bad r) → ∃ r', r = r' ++ [kEnd]
theorem Kp.bad (s : List K) : Kp (.bad (s ++ [kEnd])) := fun t r h => by
  rcases h with h | h
  · cases h
  · injection h with h; exact ⟨s, h.symm⟩
theorem Kp.ok (t : Tr) (s : List K) : Kp (.ok t (s ++ [kEnd])) := fun u r h => by
  rcases h with h | h
  · injection h with _ h; exact ⟨s, h.symm⟩
  · cases h
theorem Kp.bind {x : PR} {g : Tr → List K → PR} (h : Kp x) (hg : ∀ t s, Kp (g t (s ++ [kEnd]))) : Kp (x.bind g) := by
  intro t r hx
  cases x with
  | stuck => rcases hx with hx | hx <;> cases hx
  | bad q =>
    rcases hx with hx | hx
    · cases hx
    · injection hx with hx
      exact h t r (.inr (by rw [hx]))
  | ok u q =>
    obtain ⟨q', rfl⟩ := h u q (.inl rfl)
    exact hg u q' t r hx
theorem Kp.ite {c : Prop} [Decidable c] {a b : PR} (h : c → Kp a) (k : Kp b) : Kp (if c then a else b) := by
  split
  · rename_i hc; exact h hc
  · exact k
theorem Kp.pick {s : List K} {js : List (List UInt8 × Int)} {a : Int → PR} {b : PR} (h1 : ∀ k, s ≠ [] → Kp (a k)) (h2 : Kp b) : Kp (match pick js (hd (s ++ [kEnd])) with | some k => a k | none => b) := by
  cases ht : Go.Proofs.YthjalkonlcjhnaaGreatDoor.pick js (hd (s ++ [kEnd])) with
  | some k =>
    refine h1 k ?_
    rintro rfl
    unfold Go.Proofs.YthjalkonlcjhnaaGreatDoor.pick at ht
    cases hf : js.find? (fun j => isT (hd ([] ++ [kEnd])) j.1) with
    | none => rw [hf] at ht; cases ht
    | some j =>
      have := List.find?_some (p := fun (j : List UInt8 × Int) => isT (hd ([] ++ [kEnd])) j.1) hf
      simp [isT, hd] at this
  | none => exact h2
theorem live_T {s : List K} {S : List UInt8} (h : isT (hd (s ++ [kEnd])) S = true) : s ≠ [] := by
  rintro rfl
  simp [isT, hd] at h
theorem live_N {s : List K} (h : isNm (hd (s ++ [kEnd])) = true) : s ≠ [] := by
  rintro rfl
  simp [isNm, hd] at h
theorem live_1 {s : List K} (h : (hd (s ++ [kEnd])).1 = 1) : s ≠ [] := by
  rintro rfl
  simp [hd] at h
theorem count_kp (s : List K) : Kp (countP (s ++ [kEnd])) := by
  unfold countP
  refine Kp.ite (fun h => ?_) (Kp.bad _)
  rw [tail_app (live_T h)]
  refine Kp.ite (fun h => ?_) (Kp.bad _)
  rw [tail_app (live_N h)]
  refine Kp.ite (fun h => ?_) (Kp.bad _)
  rw [tail_app (live_T h)]
  exact Kp.ok _ _
theorem chan_kp (s : List K) : Kp (chanP (s ++ [kEnd])) := by
  unfold chanP
  refine Kp.ite (fun h => ?_) (Kp.bad _)
  rw [tail_app (live_T h)]
  refine Kp.ite (fun h => ?_) (Kp.bad _)
  rw [tail_app (live_N h)]
  refine Kp.ite (fun h => ?_) (Kp.bad _)
  rw [tail_app (live_T h)]
  refine Kp.ite (fun h => ?_) (Kp.bad _)
  rw [tail_app (live_N h)]
  refine Kp.ite (fun h => ?_) (Kp.bad _)
  rw [tail_app (live_T h)]
  exact Kp.ok _ _
theorem var_kp (s : List K) : Kp (varP (s ++ [kEnd])) := by
  unfold varP
  refine Kp.ite (fun h => ?_) (Kp.bad _)
  rw [tail_app (live_N h)]
  refine Kp.ite (fun h => ?_) (Kp.bad _)
  rw [tail_app (live_T h)]
  refine Kp.ite (fun h => ?_) (Kp.bad _)
  rw [tail_app (live_N h)]
  exact Kp.ok _ _
theorem atom_kp (P : List K → PR) (hP : ∀ s, Kp (P (s ++ [kEnd]))) (s : List K) : Kp (atomP P (s ++ [kEnd])) := by
  unfold atomP
  refine Kp.ite (fun h => ?_) ?_
  · rw [tail_app (live_1 h)]; exact Kp.ok _ _
  refine Kp.ite (fun h => ?_) ?_
  · rw [tail_app (live_T h)]; exact Kp.ok _ _
  refine Kp.ite (fun h => ?_) ?_
  · rw [tail_app (live_T h)]; exact Kp.ok _ _
  refine Kp.ite (fun h => ?_) ?_
  · rw [tail_app (live_T h)]
    refine Kp.bind (hP _) (fun t s => Kp.ite (fun h => ?_) (Kp.bad _))
    rw [tail_app (live_T h)]; exact Kp.ok _ _
  refine Kp.ite (fun h => ?_) ?_
  · rw [tail_app (live_T h)]; exact count_kp _
  refine Kp.ite (fun h => ?_) ?_
  · rw [tail_app (live_T h)]; exact chan_kp _
  · exact var_kp _
theorem pz_kp : ∀ (f lv : Nat) (o : Option Tr) (s : List K), Kp (pz f lv o (s ++ [kEnd])) := by
  intro f
  induction f with
  | zero =>
    intro lv o s t r h
    cases o <;> (rcases h with h | h <;> cases h)
  | succ f ih =>
    intro lv o s
    cases o with
    | some t =>
      unfold pz
      refine Kp.pick (fun k hs => ?_) (Kp.ok _ _)
      rw [tail_app hs]
      exact Kp.bind (ih _ _ _) (fun t s => ih _ _ _)
    | none =>
      unfold pz
      split
      · refine Kp.pick (fun k hs => ?_) (ih _ _ _)
        rw [tail_app hs]
        exact Kp.bind (ih _ _ _) (fun t s => Kp.ok _ _)
      split
      · refine Kp.bind (ih _ _ _) (fun t s => Kp.pick (fun k hs => ?_) (Kp.pick (fun k hs => ?_) (Kp.ok _ _)))
        · rw [tail_app hs]
          exact Kp.bind (ih _ _ _) (fun t s => Kp.ok _ _)
        · rw [tail_app hs]
          exact Kp.bind (ih _ _ _) (fun t s => Kp.ok _ _)
      split
      · refine Kp.ite (fun h => ?_) (ih _ _ _)
        rw [tail_app (live_T h)]
        exact Kp.bind (ih _ _ _) (fun t s => Kp.ok _ _)
      split
      · exact atom_kp _ (fun s => ih _ _ _) s
      · exact Kp.bind (ih _ _ _) (fun t s => ih _ _ _)
/-- level lv makes the tree t of the words ks, and leaves r -/
def Pz (lv : Nat) (ks : List K) (t : Tr) (r : List K) : Prop := ∃ f, pz f lv none ks = .ok t r
theorem Pz.at {lv : Nat} {ks r : List K} {t : Tr} (h : Pz lv ks t r) : ∃ f, ∀ f', f ≤ f' → pz f' lv none ks = .ok t r := by
  obtain ⟨f, hf⟩ := h
  refine ⟨f, fun f' hf' => ?_⟩
  rw [pz_mono (by rw [hf]; exact fun h => by cases h) hf', hf]
theorem Pz.whole {ks r : List K} {t : Tr} (h : Pz 0 ks t r) : parse ks = .ok t r := by
  obtain ⟨f, hf⟩ := h.at
  have h1 := hf (max f (10 * ks.length + 8)) (by omega)
  rw [parse_at (by omega)] at h1
  exact h1
theorem pz_of_parse {ks r : List K} {t : Tr} (h : parse ks = .ok t r) : Pz 0 ks t r := ⟨_, h⟩
def upB (a w : K) (lv : Nat) : Bool := (lv != 6 || !isT a [45]) && (lv != 2 || (pick prefs a).isNone) && (lv != 3 || ((pick cmp1 w).isNone && (pick cmp2 w).isNone)) && (pick (joints lv) w).isNone
theorem Pz.up {lv : Nat} {ks r : List K} {t : Tr} (hlv : lv < 7) (h : Pz (lv + 1) ks t r) (hu : upB (hd ks) (hd r) lv = true) : Pz lv ks t r := by
  obtain ⟨f, hf⟩ := h.at
  unfold upB at hu
  simp only [Bool.and_eq_true, Bool.or_eq_true, Bool.not_eq_true', Option.isNone_iff_eq_none, bne_iff_ne] at hu
  obtain ⟨⟨⟨h6, h2⟩, h3⟩, hj⟩ := hu
  refine ⟨f + 2, ?_⟩
  have hf1 := hf (f + 1) (by omega)
  unfold pz
  split
  · rename_i e
    subst e
    rw [h2.resolve_left (by simp)]
    exact hf1
  split
  · rename_i e
    subst e
    obtain ⟨h31, h32⟩ := h3.resolve_left (by simp)
    rw [hf1]
    show (match pick cmp1 (hd r) with | some k => _ | none => _) = _
    rw [h31]
    dsimp only
    rw [h32]
  split
  · rename_i e
    subst e
    rw [h6.resolve_left (by simp)]
    exact hf1
  split
  · omega
  · rw [hf1]
    show pz (f + 1) lv (some t) r = _
    unfold pz
    rw [hj]
theorem Pz.upto {ks r : List K} {t : Tr} (h : Pz 7 ks t r) : ∀ d, d ≤ 7 → (∀ lv, 7 - d ≤ lv → lv < 7 → upB (hd ks) (hd r) lv = true) → Pz (7 - d) ks t r
  | 0, _, _ => h
  | d + 1, hd7, hu => by
    have ih := Pz.upto h d (by omega) (fun lv h1 h2 => hu lv (by omega) h2)
    have e : 7 - d = (7 - (d + 1)) + 1 := by omega
    rw [e] at ih
    exact ih.up (by omega) (hu _ (Nat.le_refl _) (by omega))
/-- a text in parentheses -/
theorem Pz.paren {ks m : List K} {t : Tr} (h : parse (ks ++ [kEnd]) = .ok t [kEnd]) : Pz 7 ((3, [40]) :: (ks ++ kClose :: m)) t m := by
  have h1 := (pz_rep (10 * (ks ++ [kEnd]).length + 8) 0 none [kEnd] (kClose :: m) ks).1 t [] (.inr ⟨rfl, m, rfl⟩) h
  refine ⟨10 * (ks ++ [kEnd]).length + 8 + 1, ?_⟩
  rw [List.nil_append] at h1
  unfold pz
  rw [if_neg (by omega), if_neg (by omega), if_neg (by omega), if_pos rfl]
  unfold atomP
  show (if (3 : Nat) = 1 then _ else if isT (3, [40]) [116, 114, 117, 101] = true then _ else if isT (3, [40]) [102, 97, 108, 115, 101] = true then _ else if isT (3, [40]) [40] = true then (pz _ 0 none (ks ++ kClose :: m)).bind _ else _) = _
  rw [if_neg (by decide), if_neg (by decide), if_neg (by decide), if_pos (by decide), h1]
  rfl
/-- two parts with an operator of a chain between them -/
theorem Pz.chain {lv : Nat} {ks m r : List K} {w : K} {x y : Tr} {k : Int} (hlv : lv = 0 ∨ lv = 1 ∨ lv = 4 ∨ lv = 5) (h1 : Pz (lv + 1) ks x (w :: m)) (h2 : Pz (lv + 1) m y r) (hk : pick (joints lv) w = some k) (hr : pick (joints lv) (hd r) = none) : Pz lv ks (nd k [x, y]) r := by
  obtain ⟨f1, hf1⟩ := h1.at
  obtain ⟨f2, hf2⟩ := h2.at
  refine ⟨f1 + f2 + 3, ?_⟩
  have e1 := hf1 (f1 + f2 + 2) (by omega)
  have e2 := hf2 (f1 + f2 + 1) (by omega)
  unfold pz
  rw [if_neg (by omega), if_neg (by omega), if_neg (by omega), if_neg (by omega), e1]
  show pz (f1 + f2 + 2) lv (some x) (w :: m) = _
  unfold pz
  show (match pick (joints lv) w with | some k => _ | none => _) = _
  rw [hk]
  show (pz (f1 + f2 + 1) (lv + 1) none m).bind _ = _
  rw [e2]
  show pz (f1 + f2 + 1) lv (some (nd k [x, y])) r = _
  unfold pz
  rw [hr]
theorem Pz.cmp {ks m r : List K} {w : K} {x y : Tr} {k : Int} (h1 : Pz 4 ks x (w :: m)) (h2 : Pz 4 m y r) (hk : pick cmp1 w = some k) : Pz 3 ks (nd k [x, y]) r := by
  obtain ⟨f1, hf1⟩ := h1.at
  obtain ⟨f2, hf2⟩ := h2.at
  refine ⟨f1 + f2 + 1, ?_⟩
  unfold pz
  rw [if_neg (by omega), if_pos rfl, hf1 _ (by omega)]
  show (match pick cmp1 w with | some k => _ | none => _) = _
  rw [hk]
  show (pz (f1 + f2) 4 none m).bind _ = _
  rw [hf2 _ (by omega)]
  rfl
theorem Pz.cmp' {ks m r : List K} {w : K} {x y : Tr} {k : Int} (h1 : Pz 4 ks x (w :: m)) (h2 : Pz 4 m y r) (hk0 : pick cmp1 w = none) (hk : pick cmp2 w = some k) : Pz 3 ks (nd k [y, x]) r := by
  obtain ⟨f1, hf1⟩ := h1.at
  obtain ⟨f2, hf2⟩ := h2.at
  refine ⟨f1 + f2 + 1, ?_⟩
  unfold pz
  rw [if_neg (by omega), if_pos rfl, hf1 _ (by omega)]
  show (match pick cmp1 w with | some k => _ | none => _) = _
  rw [hk0]
  show (match pick cmp2 w with | some k => _ | none => _) = _
  rw [hk]
  show (pz (f1 + f2) 4 none m).bind _ = _
  rw [hf2 _ (by omega)]
  rfl
/-- the operators of the law, their words, kinds and levels -/
def opS (i : Nat) : List UInt8 := [[43], [45], [42], [61], [33, 61], [60], [60, 61], [97, 110, 100], [111, 114], [62], [62, 61]].getD i []
def opK (i : Nat) : Int := [6, 7, 8, 9, 10, 11, 12, 16, 17, 11, 12].getD i 0
def opL (i : Nat) : Nat := [4, 4, 5, 3, 3, 3, 3, 1, 0, 3, 3].getD i 0
def opW (i : Nat) : K := (if i = 7 ∨ i = 8 then 2 else 3, opS i)
def wantT (i : Nat) (x y : Tr) : Tr := if 8 < i then nd (opK i) [y, x] else nd (opK i) [x, y]
theorem op_cases {i : Nat} (h : i < 11) : i = 0 ∨ i = 1 ∨ i = 2 ∨ i = 3 ∨ i = 4 ∨ i = 5 ∨ i = 6 ∨ i = 7 ∨ i = 8 ∨ i = 9 ∨ i = 10 := by omega
theorem op_up {i : Nat} (h : i < 11) : ∀ lv, lv < 7 → opL i < lv → upB (3, [40]) (opW i) lv = true := by
  rcases op_cases h with rfl | rfl | rfl | rfl | rfl | rfl | rfl | rfl | rfl | rfl | rfl <;> decide
theorem end_up : ∀ lv, lv < 7 → upB (3, [40]) kEnd lv = true := by decide
theorem close_up : ∀ lv, lv < 7 → upB (3, [40]) kClose lv = true := by decide
theorem op_first {i : Nat} (h : i < 11) : firstL (opS i) = ((opW i).1, (opS i).length, 0) ∧ (opW i).1 ≠ 4 := by
  rcases op_cases h with rfl | rfl | rfl | rfl | rfl | rfl | rfl | rfl | rfl | rfl | rfl <;> exact ⟨by kernel_rfl, by decide⟩
theorem op_lx {i : Nat} (h : i < 11) : Lx (opS i) [opW i] := by
  obtain ⟨h1, h2⟩ := op_first h
  have := Lx.next [] (opS i) (opW i).1 (opS i).length [] rfl h1 h2 (by rw [List.drop_length]; exact .fin [] rfl)
  rw [List.nil_append, List.take_length] at this
  exact this
theorem both_parse {ks vs : List K} {x y : Tr} {i : Nat} (hi : i < 11) (h1 : parse (ks ++ [kEnd]) = .ok x [kEnd]) (h2 : parse (vs ++ [kEnd]) = .ok y [kEnd]) :
    parse ((3, [40]) :: (ks ++ kClose :: opW i :: (3, [40]) :: (vs ++ [kClose, kEnd]))) = .ok (wantT i x y) [kEnd] := by
  have p1 : Pz 7 ((3, [40]) :: (ks ++ kClose :: opW i :: (3, [40]) :: (vs ++ [kClose, kEnd]))) x (opW i :: (3, [40]) :: (vs ++ [kClose, kEnd])) := Pz.paren h1
  have p2 : Pz 7 ((3, [40]) :: (vs ++ kClose :: [kEnd])) y [kEnd] := Pz.paren h2
  have u1 : ∀ d, d ≤ 7 → opL i < 7 - d → Pz (7 - d) ((3, [40]) :: (ks ++ kClose :: opW i :: (3, [40]) :: (vs ++ [kClose, kEnd]))) x (opW i :: (3, [40]) :: (vs ++ [kClose, kEnd])) := fun d hd hl => p1.upto d hd (fun lv h3 h4 => op_up hi lv h4 (by omega))
  have u2 : ∀ d, d ≤ 7 → Pz (7 - d) ((3, [40]) :: (vs ++ kClose :: [kEnd])) y [kEnd] := fun d hd => p2.upto d hd (fun lv h3 h4 => end_up lv h4)
  have fin : ∀ L, L ≤ 5 → Pz L ((3, [40]) :: (ks ++ kClose :: opW i :: (3, [40]) :: (vs ++ [kClose, kEnd]))) (wantT i x y) [kEnd] → parse ((3, [40]) :: (ks ++ kClose :: opW i :: (3, [40]) :: (vs ++ [kClose, kEnd]))) = .ok (wantT i x y) [kEnd] := by
    intro L
    induction L with
    | zero => intro _ h; exact h.whole
    | succ L ih => intro hL h; exact ih (by omega) (h.up (by omega) (end_up L (by omega)))
  rcases op_cases hi with rfl | rfl | rfl | rfl | rfl | rfl | rfl | rfl | rfl | rfl | rfl
  · exact fin 4 (by omega) (Pz.chain (by omega) (u1 2 (by omega) (by decide)) (u2 2 (by omega)) (by decide) (by decide))
  · exact fin 4 (by omega) (Pz.chain (by omega) (u1 2 (by omega) (by decide)) (u2 2 (by omega)) (by decide) (by decide))
  · exact fin 5 (by omega) (Pz.chain (by omega) (u1 1 (by omega) (by decide)) (u2 1 (by omega)) (by decide) (by decide))
  · exact fin 3 (by omega) (Pz.cmp (u1 3 (by omega) (by decide)) (u2 3 (by omega)) (by decide))
  · exact fin 3 (by omega) (Pz.cmp (u1 3 (by omega) (by decide)) (u2 3 (by omega)) (by decide))
  · exact fin 3 (by omega) (Pz.cmp (u1 3 (by omega) (by decide)) (u2 3 (by omega)) (by decide))
  · exact fin 3 (by omega) (Pz.cmp (u1 3 (by omega) (by decide)) (u2 3 (by omega)) (by decide))
  · exact fin 1 (by omega) (Pz.chain (by omega) (u1 5 (by omega) (by decide)) (u2 5 (by omega)) (by decide) (by decide))
  · exact fin 0 (by omega) (Pz.chain (by omega) (u1 6 (by omega) (by decide)) (u2 6 (by omega)) (by decide) (by decide))
  · exact fin 3 (by omega) (Pz.cmp' (u1 3 (by omega) (by decide)) (u2 3 (by omega)) (by decide) (by decide))
  · exact fin 3 (by omega) (Pz.cmp' (u1 3 (by omega) (by decide)) (u2 3 (by omega)) (by decide) (by decide))
/-- what a text's tree comes of -/
theorem parseO_tree {s : List UInt8} {x : Tr} (h : parseO s = .tree x) : ∃ ks, Lx s ks ∧ parse (ks ++ [kEnd]) = .ok x [kEnd] ∧ smallB x = true := by
  unfold parseO at h
  split at h
  · cases h
  · cases hx : lexL 1000 s (1, 1) with
    | bad p n => rw [hx] at h; cases h
    | ok l =>
      rw [hx] at h
      dsimp only at h
      obtain ⟨ks, h1, h2⟩ := lx_of_lex _ _ _ _ hx
      rw [h1] at h
      refine ⟨ks, h2, ?_⟩
      unfold treeO at h
      cases hp : parse (ks ++ [kEnd]) with
      | stuck => rw [hp] at h; cases h
      | bad r => rw [hp] at h; cases h
      | ok t r =>
        rw [hp] at h
        dsimp only at h
        split at h
        · rename_i h4
          split at h
          · rename_i hs
            injection h with h
            subst h
            obtain ⟨r', rfl⟩ := pz_kp _ _ _ ks t r (.inl hp)
            have hsuf := fine (10 * (ks ++ [kEnd]).length + 8) 0 (ks ++ [kEnd])
            have hp' : pz (10 * (ks ++ [kEnd]).length + 8) 0 none (ks ++ [kEnd]) = .ok t (r' ++ [kEnd]) := hp
            rw [hp'] at hsuf
            obtain ⟨r2, h5, h6⟩ := Suf.cut hsuf.1 (by simp)
            have h7 : r' = r2 := List.append_cancel_right h5
            subst h7
            cases r' with
            | nil => exact ⟨rfl, hs⟩
            | cons a l' =>
              exfalso
              obtain ⟨n, hn⟩ := h6
              have hm : a ∈ ks := List.mem_of_mem_drop (i := n) (by rw [← hn]; exact List.mem_cons_self ..)
              exact lx_kind h2 a hm h4
          · cases h
        · cases h
theorem parseO_words {s : List UInt8} {ks : List K} {x : Tr} (hl : s.length ≤ 16384) (h : Lx s ks) (hk : ks.length ≤ 1000) (hp : parse (ks ++ [kEnd]) = .ok x [kEnd]) : parseO s = if smallB x then .tree x else .err (0, 0) 5 := by
  unfold parseO
  rw [if_neg (by omega)]
  obtain ⟨r, h1, h2⟩ := lex_of_lx h 1000 (1, 1) hk
  rw [h1]
  dsimp only
  rw [h2]
  unfold treeO
  rw [hp]
  dsimp only
  rw [if_pos (show (hd [kEnd]).1 = 4 from rfl)]
theorem stop_close (r : List UInt8) : Stop (41 :: r) := .inr ⟨41, r, rfl, .inr (.inr (.inl rfl))⟩
theorem stop_open (r : List UInt8) : Stop (40 :: r) := .inr ⟨40, r, rfl, .inr (.inl rfl)⟩
theorem parens_law {s : List UInt8} {x : Tr} (hs : s.length ≤ 400) (h : parseO s = .tree x) : parseO ([10, 40, 32, 40] ++ s ++ [41, 32, 41, 9]) = .tree x := by
  obtain ⟨ks, h1, h2, h3⟩ := parseO_tree h
  have e : [10, 40, 32, 40] ++ s ++ [41, 32, 41, 9] = [10] ++ (40 :: ([32] ++ (40 :: (s ++ (41 :: ([32] ++ (41 :: ([9] : List UInt8)))))))) := by simp
  have hlx : Lx ([10, 40, 32, 40] ++ s ++ [41, 32, 41, 9]) ((3, [40]) :: (3, [40]) :: (ks ++ [kClose, kClose])) := by
    rw [e]
    refine lx_blank rfl (lx_paren (.inl rfl) (lx_blank rfl (lx_paren (.inl rfl) (lx_app h1 (stop_close _) ?_))))
    exact lx_paren (.inr rfl) (lx_blank rfl (lx_paren (.inr rfl) (.fin [9] rfl)))
  have hn := lx_len h1
  have hp : parse (((3, [40]) :: (3, [40]) :: (ks ++ [kClose, kClose])) ++ [kEnd]) = .ok x [kEnd] := by
    have p1 : Pz 7 ((3, [40]) :: (ks ++ kClose :: [kClose, kEnd])) x [kClose, kEnd] := Pz.paren h2
    have q1 : Pz (7 - 7) ((3, [40]) :: (ks ++ kClose :: [kClose, kEnd])) x [kClose, kEnd] := p1.upto 7 (by omega) (fun lv _ h => close_up lv h)
    obtain ⟨f, hf⟩ := q1
    have p2 : Pz 7 ((3, [40]) :: (3, [40]) :: (ks ++ kClose :: [kClose, kEnd])) x [kEnd] := by
      refine ⟨f + 1, ?_⟩
      unfold pz
      rw [if_neg (by omega), if_neg (by omega), if_neg (by omega), if_pos rfl]
      unfold atomP
      show (if (3 : Nat) = 1 then _ else if isT (3, [40]) [116, 114, 117, 101] = true then _ else if isT (3, [40]) [102, 97, 108, 115, 101] = true then _ else if isT (3, [40]) [40] = true then (pz f 0 none ((3, [40]) :: (ks ++ kClose :: [kClose, kEnd]))).bind _ else _) = _
      rw [if_neg (by decide), if_neg (by decide), if_neg (by decide), if_pos (by decide), hf]
      rfl
    have q2 : Pz (7 - 7) ((3, [40]) :: (3, [40]) :: (ks ++ kClose :: [kClose, kEnd])) x [kEnd] := p2.upto 7 (by omega) (fun lv _ h => end_up lv h)
    have := q2.whole
    simpa using this
  rw [parseO_words (by simp; omega) hlx (by simp; omega) hp, h3]
  rfl
theorem both_law {s t : List UInt8} {x y : Tr} {i : Nat} (hi : i < 11) (hs : s.length ≤ 400) (ht : t.length ≤ 400) (h : parseO s = .tree x) (h' : parseO t = .tree y) :
    parseO ([40] ++ s ++ [41] ++ opS i ++ [40] ++ t ++ [41]) = if smallB (wantT i x y) then .tree (wantT i x y) else .err (0, 0) 5 := by
  obtain ⟨ks, h1, h2, h3⟩ := parseO_tree h
  obtain ⟨vs, g1, g2, g3⟩ := parseO_tree h'
  have e : [40] ++ s ++ [41] ++ opS i ++ [40] ++ t ++ [41] = 40 :: (s ++ (41 :: (opS i ++ (40 :: (t ++ ([41] : List UInt8)))))) := by simp
  have hlx : Lx ([40] ++ s ++ [41] ++ opS i ++ [40] ++ t ++ [41]) ((3, [40]) :: (ks ++ kClose :: ([opW i] ++ (3, [40]) :: (vs ++ [kClose])))) := by
    rw [e]
    refine lx_paren (.inl rfl) (lx_app h1 (stop_close _) (lx_paren (.inr rfl) (lx_app (op_lx hi) (stop_open _) (lx_paren (.inl rfl) (lx_app g1 (stop_close _) ?_)))))
    exact lx_paren (.inr rfl) (.fin [] rfl)
  have hn := lx_len h1
  have hn' := lx_len g1
  have ho : (opS i).length ≤ 3 := by
    rcases op_cases hi with rfl | rfl | rfl | rfl | rfl | rfl | rfl | rfl | rfl | rfl | rfl <;> decide
  refine parseO_words (by simp; omega) hlx (by simp; omega) ?_
  have := both_parse hi h2 g2
  simpa using this
theorem parseO_err {s : List UInt8} {p : Nat × Nat} {n : Nat} (h : parseO s = .err p n) : n ≠ 0 := by
  unfold parseO at h
  split at h
  · injection h with _ h; omega
  · cases hx : lexL 1000 s (1, 1) with
    | bad p n =>
      rw [hx] at h
      injection h with _ h
      rw [← h]
      exact lex_bad_ne _ _ _ _ _ hx
    | ok l =>
      rw [hx] at h
      dsimp only at h
      unfold treeO at h
      cases hp : parse (l.map key) with
      | stuck => exact absurd hp (parse_not _)
      | bad r =>
        rw [hp] at h
        injection h with _ h
        rw [← h]; exact errAt_ne _
      | ok t r =>
        rw [hp] at h
        dsimp only at h
        split at h
        · split at h
          · cases h
          · injection h with _ h; omega
        · injection h with _ h
          rw [← h]; exact errAt_ne _
end Go.Proofs.YthjalkonlcjhnaaGreatDoor
