/-
  The parser as a plain function: trees, levels, results.
  Conditions: none. Plain, no program in sight.
-/
import Derived.Test.YthjalkonlcjhnaaGreatDoorPm
namespace Go.Proofs.YthjalkonlcjhnaaGreatDoor
open Go.RowKit
inductive Tr where
  | node (k n p q : Int) (s : ByteArray) (l : List Tr) : Tr
instance : Inhabited Tr := ⟨.node 0 0 0 0 ⟨#[]⟩ []⟩
abbrev K := Nat × List UInt8
inductive PR where
  | stuck
  | ok (t : Tr) (r : List K)
  | bad (r : List K)
def PR.bind (x : PR) (g : Tr → List K → PR) : PR := match x with
  | .ok t r => g t r
  | .bad r => .bad r
  | .stuck => .stuck
def hd (ks : List K) : K := ks.headD (4, [])
/-- what 'take' asks -/
def isT (w : K) (s : List UInt8) : Bool := decide (w.1 ≠ 4) && decide (w.2 = s)
def isNm (w : K) : Bool := decide (w.1 = 2) && !keyB ⟨w.2.toArray⟩
def joints (lv : Nat) : List (List UInt8 × Int) :=
  if lv = 0 then [([111, 114], 17)] else if lv = 1 then [([97, 110, 100], 16)] else if lv = 4 then [([43], 6), ([45], 7)] else if lv = 5 then [([42], 8)] else []
def prefs : List (List UInt8 × Int) := [([110, 111, 116], 15), ([69, 70], 18), ([65, 70], 19), ([69, 71], 20), ([65, 71], 21)]
def cmp1 : List (List UInt8 × Int) := [([61], 9), ([33, 61], 10), ([60], 11), ([60, 61], 12)]
def cmp2 : List (List UInt8 × Int) := [([62], 11), ([62, 61], 12)]
def pick (js : List (List UInt8 × Int)) (w : K) : Option Int := (js.find? (fun j => isT w j.1)).map (·.2)
def nd (k : Int) (l : List Tr) : Tr := .node k 0 0 0 ⟨#[]⟩ l
def numT (v : Nat) : Tr := .node 1 v 0 0 ⟨#[]⟩ []
def nameT (k : Int) (s : List UInt8) : Tr := .node k 0 0 0 ⟨s.toArray⟩ []
/-- count(NAME) behind its first word -/
def countP (ks : List K) : PR :=
  if isT (hd ks) [40] then
    if isNm (hd ks.tail) then
      if isT (hd ks.tail.tail) [41] then .ok (nameT 3 (hd ks.tail).2) ks.tail.tail.tail
      else .bad ks.tail.tail
    else .bad ks.tail
  else .bad ks
/-- channel(NAME,NAME) behind its first word -/
def chanP (ks : List K) : PR :=
  if isT (hd ks) [40] then
    if isNm (hd ks.tail) then
      if isT (hd ks.tail.tail) [44] then
        if isNm (hd ks.tail.tail.tail) then
          if isT (hd ks.tail.tail.tail.tail) [41] then .ok (nameT 4 ((hd ks.tail).2 ++ 44 :: (hd ks.tail.tail.tail).2)) ks.tail.tail.tail.tail.tail
          else .bad ks.tail.tail.tail.tail
        else .bad ks.tail.tail.tail
      else .bad ks.tail.tail
    else .bad ks.tail
  else .bad ks
/-- NAME.NAME -/
def varP (ks : List K) : PR :=
  if isNm (hd ks) then
    if isT (hd ks.tail) [46] then
      if isNm (hd ks.tail.tail) then .ok (nameT 2 ((hd ks).2 ++ 46 :: (hd ks.tail.tail).2)) ks.tail.tail.tail
      else .bad ks.tail.tail
    else .bad ks.tail
  else .bad ks
def atomP (P : List K → PR) (ks : List K) : PR :=
  if (hd ks).1 = 1 then .ok (numT (valF 0 (hd ks).2)) ks.tail
  else if isT (hd ks) [116, 114, 117, 101] then .ok (nd 13 []) ks.tail
  else if isT (hd ks) [102, 97, 108, 115, 101] then .ok (nd 14 []) ks.tail
  else if isT (hd ks) [40] then (P ks.tail).bind fun t r => if isT (hd r) [41] then .ok t r.tail else .bad r
  else if isT (hd ks) [99, 111, 117, 110, 116] then countP ks.tail
  else if isT (hd ks) [99, 104, 97, 110, 110, 101, 108] then chanP ks.tail
  else varP ks
/-- level lv from the words ks on; with a tree: the rest of a chain behind it -/
def pz : Nat → Nat → Option Tr → List K → PR
  | 0, _, _, _ => .stuck
  | f + 1, lv, some t, ks => match pick (joints lv) (hd ks) with
    | some k => (pz f (lv + 1) none ks.tail).bind fun u r => pz f lv (some (nd k [t, u])) r
    | none => .ok t ks
  | f + 1, lv, none, ks =>
    if lv = 2 then match pick prefs (hd ks) with
      | some k => (pz f 2 none ks.tail).bind fun t r => .ok (nd k [t]) r
      | none => pz f 3 none ks
    else if lv = 3 then (pz f 4 none ks).bind fun t r => match pick cmp1 (hd r) with
      | some k => (pz f 4 none r.tail).bind fun u r' => .ok (nd k [t, u]) r'
      | none => match pick cmp2 (hd r) with
        | some k => (pz f 4 none r.tail).bind fun u r' => .ok (nd k [u, t]) r'
        | none => .ok t r
    else if lv = 6 then
      if isT (hd ks) [45] then (pz f 6 none ks.tail).bind fun t r => .ok (nd 5 [t]) r else pz f 7 none ks
    else if lv = 7 then atomP (fun r => pz f 0 none r) ks
    else (pz f (lv + 1) none ks).bind fun t r => pz f lv (some t) r
theorem bind_ok {x : PR} {g : Tr → List K → PR} {t : Tr} {r : List K} (h : x.bind g = .ok t r) : ∃ u s, x = .ok u s ∧ g u s = .ok t r := by
  cases x with
  | stuck => cases h
  | bad s => cases h
  | ok u s => exact ⟨u, s, rfl, h⟩
theorem bind_bad {x : PR} {g : Tr → List K → PR} {r : List K} (h : x.bind g = .bad r) : x = .bad r ∨ ∃ u s, x = .ok u s ∧ g u s = .bad r := by
  cases x with
  | stuck => cases h
  | bad s => exact .inl h
  | ok u s => exact .inr ⟨u, s, rfl, h⟩
/-- r is what is left of ks -/
def Suf (r ks : List K) : Prop := ∃ n, r = ks.drop n
theorem Suf.refl (ks : List K) : Suf ks ks := ⟨0, rfl⟩
theorem Suf.tail (ks : List K) : Suf ks.tail ks := ⟨1, by rw [List.drop_one]⟩
theorem Suf.trans {a b c : List K} (h : Suf a b) (k : Suf b c) : Suf a c := by
  obtain ⟨n, rfl⟩ := h
  obtain ⟨m, rfl⟩ := k
  exact ⟨m + n, by rw [List.drop_drop]⟩
theorem Suf.le {r ks : List K} (h : Suf r ks) : r.length ≤ ks.length := by
  obtain ⟨n, rfl⟩ := h
  rw [List.length_drop]; omega
theorem Suf.eq {r ks : List K} (h : Suf r ks) : r = ks.drop (ks.length - r.length) := by
  obtain ⟨n, rfl⟩ := h
  rw [List.length_drop]
  by_cases hn : n ≤ ks.length
  · rw [show ks.length - (ks.length - n) = n by omega]
  · rw [List.drop_eq_nil_of_le (by omega), List.drop_eq_nil_of_le (by omega)]
theorem isT_pos {ks : List K} {s : List UInt8} (h : isT (hd ks) s = true) : 0 < ks.length := by
  cases ks with
  | nil => simp [isT, hd] at h
  | cons a l => simp
theorem isNm_pos {ks : List K} (h : isNm (hd ks) = true) : 0 < ks.length := by
  cases ks with
  | nil => simp [isNm, hd] at h
  | cons a l => simp
theorem pick_pos {js : List (List UInt8 × Int)} {ks : List K} {k : Int} (h : pick js (hd ks) = some k) : 0 < ks.length := by
  unfold pick at h
  cases hf : js.find? (fun j => isT (hd ks) j.1) with
  | none => rw [hf] at h; cases h
  | some j =>
    have := List.find?_some (p := fun (j : List UInt8 × Int) => isT (hd ks) j.1) hf
    exact isT_pos this
/-- what a result leaves is the end of the words; a tree takes a word at least -/
def Fine (ks : List K) : PR → Prop
  | .stuck => True
  | .ok _ r => Suf r ks ∧ r.length < ks.length
  | .bad r => Suf r ks
theorem Fine.lift {ks r : List K} (hs : Suf r ks) {x : PR} (h : Fine r x) : Fine ks x := by
  cases x with
  | stuck => trivial
  | ok t s => exact ⟨h.1.trans hs, Nat.lt_of_lt_of_le h.2 hs.le⟩
  | bad s => exact h.trans hs
theorem Fine.bind {ks r : List K} {x : PR} {g : Tr → List K → PR} (hs : Suf r ks) (h : Fine r x) (hg : ∀ t s, x = .ok t s → Suf s ks → s.length < ks.length → Fine ks (g t s)) : Fine ks (x.bind g) := by
  cases x with
  | stuck => trivial
  | bad s => exact h.trans hs
  | ok t s => exact hg t s rfl (h.1.trans hs) (Nat.lt_of_lt_of_le h.2 hs.le)
theorem tail_lt {ks : List K} (h : 0 < ks.length) : ks.tail.length < ks.length := by rw [List.length_tail]; omega
theorem count_fine (ks : List K) : Fine ks (countP ks) := by
  unfold countP
  split
  · rename_i h
    have h1 := tail_lt (isT_pos h)
    split
    · split
      · refine ⟨(((Suf.tail _).trans (Suf.tail _)).trans (Suf.tail _)), ?_⟩
        rw [List.length_tail, List.length_tail]; omega
      · exact (Suf.tail _).trans (Suf.tail _)
    · exact Suf.tail _
  · exact Suf.refl _
theorem chan_fine (ks : List K) : Fine ks (chanP ks) := by
  unfold chanP
  split
  · rename_i h
    have h1 := tail_lt (isT_pos h)
    split
    · split
      · split
        · split
          · refine ⟨(((((Suf.tail _).trans (Suf.tail _)).trans (Suf.tail _)).trans (Suf.tail _)).trans (Suf.tail _)), ?_⟩
            rw [List.length_tail, List.length_tail, List.length_tail, List.length_tail]; omega
          · exact (((Suf.tail _).trans (Suf.tail _)).trans (Suf.tail _)).trans (Suf.tail _)
        · exact ((Suf.tail _).trans (Suf.tail _)).trans (Suf.tail _)
      · exact (Suf.tail _).trans (Suf.tail _)
    · exact Suf.tail _
  · exact Suf.refl _
theorem var_fine (ks : List K) : Fine ks (varP ks) := by
  unfold varP
  split
  · rename_i h
    have h1 := tail_lt (isNm_pos h)
    split
    · split
      · refine ⟨(((Suf.tail _).trans (Suf.tail _)).trans (Suf.tail _)), ?_⟩
        rw [List.length_tail, List.length_tail]; omega
      · exact (Suf.tail _).trans (Suf.tail _)
    · exact Suf.tail _
  · exact Suf.refl _
theorem one_pos {ks : List K} (h : (hd ks).1 = 1) : 0 < ks.length := by
  cases ks with
  | nil => simp [hd] at h
  | cons a l => simp
theorem atom_fine (P : List K → PR) (hP : ∀ r, Fine r (P r)) (ks : List K) : Fine ks (atomP P ks) := by
  unfold atomP
  split
  · rename_i h
    exact ⟨Suf.tail _, tail_lt (one_pos h)⟩
  split
  · rename_i h
    exact ⟨Suf.tail _, tail_lt (isT_pos h)⟩
  split
  · rename_i h
    exact ⟨Suf.tail _, tail_lt (isT_pos h)⟩
  split
  · refine Fine.bind (Suf.tail _) (hP _) fun t s _ hs hl => ?_
    split
    · exact ⟨(Suf.tail _).trans hs, by rw [List.length_tail]; omega⟩
    · exact hs
  split
  · exact (count_fine _).lift (Suf.tail _)
  split
  · exact (chan_fine _).lift (Suf.tail _)
  · exact var_fine _
theorem pz_fine : ∀ (f lv : Nat) (o : Option Tr) (ks : List K), match o with
    | none => Fine ks (pz f lv none ks)
    | some t => ∀ u r, (pz f lv (some t) ks = .ok u r ∨ pz f lv (some t) ks = .bad r) → Suf r ks := by
  intro f
  induction f with
  | zero =>
    intro lv o ks
    cases o with
    | none => trivial
    | some t => intro u r h; rcases h with h | h <;> cases h
  | succ f ih =>
    intro lv o ks
    cases o with
    | some t =>
      intro u r h
      unfold pz at h
      cases hp : pick (joints lv) (hd ks) with
      | none =>
        rw [hp] at h
        rcases h with h | h
        · injection h with _ h; rw [← h]; exact Suf.refl _
        · cases h
      | some k =>
        rw [hp] at h
        have h1 : Fine ks.tail (pz f (lv + 1) none ks.tail) := ih (lv + 1) none ks.tail
        rcases h with h | h
        · obtain ⟨u', s, h2, h3⟩ := bind_ok h
          rw [h2] at h1
          exact (ih lv (some _) s u r (.inl h3)).trans (h1.1.trans (Suf.tail _))
        · rcases bind_bad h with h2 | ⟨u', s, h2, h3⟩
          · rw [h2] at h1
            exact Suf.trans h1 (Suf.tail _)
          · rw [h2] at h1
            exact (ih lv (some _) s u r (.inr h3)).trans (h1.1.trans (Suf.tail _))
    | none =>
      have ihn : ∀ lv r, Fine r (pz f lv none r) := fun lv r => ih lv none r
      show Fine ks (pz (f + 1) lv none ks)
      unfold pz
      split
      · cases hp : pick prefs (hd ks) with
        | none => exact ihn 3 ks
        | some k => exact Fine.bind (Suf.tail _) (ihn 2 _) fun t s _ hs hl => ⟨hs, hl⟩
      split
      · refine Fine.bind (Suf.refl _) (ihn 4 _) fun t s _ hs hl => ?_
        cases hp : pick cmp1 (hd s) with
        | some k => exact Fine.bind ((Suf.tail _).trans hs) (ihn 4 _) fun u s' _ hs' hl' => ⟨hs', hl'⟩
        | none =>
          cases hp2 : pick cmp2 (hd s) with
          | some k => exact Fine.bind ((Suf.tail _).trans hs) (ihn 4 _) fun u s' _ hs' hl' => ⟨hs', hl'⟩
          | none => exact ⟨hs, hl⟩
      split
      · split
        · exact Fine.bind (Suf.tail _) (ihn 6 _) fun t s _ hs hl => ⟨hs, hl⟩
        · exact ihn 7 ks
      split
      · exact atom_fine _ (fun r => ihn 0 r) ks
      · refine Fine.bind (Suf.refl _) (ihn (lv + 1) _) fun t s _ hs hl => ?_
        have h2 : ∀ u r, (pz f lv (some t) s = .ok u r ∨ pz f lv (some t) s = .bad r) → Suf r s := ih lv (some t) s
        cases hx : pz f lv (some t) s with
        | stuck => trivial
        | ok u r =>
          have h3 := h2 u r (.inl hx)
          exact ⟨h3.trans hs, Nat.lt_of_le_of_lt h3.le hl⟩
        | bad r => exact (h2 t r (.inr hx)).trans hs
theorem fine (f lv : Nat) (ks : List K) : Fine ks (pz f lv none ks) := pz_fine f lv none ks
theorem fine_chain (f lv : Nat) (t : Tr) (ks : List K) {u : Tr} {r : List K} (h : pz f lv (some t) ks = .ok u r ∨ pz f lv (some t) ks = .bad r) : Suf r ks := pz_fine f lv (some t) ks u r h
def need (o : Option Tr) (lv : Nat) (ks : List K) : Nat := match o with
  | none => 10 * ks.length + (8 - lv)
  | some _ => 10 * ks.length + 9
theorem bind_stuck {x : PR} {g : Tr → List K → PR} (h : x.bind g = .stuck) : x = .stuck ∨ ∃ u s, x = .ok u s ∧ g u s = .stuck := by
  cases x with
  | stuck => exact .inl rfl
  | bad s => cases h
  | ok u s => exact .inr ⟨u, s, rfl, h⟩
theorem count_not (ks : List K) : countP ks ≠ .stuck := by
  unfold countP
  repeat split
  all_goals (intro h; cases h)
theorem chan_not (ks : List K) : chanP ks ≠ .stuck := by
  unfold chanP
  repeat split
  all_goals (intro h; cases h)
theorem var_not (ks : List K) : varP ks ≠ .stuck := by
  unfold varP
  repeat split
  all_goals (intro h; cases h)
theorem atom_stuck {P : List K → PR} {ks : List K} (h : atomP P ks = .stuck) : 0 < ks.length ∧ P ks.tail = .stuck := by
  unfold atomP at h
  split at h
  · cases h
  split at h
  · cases h
  split at h
  · cases h
  split at h
  · rename_i hp
    rcases bind_stuck h with h1 | ⟨u, s, _, h2⟩
    · exact ⟨isT_pos hp, h1⟩
    · split at h2 <;> cases h2
  split at h
  · exact absurd h (count_not _)
  split at h
  · exact absurd h (chan_not _)
  · exact absurd h (var_not _)
theorem enough : ∀ (f lv : Nat) (o : Option Tr) (ks : List K), lv ≤ 7 → (o ≠ none → lv ≤ 6) → need o lv ks ≤ f → pz f lv o ks ≠ .stuck := by
  intro f
  induction f with
  | zero =>
    intro lv o ks hlv _ h
    cases o <;> simp only [need] at h <;> omega
  | succ f ih =>
    intro lv o ks hlv ho hn hst
    cases o with
    | some t =>
      have hlv6 := ho (by simp)
      simp only [need] at hn
      unfold pz at hst
      cases hp : pick (joints lv) (hd ks) with
      | none => rw [hp] at hst; cases hst
      | some k =>
        rw [hp] at hst
        have h0 := pick_pos hp
        have h1 := tail_lt h0
        have h3 := fine f (lv + 1) ks.tail
        rcases bind_stuck hst with h2 | ⟨u, s, h2, h4⟩
        · exact ih (lv + 1) none ks.tail (by omega) (fun h => absurd rfl h) (by simp only [need]; omega) h2
        · rw [h2] at h3
          have h5 : s.length < ks.tail.length := h3.2
          exact ih lv (some _) s (by omega) (fun _ => hlv6) (by simp only [need]; omega) h4
    | none =>
      simp only [need] at hn
      unfold pz at hst
      split at hst
      · rename_i h2
        cases hp : pick prefs (hd ks) with
        | none =>
          rw [hp] at hst
          exact ih 3 none ks (by omega) (fun h => absurd rfl h) (by simp only [need]; omega) hst
        | some k =>
          rw [hp] at hst
          have h1 := tail_lt (pick_pos hp)
          rcases bind_stuck hst with h3 | ⟨u, s, _, h4⟩
          · exact ih 2 none ks.tail (by omega) (fun h => absurd rfl h) (by simp only [need]; omega) h3
          · cases h4
      split at hst
      · rename_i h2
        have hf := fine f 4 ks
        rcases bind_stuck hst with h3 | ⟨u, s, hx, h4⟩
        · exact ih 4 none ks (by omega) (fun h => absurd rfl h) (by simp only [need]; omega) h3
        · rw [hx] at hf
          have hl : s.length < ks.length := hf.2
          cases hp : pick cmp1 (hd s) with
          | some k =>
            rw [hp] at h4
            rcases bind_stuck h4 with h5 | ⟨u', s', _, h6⟩
            · exact ih 4 none s.tail (by omega) (fun h => absurd rfl h) (by simp only [need]; rw [List.length_tail]; omega) h5
            · cases h6
          | none =>
            rw [hp] at h4
            cases hp2 : pick cmp2 (hd s) with
            | some k =>
              rw [hp2] at h4
              rcases bind_stuck h4 with h5 | ⟨u', s', _, h6⟩
              · exact ih 4 none s.tail (by omega) (fun h => absurd rfl h) (by simp only [need]; rw [List.length_tail]; omega) h5
              · cases h6
            | none => rw [hp2] at h4; cases h4
      split at hst
      · rename_i h2
        split at hst
        · rename_i hp
          have h1 := tail_lt (isT_pos hp)
          rcases bind_stuck hst with h3 | ⟨u, s, _, h4⟩
          · exact ih 6 none ks.tail (by omega) (fun h => absurd rfl h) (by simp only [need]; omega) h3
          · cases h4
        · exact ih 7 none ks (by omega) (fun h => absurd rfl h) (by simp only [need]; omega) hst
      split at hst
      · obtain ⟨h1, h2⟩ := atom_stuck hst
        have h3 := tail_lt h1
        exact ih 0 none ks.tail (by omega) (fun h => absurd rfl h) (by simp only [need]; omega) h2
      · have hf := fine f (lv + 1) ks
        rcases bind_stuck hst with h3 | ⟨u, s, hx, h4⟩
        · exact ih (lv + 1) none ks (by omega) (fun h => absurd rfl h) (by simp only [need]; omega) h3
        · rw [hx] at hf
          have hl : s.length < ks.length := hf.2
          exact ih lv (some u) s (by omega) (fun _ => by omega) (by simp only [need]; omega) h4
theorem bind_mono {x x' : PR} {g g' : Tr → List K → PR} (hx : x ≠ .stuck → x' = x) (hg : ∀ t r, g t r ≠ .stuck → g' t r = g t r) (h : x.bind g ≠ .stuck) : x'.bind g' = x.bind g := by
  have h1 : x ≠ .stuck := fun e => h (by rw [e]; rfl)
  rw [hx h1]
  cases x with
  | stuck => exact absurd rfl h1
  | bad s => rfl
  | ok u s => exact hg u s h
theorem atom_mono {P P' : List K → PR} {ks : List K} (hP : ∀ r, P r ≠ .stuck → P' r = P r) (h : atomP P ks ≠ .stuck) : atomP P' ks = atomP P ks := by
  unfold atomP at h ⊢
  split
  · rfl
  rename_i h1
  rw [if_neg h1] at h
  split
  · rfl
  rename_i h2
  rw [if_neg h2] at h
  split
  · rfl
  rename_i h3
  rw [if_neg h3] at h
  split
  · rename_i h4
    rw [if_pos h4] at h
    exact bind_mono (hP _) (fun _ _ _ => rfl) h
  · rfl
theorem pz_succ : ∀ (f lv : Nat) (o : Option Tr) (ks : List K), pz f lv o ks ≠ .stuck → pz (f + 1) lv o ks = pz f lv o ks := by
  intro f
  induction f with
  | zero => intro lv o ks h; exact absurd (by cases o <;> rfl) h
  | succ f ih =>
    intro lv o ks h
    have key : ∀ lv o ks, pz f lv o ks ≠ .stuck → pz (f + 1) lv o ks = pz f lv o ks := ih
    generalize hF : f + 1 = F at *
    cases o with
    | some t =>
      conv => lhs; unfold pz
      subst hF
      unfold pz at h
      conv => rhs; unfold pz
      cases hp : pick (joints lv) (hd ks) with
      | none => rfl
      | some k =>
        rw [hp] at h
        exact bind_mono (key _ _ _) (fun t r => key _ _ _) h
    | none =>
      conv => lhs; unfold pz
      subst hF
      unfold pz at h
      conv => rhs; unfold pz
      split
      · rename_i h2
        rw [if_pos h2] at h
        cases hp : pick prefs (hd ks) with
        | none => rw [hp] at h; exact key _ _ _ h
        | some k => rw [hp] at h; exact bind_mono (key _ _ _) (fun _ _ _ => rfl) h
      rename_i h2
      rw [if_neg h2] at h
      split
      · rename_i h3
        rw [if_pos h3] at h
        refine bind_mono (key _ _ _) (fun t r h4 => ?_) h
        cases hp : pick cmp1 (hd r) with
        | some k => rw [hp] at h4; exact bind_mono (key _ _ _) (fun _ _ _ => rfl) h4
        | none =>
          rw [hp] at h4
          cases hp2 : pick cmp2 (hd r) with
          | some k => rw [hp2] at h4; exact bind_mono (key _ _ _) (fun _ _ _ => rfl) h4
          | none => rfl
      rename_i h3
      rw [if_neg h3] at h
      split
      · rename_i h4
        rw [if_pos h4] at h
        split
        · rename_i h5
          rw [if_pos h5] at h
          exact bind_mono (key _ _ _) (fun _ _ _ => rfl) h
        · rename_i h5
          rw [if_neg h5] at h
          exact key _ _ _ h
      rename_i h4
      rw [if_neg h4] at h
      split
      · rename_i h5
        rw [if_pos h5] at h
        exact atom_mono (fun r => key _ _ _) h
      · rename_i h5
        rw [if_neg h5] at h
        exact bind_mono (key _ _ _) (fun t r => key _ _ _) h
theorem pz_mono {f f' lv : Nat} {o : Option Tr} {ks : List K} (h : pz f lv o ks ≠ .stuck) (hf : f ≤ f') : pz f' lv o ks = pz f lv o ks := by
  obtain ⟨d, rfl⟩ : ∃ d, f' = f + d := ⟨f' - f, by omega⟩
  clear hf
  induction d with
  | zero => rfl
  | succ d ih =>
    rw [show f + (d + 1) = f + d + 1 by omega, pz_succ _ _ _ _ (by rw [ih]; exact h), ih]
/-- the tree of all words, or the words at which they are wrong -/
def parse (ks : List K) : PR := pz (10 * ks.length + 8) 0 none ks
theorem parse_at {f : Nat} {ks : List K} (h : 10 * ks.length + 8 ≤ f) : pz f 0 none ks = parse ks :=
  pz_mono (enough _ _ _ _ (by omega) (fun h => absurd rfl h) (by simp only [need]; omega)) h
end Go.Proofs.YthjalkonlcjhnaaGreatDoor
