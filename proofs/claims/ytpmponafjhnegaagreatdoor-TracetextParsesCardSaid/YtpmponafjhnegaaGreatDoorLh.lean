/-
  A reader of words, plain: the next word, the first error and its column; with it the line of an event and the line of a process are read as the plain reading says.
  Conditions: as each theorem says.
-/
import Derived.Test.YtpmponafjhnegaaGreatDoorLg
namespace Go.Proofs.YtpmponafjhnegaaGreatDoor
open Nu
/-- the number of the next word, the error and its column -/
structure Rst where
  at_ : Nat
  e : Int
  c : Nat
/-- the columns of words -/
def colF : Nat → List (List UInt8) → List Nat
  | _, [] => []
  | col, w :: ws => col :: colF (col + w.length + 1) ws
theorem colF_len : ∀ (ws : List (List UInt8)) (col : Nat), (colF col ws).length = ws.length
  | [], _ => rfl
  | w :: ws, col => by simp [colF, colF_len ws]
theorem colF_get : ∀ (ws : List (List UInt8)) (col i : Nat), i < ws.length → (colF col ws)[i]? = some (col + wsL (ws.take i))
  | [], _, _, h => absurd h (Nat.not_lt_zero _)
  | w :: ws, col, 0, _ => by simp [colF, wsL]
  | w :: ws, col, i + 1, h => by
    show (colF (col + w.length + 1) ws)[i]? = _
    rw [colF_get ws _ i (by simpa using h)]
    simp [wsL]
    omega
theorem colF_snoc : ∀ (ws : List (List UInt8)) (col : Nat) (w : List UInt8), colF col (ws ++ [w]) = colF col ws ++ [col + wsL ws]
  | [], col, w => by simp [colF, wsL]
  | v :: ws, col, w => by
    rw [List.cons_append]
    show col :: colF _ (ws ++ [w]) = col :: (colF _ ws ++ _)
    rw [colF_snoc ws _ w]
    simp [wsL]
    omega
section
variable (ws : List (List UInt8)) (cs : List Nat) (en : Nat)
def wordF (s : Rst) : List UInt8 × Rst := if s.e = 0 then (match ws[s.at_]? with | some w => (w, ⟨s.at_ + 1, 0, s.c⟩) | none => ([], ⟨s.at_, 3, en⟩)) else ([], s)
def failF (e : Int) (s : Rst) : Rst := if s.e = 0 then ⟨s.at_, e, cs.getD (s.at_ - 1) 0⟩ else s
def moreF (s : Rst) : Bool := decide (s.e = 0) && decide (s.at_ < ws.length)
def nameF (s : Rst) : List UInt8 × Rst := if (wordF ws en s).2.e = 0 then (if nameB (bs (wordF ws en s).1) then wordF ws en s else ((wordF ws en s).1, failF cs 3 (wordF ws en s).2)) else wordF ws en s
def numF (l : List UInt8) (ok : Bool) (s : Rst) : Int × Rst := if s.e = 0 then (if ok then (parV l, if parE l = 0 then s else failF cs (parE l) s) else (0, failF cs 3 s)) else (0, s)
/-- what stands ahead of the first =, what stands behind it, and whether there is one -/
def cutF (l : List UInt8) : List UInt8 × List UInt8 × Bool := match cutC 61 l with | some (n, v) => (n, v, true) | none => (l, [], false)
def asgF (s : Rst) : List UInt8 × Int × Rst :=
  ((cutF (wordF ws en s).1).1, numF cs (cutF (wordF ws en s).1).2.1 ((cutF (wordF ws en s).1).2.2 && nameB (bs (cutF (wordF ws en s).1).1)) (wordF ws en s).2)
def kindF (w : List UInt8) : Int := if w = wLocal then 1 else if w = wSend then 2 else if w = wReceive then 3 else 0
def evA (s : Rst) : Int × Rst := (kindF (wordF ws en s).1, if kindF (wordF ws en s).1 = 0 then failF cs 3 (wordF ws en s).2 else (wordF ws en s).2)
/-- the peer, its column, the number -/
def evB (k : Int) (s : Rst) : List UInt8 × Nat × Int × Rst :=
  if k = 2 ∨ k = 3 then
    ((nameF ws cs en s).1, (if (nameF ws cs en s).2.e = 0 then cs.getD ((nameF ws cs en s).2.at_ - 1) 0 else 0), numF cs (wordF ws en (nameF ws cs en s).2).1 true (wordF ws en (nameF ws cs en s).2).2)
  else ([], 0, 0, s)
/-- what stands behind an @ -/
def clkF (w : List UInt8) : List UInt8 × Bool := match w with | 64 :: r => (r, true) | _ => (w, false)
def evC (s : Rst) : Int × Rst := numF cs (clkF (wordF ws en s).1).1 (clkF (wordF ws en s).1).2 (wordF ws en s).2
def evD (vars : List (ByteArray × Int)) : Nat → Rst → List (Int × Int) → List (Int × Int) × Rst
  | 0, s, l => (l, s)
  | n + 1, s, l => if moreF ws s then (if (asgF ws cs en s).2.2.e = 0 then
      (match vIdx (bs (asgF ws cs en s).1) vars with
        | some i => evD vars n (asgF ws cs en s).2.2 (l ++ [((i : Int), (asgF ws cs en s).2.1)])
        | none => evD vars n (failF cs 13 (asgF ws cs en s).2.2) (l ++ [(0, (asgF ws cs en s).2.1)]))
    else (l, (asgF ws cs en s).2.2)) else (l, s)
theorem word_dead {s : Rst} (h : s.e ≠ 0) : wordF ws en s = ([], s) := by unfold wordF; rw [if_neg h]
theorem word_at {s : Rst} (h : s.e = 0) {w : List UInt8} (hw : ws[s.at_]? = some w) : wordF ws en s = (w, ⟨s.at_ + 1, 0, s.c⟩) := by unfold wordF; rw [if_pos h, hw]
theorem word_end {s : Rst} (h : s.e = 0) (hw : ws[s.at_]? = none) : wordF ws en s = ([], ⟨s.at_, 3, en⟩) := by unfold wordF; rw [if_pos h, hw]
theorem fail_dead {s : Rst} (e : Int) (h : s.e ≠ 0) : failF cs e s = s := by unfold failF; rw [if_neg h]
theorem num_dead {s : Rst} (l : List UInt8) (ok : Bool) (h : s.e ≠ 0) : numF cs l ok s = (0, s) := by unfold numF; rw [if_neg h]
theorem name_dead {s : Rst} (h : s.e ≠ 0) : nameF ws cs en s = ([], s) := by unfold nameF; rw [word_dead ws en h, if_neg h]
theorem evB_dead {s : Rst} (k : Int) (h : s.e ≠ 0) : (evB ws cs en k s).2.2.2 = s := by
  unfold evB
  split
  · rw [name_dead ws cs en h, word_dead ws en h, num_dead cs _ _ h]
  · rfl
theorem evC_dead {s : Rst} (h : s.e ≠ 0) : (evC ws cs en s).2 = s := by unfold evC; rw [word_dead ws en h, num_dead cs _ _ h]
theorem evD_dead {s : Rst} (vars : List (ByteArray × Int)) (n : Nat) (l : List (Int × Int)) (h : s.e ≠ 0) : evD ws cs en vars n s l = (l, s) := by
  cases n with
  | zero => rfl
  | succ n =>
    unfold evD moreF
    rw [decide_eq_false h]
    rfl
end
/-- what is left of a line to be read -/
def runR (vars : List (ByteArray × Int)) (ws : List (List UInt8)) (col en : Nat) (st : ES) (i : Nat) : Except (Int × Nat) ES :=
  match runW (stepE vars) st (ws.drop i) (col + wsL (ws.take i)) with
  | .error x => .error x
  | .ok s => if s.k < 4 then .error (3, en) else .ok s
theorem wsL_take {ws : List (List UInt8)} {i : Nat} {w : List UInt8} (h : ws[i]? = some w) : ws.drop i = w :: ws.drop (i + 1) ∧ wsL (ws.take (i + 1)) = wsL (ws.take i) + w.length + 1 := by
  obtain ⟨hi, rfl⟩ := List.getElem?_eq_some_iff.1 h
  refine ⟨List.drop_eq_getElem_cons hi, ?_⟩
  rw [List.take_succ_eq_append_getElem hi]
  unfold wsL
  rw [List.map_append, List.sum_append]
  simp
  omega
theorem runR_step {vars : List (ByteArray × Int)} {ws : List (List UInt8)} {col en : Nat} {i : Nat} {w : List UInt8} (st : ES) (h : ws[i]? = some w) :
    runR vars ws col en st i = match stepE vars st w (col + wsL (ws.take i)) with | .error e => .error (e, col + wsL (ws.take i)) | .ok st' => runR vars ws col en st' (i + 1) := by
  obtain ⟨h1, h2⟩ := wsL_take h
  unfold runR
  rw [h1, h2]
  conv => lhs; unfold runW
  cases stepE vars st w (col + wsL (ws.take i)) with
  | error e => rfl
  | ok st' => dsimp only; rw [show col + (wsL (ws.take i) + w.length + 1) = col + wsL (ws.take i) + w.length + 1 by omega]
theorem runR_end {vars : List (ByteArray × Int)} {ws : List (List UInt8)} {col en : Nat} {i : Nat} (st : ES) (h : ws[i]? = none) : runR vars ws col en st i = if st.k < 4 then .error (3, en) else .ok st := by
  unfold runR
  rw [List.drop_eq_nil_iff.2 (List.getElem?_eq_none_iff.1 h)]
  rfl
theorem parE_ne (l : List UInt8) : parE l = 0 ∨ parE l = 3 ∨ parE l = 9 := by
  unfold parE
  split
  · split
    · exact .inl rfl
    · exact .inr (.inr rfl)
  · exact .inr (.inl rfl)
theorem cutF_asg (w : List UInt8) : asgO w = (if (cutF w).2.2 && nameB (bs (cutF w).1) then (if parE (cutF w).2.1 = 0 then .ok (bs (cutF w).1, parV (cutF w).2.1) else .error (parE (cutF w).2.1)) else .error 3) := by
  unfold asgO cutF
  cases cutC 61 w with
  | none => rfl
  | some x => obtain ⟨a, b⟩ := x; rfl
section
variable {vars : List (ByteArray × Int)} {ws : List (List UInt8)} {col en : Nat}
/-- the column of a word -/
theorem col_at {i : Nat} (h : i < ws.length) : (colF col ws).getD i 0 = col + wsL (ws.take i) := by
  rw [List.getD_eq_getElem?_getD, colF_get ws col i h]
  rfl
/-- an assignment, or a variable, that is read -/
theorem asgF_at {i c : Nat} {w : List UInt8} (hw : ws[i]? = some w) : match asgO w with
    | .ok (n, v) => bs (asgF ws (colF col ws) en ⟨i, 0, c⟩).1 = n ∧ (asgF ws (colF col ws) en ⟨i, 0, c⟩).2 = (v, ⟨i + 1, 0, c⟩)
    | .error e => (asgF ws (colF col ws) en ⟨i, 0, c⟩).2.2 = ⟨i + 1, e, col + wsL (ws.take i)⟩ ∧ e ≠ 0 := by
  have hi := (List.getElem?_eq_some_iff.1 hw).1
  unfold asgF
  rw [word_at ws en rfl hw, cutF_asg]
  dsimp only
  by_cases h1 : ((cutF w).2.2 && nameB (bs (cutF w).1)) = true
  · rw [h1, if_pos rfl]
    by_cases h2 : parE (cutF w).2.1 = 0
    · rw [if_pos h2]
      refine ⟨rfl, ?_⟩
      unfold numF
      rw [if_pos rfl, if_pos rfl, if_pos h2]
    · rw [if_neg h2]
      refine ⟨?_, h2⟩
      unfold numF
      rw [if_pos rfl, if_pos rfl, if_neg h2]
      unfold failF
      rw [if_pos rfl]
      dsimp only
      rw [Nat.add_sub_cancel, col_at hi]
  · rw [if_neg h1]
    refine ⟨?_, by simp⟩
    rw [Bool.not_eq_true] at h1
    rw [h1]
    unfold numF
    rw [if_pos rfl, if_neg (by decide)]
    unfold failF
    rw [if_pos rfl]
    dsimp only
    rw [Nat.add_sub_cancel, col_at hi]
theorem evD_plain : ∀ (n i c : Nat) (l : List (Int × Int)) (st : ES), st.k = 4 → st.asg = l → ws.length ≤ n + i →
    match runR vars ws col en st i with
    | .ok S => ∃ s, evD ws (colF col ws) en vars n ⟨i, 0, c⟩ l = (S.asg, s) ∧ s.e = 0 ∧ S = { st with asg := S.asg }
    | .error x => (evD ws (colF col ws) en vars n ⟨i, 0, c⟩ l).2.e = x.1 ∧ (evD ws (colF col ws) en vars n ⟨i, 0, c⟩ l).2.c = x.2 ∧ x.1 ≠ 0
  | 0, i, c, l, st, hk, hl, hn => by
    have h0 : ws[i]? = none := List.getElem?_eq_none_iff.2 (by omega)
    rw [runR_end st h0, if_neg (by omega)]
    exact ⟨_, by rw [hl]; rfl, rfl, rfl⟩
  | n + 1, i, c, l, st, hk, hl, hn => by
    cases hw : ws[i]? with
    | none =>
      rw [runR_end st hw, if_neg (by omega)]
      refine ⟨⟨i, 0, c⟩, ?_, rfl, rfl⟩
      unfold evD moreF
      have : decide (i < ws.length) = false := decide_eq_false (by have := List.getElem?_eq_none_iff.1 hw; omega)
      dsimp only
      rw [this, Bool.and_false, if_neg (by decide), hl]
    | some w =>
      have hi := (List.getElem?_eq_some_iff.1 hw).1
      rw [runR_step st hw]
      have hst : stepE vars st w (col + wsL (ws.take i)) = match asgO w with
          | .error e => .error e
          | .ok (n, v) => match vIdx n vars with
            | none => .error 13
            | some i => .ok { st with asg := st.asg ++ [((i : Int), v)] } := by
        obtain ⟨k, kind, peer, pcol, msg, time, asg⟩ := st
        dsimp only at hk
        subst hk
        rfl
      rw [hst]
      have hm : moreF ws ⟨i, 0, c⟩ = true := by unfold moreF; simp [hi]
      have ha := asgF_at (col := col) (en := en) (c := c) hw
      unfold evD
      rw [hm, if_pos rfl]
      cases hasg : asgO w with
      | error e =>
        rw [hasg] at ha
        dsimp only at ha ⊢
        obtain ⟨h1, h2⟩ := ha
        rw [h1]
        dsimp only
        rw [if_neg h2]
        exact ⟨rfl, rfl, h2⟩
      | ok x =>
        obtain ⟨nm, v⟩ := x
        rw [hasg] at ha
        dsimp only at ha ⊢
        obtain ⟨h1, h2⟩ := ha
        rw [h1, h2]
        dsimp only
        rw [if_pos rfl]
        cases hv : vIdx nm vars with
        | none =>
          dsimp only
          have hf : failF (colF col ws) 13 ⟨i + 1, 0, c⟩ = ⟨i + 1, 13, col + wsL (ws.take i)⟩ := by
            unfold failF
            rw [if_pos rfl]
            dsimp only
            rw [Nat.add_sub_cancel, col_at hi]
          rw [hf, evD_dead ws _ en vars n _ (show (13 : Int) ≠ 0 by decide)]
          exact ⟨rfl, rfl, by simp⟩
        | some j =>
          dsimp only
          have := evD_plain n (i + 1) c (l ++ [((j : Int), v)]) { st with asg := st.asg ++ [((j : Int), v)] } hk (by rw [hl]) (by omega)
          cases hr : runR vars ws col en { st with asg := st.asg ++ [((j : Int), v)] } (i + 1) with
          | error x => rw [hr] at this; exact this
          | ok S => rw [hr] at this; exact this
/-- the clock and what comes behind it -/
theorem evC_plain (n i c : Nat) (st : ES) (hk : st.k = 3) (ha : st.asg = []) (hn : ws.length ≤ n + i) :
    match runR vars ws col en st i with
    | .ok S => ∃ s, evD ws (colF col ws) en vars n (evC ws (colF col ws) en ⟨i, 0, c⟩).2 [] = (S.asg, s) ∧ s.e = 0 ∧ S = { st with k := 4, time := (evC ws (colF col ws) en ⟨i, 0, c⟩).1, asg := S.asg }
    | .error x => (evD ws (colF col ws) en vars n (evC ws (colF col ws) en ⟨i, 0, c⟩).2 []).2.e = x.1 ∧ (evD ws (colF col ws) en vars n (evC ws (colF col ws) en ⟨i, 0, c⟩).2 []).2.c = x.2 ∧ x.1 ≠ 0 := by
  cases hw : ws[i]? with
  | none =>
    have hc : (evC ws (colF col ws) en ⟨i, 0, c⟩).2 = ⟨i, 3, en⟩ := by
      unfold evC
      rw [word_end ws en rfl hw, num_dead _ _ _ (show (3 : Int) ≠ 0 by decide)]
    rw [runR_end st hw, if_pos (by omega), hc, evD_dead ws _ en vars n _ (show (3 : Int) ≠ 0 by decide)]
    exact ⟨rfl, rfl, by simp⟩
  | some w =>
    have hi := (List.getElem?_eq_some_iff.1 hw).1
    rw [runR_step st hw]
    have hst : stepE vars st w (col + wsL (ws.take i)) = if (clkF w).2 then (if parE (clkF w).1 = 0 then .ok { st with k := 4, time := parV (clkF w).1 } else .error (parE (clkF w).1)) else .error 3 := by
      obtain ⟨k, kind, peer, pcol, msg, time, asg⟩ := st
      dsimp only at hk
      subst hk
      unfold stepE clkF
      dsimp only
      split <;> simp
    rw [hst]
    have hc : evC ws (colF col ws) en ⟨i, 0, c⟩ = if (clkF w).2 then (if parE (clkF w).1 = 0 then (parV (clkF w).1, ⟨i + 1, 0, c⟩) else (parV (clkF w).1, ⟨i + 1, parE (clkF w).1, col + wsL (ws.take i)⟩)) else (0, ⟨i + 1, 3, col + wsL (ws.take i)⟩) := by
      unfold evC
      rw [word_at ws en rfl hw]
      unfold numF failF
      dsimp only
      simp only [if_true, Nat.add_sub_cancel, col_at hi]
      split
      · split <;> rfl
      · rfl
    rw [hc]
    by_cases h1 : (clkF w).2 = true
    · rw [if_pos h1, if_pos h1]
      by_cases h2 : parE (clkF w).1 = 0
      · rw [if_pos h2, if_pos h2]
        dsimp only
        have := evD_plain (vars := vars) (ws := ws) (col := col) (en := en) n (i + 1) c [] { st with k := 4, time := parV (clkF w).1 } rfl ha (by omega)
        cases hr : runR vars ws col en { st with k := 4, time := parV (clkF w).1 } (i + 1) with
        | error x => rw [hr] at this; exact this
        | ok S => rw [hr] at this; exact this
      · rw [if_neg h2, if_neg h2]
        dsimp only
        rw [evD_dead ws _ en vars n _ h2]
        exact ⟨rfl, rfl, h2⟩
    · rw [if_neg h1, if_neg h1]
      dsimp only
      rw [evD_dead ws _ en vars n _ (show (3 : Int) ≠ 0 by decide)]
      exact ⟨rfl, rfl, by simp⟩
/-- the number of a message -/
theorem num_plain (i c : Nat) (st : ES) (hk : st.k = 2) :
    (∃ c', (numF (colF col ws) (wordF ws en ⟨i, 0, c⟩).1 true (wordF ws en ⟨i, 0, c⟩).2).2 = ⟨i + 1, 0, c'⟩ ∧ runR vars ws col en st i = runR vars ws col en { st with k := 3, msg := (numF (colF col ws) (wordF ws en ⟨i, 0, c⟩).1 true (wordF ws en ⟨i, 0, c⟩).2).1 } (i + 1)) ∨
    (∃ x, runR vars ws col en st i = .error x ∧ (numF (colF col ws) (wordF ws en ⟨i, 0, c⟩).1 true (wordF ws en ⟨i, 0, c⟩).2).2.e = x.1 ∧ (numF (colF col ws) (wordF ws en ⟨i, 0, c⟩).1 true (wordF ws en ⟨i, 0, c⟩).2).2.c = x.2 ∧ x.1 ≠ 0) := by
  cases hw : ws[i]? with
  | none =>
    right
    rw [word_end ws en rfl hw, num_dead _ _ _ (show (3 : Int) ≠ 0 by decide), runR_end st hw, if_pos (by omega)]
    exact ⟨_, rfl, rfl, rfl, by simp⟩
  | some w =>
    have hi := (List.getElem?_eq_some_iff.1 hw).1
    rw [word_at ws en rfl hw, runR_step st hw]
    have hst : stepE vars st w (col + wsL (ws.take i)) = if parE w = 0 then .ok { st with k := 3, msg := parV w } else .error (parE w) := by
      obtain ⟨k, kind, peer, pcol, msg, time, asg⟩ := st
      dsimp only at hk
      subst hk
      rfl
    rw [hst]
    unfold numF
    dsimp only
    rw [if_pos rfl, if_pos rfl]
    by_cases h2 : parE w = 0
    · left
      rw [if_pos h2, if_pos h2]
      exact ⟨c, rfl, rfl⟩
    · right
      rw [if_neg h2, if_neg h2]
      refine ⟨_, rfl, ?_, ?_, h2⟩
      · unfold failF; rw [if_pos rfl]
      · unfold failF; rw [if_pos rfl]; dsimp only; rw [Nat.add_sub_cancel, col_at hi]
/-- the peer and the number -/
theorem evB_plain (k : Int) (i c : Nat) (hk : k = 2 ∨ k = 3) :
    (∃ i' c', (evB ws (colF col ws) en k ⟨i, 0, c⟩).2.2.2 = ⟨i', 0, c'⟩ ∧ i ≤ i' ∧ runR vars ws col en ⟨1, k, bs [], 0, 0, 0, []⟩ i = runR vars ws col en ⟨3, k, bs (evB ws (colF col ws) en k ⟨i, 0, c⟩).1, (evB ws (colF col ws) en k ⟨i, 0, c⟩).2.1, (evB ws (colF col ws) en k ⟨i, 0, c⟩).2.2.1, 0, []⟩ i') ∨
    (∃ x, runR vars ws col en ⟨1, k, bs [], 0, 0, 0, []⟩ i = .error x ∧ (evB ws (colF col ws) en k ⟨i, 0, c⟩).2.2.2.e = x.1 ∧ (evB ws (colF col ws) en k ⟨i, 0, c⟩).2.2.2.c = x.2 ∧ x.1 ≠ 0) := by
  unfold evB
  rw [if_pos hk]
  dsimp only
  cases hw : ws[i]? with
  | none =>
    right
    have hn : nameF ws (colF col ws) en ⟨i, 0, c⟩ = ([], ⟨i, 3, en⟩) := by unfold nameF; rw [word_end ws en rfl hw, if_neg (by simp)]
    rw [hn, runR_end _ hw]
    dsimp only
    rw [word_dead ws en (show (3 : Int) ≠ 0 by decide), num_dead _ _ _ (show (3 : Int) ≠ 0 by decide)]
    exact ⟨_, rfl, rfl, rfl, by simp⟩
  | some w =>
    have hi := (List.getElem?_eq_some_iff.1 hw).1
    rw [runR_step _ hw]
    have hst : stepE vars ⟨1, k, bs [], 0, 0, 0, []⟩ w (col + wsL (ws.take i)) = if nameB (bs w) then .ok ⟨2, k, bs w, col + wsL (ws.take i), 0, 0, []⟩ else .error 3 := rfl
    rw [hst]
    by_cases h1 : nameB (bs w) = true
    · have hn : nameF ws (colF col ws) en ⟨i, 0, c⟩ = (w, ⟨i + 1, 0, c⟩) := by unfold nameF; rw [word_at ws en rfl hw, if_pos rfl, if_pos h1]
      rw [hn, if_pos h1]
      dsimp only
      rw [if_pos rfl, Nat.add_sub_cancel, col_at hi]
      rcases num_plain (vars := vars) (ws := ws) (col := col) (en := en) (i + 1) c ⟨2, k, bs w, col + wsL (ws.take i), 0, 0, []⟩ rfl with ⟨c', g1, g2⟩ | ⟨x, g1, g2⟩
      · exact .inl ⟨i + 1 + 1, c', g1, by omega, g2⟩
      · exact .inr ⟨x, g1, g2⟩
    · right
      have hn : nameF ws (colF col ws) en ⟨i, 0, c⟩ = (w, ⟨i + 1, 3, col + wsL (ws.take i)⟩) := by
        unfold nameF
        rw [word_at ws en rfl hw, if_pos rfl, if_neg h1]
        unfold failF
        dsimp only
        rw [if_pos rfl, Nat.add_sub_cancel, col_at hi]
      rw [hn, if_neg h1]
      dsimp only
      rw [word_dead ws en (show (3 : Int) ≠ 0 by decide), num_dead _ _ _ (show (3 : Int) ≠ 0 by decide)]
      exact ⟨_, rfl, rfl, rfl, by simp⟩
end
/-- an event as the program reads it: kind, peer, its column, number, time, assignments, the reader -/
structure EvF where
  kind : Int
  peer : List UInt8
  pcol : Nat
  msg : Int
  time : Int
  asg : List (Int × Int)
  s : Rst
def evF (vars : List (ByteArray × Int)) (ws : List (List UInt8)) (cs : List Nat) (en : Nat) (n : Nat) (s0 : Rst) : EvF :=
  let a := evA ws cs en s0
  let b := evB ws cs en a.1 a.2
  let c := evC ws cs en b.2.2.2
  let d := evD ws cs en vars n c.2 []
  ⟨a.1, b.1, b.2.1, b.2.2.1, c.1, d.1, d.2⟩
theorem event_plain (vars : List (ByteArray × Int)) (line : List UInt8) (col n : Nat) (hn : (spl 32 line).length ≤ n) :
    match evL vars line col with
    | .ok S => (evF vars (spl 32 line) (colF col (spl 32 line)) (col + line.length) n ⟨0, 0, 0⟩).s.e = 0 ∧ S.kind = (evF vars (spl 32 line) (colF col (spl 32 line)) (col + line.length) n ⟨0, 0, 0⟩).kind ∧ S.peer = bs (evF vars (spl 32 line) (colF col (spl 32 line)) (col + line.length) n ⟨0, 0, 0⟩).peer ∧
      S.pcol = (evF vars (spl 32 line) (colF col (spl 32 line)) (col + line.length) n ⟨0, 0, 0⟩).pcol ∧ S.msg = (evF vars (spl 32 line) (colF col (spl 32 line)) (col + line.length) n ⟨0, 0, 0⟩).msg ∧ S.time = (evF vars (spl 32 line) (colF col (spl 32 line)) (col + line.length) n ⟨0, 0, 0⟩).time ∧
      S.asg = (evF vars (spl 32 line) (colF col (spl 32 line)) (col + line.length) n ⟨0, 0, 0⟩).asg
    | .error x => (evF vars (spl 32 line) (colF col (spl 32 line)) (col + line.length) n ⟨0, 0, 0⟩).s.e = x.1 ∧ (evF vars (spl 32 line) (colF col (spl 32 line)) (col + line.length) n ⟨0, 0, 0⟩).s.c = x.2 ∧ x.1 ≠ 0 := by
  have hR : evL vars line col = runR vars (spl 32 line) col (col + line.length) es0 0 := rfl
  rw [hR]
  generalize hen : col + line.length = en
  obtain ⟨w, r, hws⟩ := spl_cons 32 line
  generalize spl 32 line = ws at *
  have hw : ws[0]? = some w := by rw [hws]; rfl
  have hlen : 0 < ws.length := by rw [hws]; simp
  rw [runR_step es0 hw]
  have hst : stepE vars es0 w (col + wsL (ws.take 0)) = if kindF w = 0 then .error 3 else .ok ⟨if kindF w = 1 then 3 else 1, kindF w, bs [], 0, 0, 0, []⟩ := by
    unfold stepE kindF
    dsimp only [es0]
    by_cases h1 : w = wLocal
    · rw [if_pos h1, if_pos h1]; rfl
    · rw [if_neg h1, if_neg h1]
      by_cases h2 : w = wSend
      · rw [if_pos h2, if_pos h2]; rfl
      · rw [if_neg h2, if_neg h2]
        by_cases h3 : w = wReceive
        · rw [if_pos h3, if_pos h3]; rfl
        · rw [if_neg h3, if_neg h3]; rfl
  rw [hst]
  have hc0 : (colF col ws).getD (0 + 1 - 1) 0 = col + wsL (ws.take 0) := col_at hlen
  unfold evF
  dsimp only
  have hA : evA ws (colF col ws) en ⟨0, 0, 0⟩ = (kindF w, if kindF w = 0 then ⟨1, 3, col + wsL (ws.take 0)⟩ else ⟨1, 0, 0⟩) := by
    unfold evA
    rw [word_at ws en rfl hw]
    unfold failF
    dsimp only
    rw [if_pos rfl, hc0]
  rw [hA]
  dsimp only
  by_cases hk0 : kindF w = 0
  · rw [if_pos hk0, if_pos hk0]
    dsimp only
    rw [evB_dead ws _ en _ (show (3 : Int) ≠ 0 by decide), evC_dead ws _ en (show (3 : Int) ≠ 0 by decide), evD_dead ws _ en vars n _ (show (3 : Int) ≠ 0 by decide)]
    exact ⟨rfl, rfl, by simp⟩
  · rw [if_neg hk0, if_neg hk0]
    dsimp only
    by_cases hk1 : kindF w = 1
    · rw [hk1, if_pos rfl]
      have hB : evB ws (colF col ws) en 1 ⟨1, 0, 0⟩ = ([], 0, 0, ⟨1, 0, 0⟩) := by unfold evB; rw [if_neg (by decide)]
      rw [hB]
      dsimp only
      have := evC_plain (vars := vars) (ws := ws) (col := col) (en := en) n 1 0 ⟨3, 1, bs [], 0, 0, 0, []⟩ rfl rfl (by omega)
      cases hr : runR vars ws col en ⟨3, 1, bs [], 0, 0, 0, []⟩ (0 + 1) with
      | error x =>
        rw [hr] at this
        exact this
      | ok S =>
        rw [hr] at this
        obtain ⟨s, g1, g2, g3⟩ := this
        rw [g1]
        rw [g3]
        exact ⟨g2, rfl, rfl, rfl, rfl, rfl, rfl⟩
    · rw [if_neg hk1]
      have hk : kindF w = 2 ∨ kindF w = 3 := by
        unfold kindF at hk0 hk1 ⊢
        split
        · rename_i h; rw [if_pos h] at hk1; exact absurd rfl hk1
        · split
          · exact .inl rfl
          · split
            · exact .inr rfl
            · rename_i h1 h2 h3
              rw [if_neg h1, if_neg h2, if_neg h3] at hk0
              exact absurd rfl hk0
      rcases evB_plain (vars := vars) (ws := ws) (col := col) (en := en) (kindF w) 1 0 hk with ⟨i', c', g1, g2, g3⟩ | ⟨x, g1, g2, g3, g4⟩
      · rw [show (0 + 1 : Nat) = 1 from rfl, g3, g1]
        have := evC_plain (vars := vars) (ws := ws) (col := col) (en := en) n i' c' ⟨3, kindF w, bs (evB ws (colF col ws) en (kindF w) ⟨1, 0, 0⟩).1, (evB ws (colF col ws) en (kindF w) ⟨1, 0, 0⟩).2.1, (evB ws (colF col ws) en (kindF w) ⟨1, 0, 0⟩).2.2.1, 0, []⟩ rfl rfl (by omega)
        cases hr : runR vars ws col en ⟨3, kindF w, bs (evB ws (colF col ws) en (kindF w) ⟨1, 0, 0⟩).1, (evB ws (colF col ws) en (kindF w) ⟨1, 0, 0⟩).2.1, (evB ws (colF col ws) en (kindF w) ⟨1, 0, 0⟩).2.2.1, 0, []⟩ i' with
        | error x =>
          rw [hr] at this
          exact this
        | ok S =>
          rw [hr] at this
          obtain ⟨s, k1, k2, k3⟩ := this
          rw [k1]
          rw [k3]
          exact ⟨k2, rfl, rfl, rfl, rfl, rfl, rfl⟩
      · rw [show (0 + 1 : Nat) = 1 from rfl, g1]
        have hd : (evB ws (colF col ws) en (kindF w) ⟨1, 0, 0⟩).2.2.2.e ≠ 0 := by rw [g2]; exact g4
        rw [evC_dead ws _ en hd, evD_dead ws _ en vars n _ hd]
        exact ⟨g2, g3, g4⟩
end Go.Proofs.YtpmponafjhnegaaGreatDoor
