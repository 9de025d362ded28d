/-
  The reference's reader of words, plain; with it the line of an event is read as the plain reading says.
  Conditions: as each theorem says.
-/
import Derived.Test.YtpmponafjhnegaaGreatDoorLi
namespace Go.Proofs.YtpmponafjhnegaaGreatDoor
open Nu
section
variable (ws : List (List UInt8)) (col en : Nat)
def colA (i : Nat) : Nat := col + wsL (ws.take i)
def nextR (s : Rst) : List UInt8 := (ws[s.at_]?).getD []
def failR (e : Int) (s : Rst) : Rst := if s.e = 0 then ⟨s.at_, e, colA ws col s.at_⟩ else s
def skipR (s : Rst) : Rst := if s.at_ < ws.length then ⟨s.at_ + 1, s.e, s.c⟩ else s
def missR (s : Rst) : Rst := if ws.length ≤ s.at_ ∧ s.e = 0 then ⟨s.at_, 3, en⟩ else s
def nameR (s : Rst) : List UInt8 × Rst := (nextR ws s, skipR ws (if nameB (bs (nextR ws s)) then s else failR ws col 3 s))
def intR (b : List UInt8) (s : Rst) : Int × Rst :=
  if b.isPrefixOf (nextR ws s) then (parV ((nextR ws s).drop b.length), skipR ws (if parE ((nextR ws s).drop b.length) = 0 then s else failR ws col (parE ((nextR ws s).drop b.length)) s))
  else (0, skipR ws (failR ws col 3 s))
def pairR (s : Rst) : List UInt8 × Int × Rst := match cutC 61 (nextR ws s) with
  | some (n, _) => if nameB (bs n) then (n, intR ws col (n ++ [61]) s) else ([], 0, skipR ws (failR ws col 3 s))
  | none => ([], 0, skipR ws (failR ws col 3 s))
def evRA (s : Rst) : Int × Rst := (kindF (nextR ws s), skipR ws (if kindF (nextR ws s) = 0 then failR ws col 3 s else s))
def evRB (k : Int) (s : Rst) : List UInt8 × Nat × Int × Rst :=
  if k = 2 ∨ k = 3 then ((nameR ws col (missR ws en s)).1, colA ws col (missR ws en s).at_, intR ws col [] (missR ws en (nameR ws col (missR ws en s)).2)) else ([], 0, 0, s)
def evRC (s : Rst) : Int × Rst := intR ws col [64] (missR ws en s)
def evRD (vars : List (ByteArray × Int)) : Nat → Rst → List (Int × Int) → List (Int × Int) × Rst
  | 0, s, l => (l, s)
  | n + 1, s, l => if moreF ws s then (if (pairR ws col s).2.2.e = 0 then
      (match vIdx (bs (pairR ws col s).1) vars with
        | some i => evRD vars n (pairR ws col s).2.2 (l ++ [((i : Int), (pairR ws col s).2.1)])
        | none => evRD vars n ⟨(pairR ws col s).2.2.at_, 13, colA ws col s.at_⟩ (l ++ [(-1, (pairR ws col s).2.1)]))
    else (l, (pairR ws col s).2.2)) else (l, s)
def pcRD : Nat → Rst → List (ByteArray × Int) → List (ByteArray × Int) × Rst
  | 0, s, l => (l, s)
  | n + 1, s, l => if moreF ws s then pcRD n (pairR ws col s).2.2 (l ++ [(bs (pairR ws col s).1, (pairR ws col s).2.1)]) else (l, s)
def pcRA (s : Rst) : Rst := skipR ws (if nextR ws s = wProcess then s else failR ws col 3 s)
theorem skipR_e (s : Rst) : (skipR ws s).e = s.e ∧ (skipR ws s).c = s.c := by unfold skipR; split <;> exact ⟨rfl, rfl⟩
theorem failR_dead {s : Rst} (e : Int) (h : s.e ≠ 0) : failR ws col e s = s := by unfold failR; rw [if_neg h]
theorem missR_dead {s : Rst} (h : s.e ≠ 0) : missR ws en s = s := by unfold missR; rw [if_neg (fun g => h g.2)]
/-- once an error has been found it stays -/
def Stays (s s' : Rst) : Prop := s.e ≠ 0 → s'.e = s.e ∧ s'.c = s.c
theorem Stays.trans {a b c : Rst} (h : Stays a b) (k : Stays b c) : Stays a c := fun hd => by
  obtain ⟨h1, h2⟩ := h hd
  obtain ⟨k1, k2⟩ := k (by rw [h1]; exact hd)
  exact ⟨k1.trans h1, k2.trans h2⟩
theorem stays_skip (s : Rst) : Stays s (skipR ws s) := fun _ => skipR_e ws s
theorem stays_fail (e : Int) (s : Rst) : Stays s (failR ws col e s) := fun h => by rw [failR_dead ws col e h]; exact ⟨rfl, rfl⟩
theorem stays_miss (s : Rst) : Stays s (missR ws en s) := fun h => by rw [missR_dead ws en h]; exact ⟨rfl, rfl⟩
theorem stays_name (s : Rst) : Stays s (nameR ws col s).2 := by
  unfold nameR
  dsimp only
  split
  · exact stays_skip ws s
  · exact (stays_fail ws col 3 s).trans (stays_skip ws _)
theorem stays_int (b : List UInt8) (s : Rst) : Stays s (intR ws col b s).2 := by
  unfold intR
  split
  · dsimp only
    split
    · exact stays_skip ws s
    · exact (stays_fail ws col _ s).trans (stays_skip ws _)
  · exact (stays_fail ws col 3 s).trans (stays_skip ws _)
theorem stays_evRB (k : Int) (s : Rst) : Stays s (evRB ws col en k s).2.2.2 := by
  unfold evRB
  split
  · exact ((((stays_miss ws en s).trans (stays_name ws col _)).trans (stays_miss ws en _)).trans (stays_int ws col _ _))
  · exact fun _ => ⟨rfl, rfl⟩
theorem stays_evRC (s : Rst) : Stays s (evRC ws col en s).2 := (stays_miss ws en s).trans (stays_int ws col _ _)
theorem stays_evRD (vars : List (ByteArray × Int)) (n : Nat) (s : Rst) (l : List (Int × Int)) : Stays s (evRD ws col vars n s l).2 := fun h => by
  cases n with
  | zero => exact ⟨rfl, rfl⟩
  | succ n =>
    unfold evRD moreF
    rw [decide_eq_false h]
    exact ⟨rfl, rfl⟩
theorem stays_pcRD (n : Nat) (s : Rst) (l : List (ByteArray × Int)) : Stays s (pcRD ws col n s l).2 := fun h => by
  cases n with
  | zero => exact ⟨rfl, rfl⟩
  | succ n =>
    unfold pcRD moreF
    rw [decide_eq_false h]
    exact ⟨rfl, rfl⟩
end
section
variable {vars : List (ByteArray × Int)} {ws : List (List UInt8)} {col en : Nat}
theorem nextR_at {i c : Nat} {e : Int} {w : List UInt8} (hw : ws[i]? = some w) : nextR ws ⟨i, e, c⟩ = w ∧ ∀ e c, skipR ws ⟨i, e, c⟩ = ⟨i + 1, e, c⟩ := by
  unfold nextR skipR
  rw [hw]
  exact ⟨rfl, fun e c => by rw [if_pos (List.getElem?_eq_some_iff.1 hw).1]⟩
theorem miss_at {i c : Nat} {w : List UInt8} (hw : ws[i]? = some w) : missR ws en ⟨i, 0, c⟩ = ⟨i, 0, c⟩ := by
  unfold missR
  have := (List.getElem?_eq_some_iff.1 hw).1
  rw [if_neg (by dsimp only; omega)]
theorem miss_end {i c : Nat} (hw : ws[i]? = none) : missR ws en ⟨i, 0, c⟩ = ⟨i, 3, en⟩ := by
  unfold missR
  have := List.getElem?_eq_none_iff.1 hw
  rw [if_pos ⟨this, rfl⟩]
theorem prefix_app (n : List UInt8) (v : List UInt8) : (n ++ [61]).isPrefixOf (n ++ 61 :: v) = true ∧ (n ++ 61 :: v).drop (n ++ [61]).length = v := by
  refine ⟨?_, ?_⟩
  · rw [List.isPrefixOf_iff_prefix]
    exact ⟨v, by simp⟩
  · rw [show n ++ 61 :: v = (n ++ [61]) ++ v by simp]
    exact List.drop_left
theorem pairR_at {i c : Nat} {w : List UInt8} (hw : ws[i]? = some w) : match asgO w with
    | .ok (n, v) => bs (pairR ws col ⟨i, 0, c⟩).1 = n ∧ (pairR ws col ⟨i, 0, c⟩).2 = (v, ⟨i + 1, 0, c⟩)
    | .error e => (pairR ws col ⟨i, 0, c⟩).2.2 = ⟨i + 1, e, col + wsL (ws.take i)⟩ ∧ e ≠ 0 := by
  obtain ⟨h1, h2⟩ := nextR_at (e := 0) (c := c) hw
  have hf : ∀ e, failR ws col e ⟨i, 0, c⟩ = ⟨i, e, col + wsL (ws.take i)⟩ := fun e => by unfold failR; rw [if_pos rfl]; rfl
  unfold asgO pairR
  rw [h1]
  cases hc : cutC 61 w with
  | none =>
    dsimp only
    rw [hf, h2]
    exact ⟨rfl, by simp⟩
  | some x =>
    obtain ⟨n, v⟩ := x
    obtain ⟨rfl, -⟩ := cutC_some hc
    dsimp only
    by_cases hn : nameB (bs n) = true
    · obtain ⟨p1, p2⟩ := prefix_app n v
      have hi : intR ws col (n ++ [61]) ⟨i, 0, c⟩ = (parV v, skipR ws (if parE v = 0 then ⟨i, 0, c⟩ else failR ws col (parE v) ⟨i, 0, c⟩)) := by
        unfold intR
        rw [h1, p1, if_pos rfl, p2]
      rw [if_pos hn, if_pos hn, hi]
      by_cases hp : parE v = 0
      · rw [if_pos hp, if_pos hp, h2]
        exact ⟨rfl, rfl⟩
      · rw [if_neg hp, if_neg hp, hf, h2]
        exact ⟨rfl, hp⟩
    · rw [if_neg hn, if_neg hn, hf, h2]
      exact ⟨rfl, by simp⟩
theorem evRD_plain : ∀ (n i c : Nat) (l : List (Int × Int)) (st : ES), st.k = 4 → st.asg = l → ws.length ≤ n + i →
    match runR vars ws col en st i with
    | .ok S => ∃ s, evRD ws col vars n ⟨i, 0, c⟩ l = (S.asg, s) ∧ s.e = 0 ∧ S = { st with asg := S.asg }
    | .error x => (evRD ws col vars n ⟨i, 0, c⟩ l).2.e = x.1 ∧ (evRD ws col vars n ⟨i, 0, c⟩ l).2.c = x.2 ∧ x.1 ≠ 0
  | 0, i, c, l, st, hk, hl, hn => by
    have h0 : ws[i]? = none := List.getElem?_eq_none_iff.2 (by omega)
    rw [runR_end st h0, if_neg (by omega)]
    exact ⟨_, by rw [hl]; rfl, rfl, rfl⟩
  | n + 1, i, c, l, st, hk, hl, hn => by
    cases hw : ws[i]? with
    | none =>
      rw [runR_end st hw, if_neg (by omega)]
      refine ⟨⟨i, 0, c⟩, ?_, rfl, rfl⟩
      unfold evRD moreF
      have : decide (i < ws.length) = false := decide_eq_false (by have := List.getElem?_eq_none_iff.1 hw; omega)
      dsimp only
      rw [this, Bool.and_false, if_neg (by decide), hl]
    | some w =>
      have hi := (List.getElem?_eq_some_iff.1 hw).1
      rw [runR_step st hw]
      have hst : stepE vars st w (col + wsL (ws.take i)) = match asgO w with
          | .error e => .error e
          | .ok (n, v) => match vIdx n vars with
            | none => .error 13
            | some i => .ok { st with asg := st.asg ++ [((i : Int), v)] } := by
        obtain ⟨k, kind, peer, pcol, msg, time, asg⟩ := st
        dsimp only at hk
        subst hk
        rfl
      rw [hst]
      have hm : moreF ws ⟨i, 0, c⟩ = true := by unfold moreF; simp [hi]
      have ha := pairR_at (col := col) (c := c) hw
      unfold evRD
      rw [hm, if_pos rfl]
      cases hasg : asgO w with
      | error e =>
        rw [hasg] at ha
        dsimp only at ha ⊢
        obtain ⟨h1, h2⟩ := ha
        rw [h1]
        dsimp only
        rw [if_neg h2]
        exact ⟨rfl, rfl, h2⟩
      | ok x =>
        obtain ⟨nm, v⟩ := x
        rw [hasg] at ha
        dsimp only at ha ⊢
        obtain ⟨h1, h2⟩ := ha
        rw [h1, h2]
        dsimp only
        rw [if_pos rfl]
        cases hv : vIdx nm vars with
        | none =>
          dsimp only
          obtain ⟨g1, g2⟩ := stays_evRD ws col vars n ⟨i + 1, 13, colA ws col i⟩ (l ++ [(-1, v)]) (show (13 : Int) ≠ 0 by decide)
          exact ⟨g1, g2, by simp⟩
        | some j =>
          dsimp only
          have := evRD_plain n (i + 1) c (l ++ [((j : Int), v)]) { st with asg := st.asg ++ [((j : Int), v)] } hk (by rw [hl]) (by omega)
          cases hr : runR vars ws col en { st with asg := st.asg ++ [((j : Int), v)] } (i + 1) with
          | error x => rw [hr] at this; exact this
          | ok S => rw [hr] at this; exact this
theorem intR_at {b : List UInt8} {i c : Nat} {w : List UInt8} (hw : ws[i]? = some w) : intR ws col b ⟨i, 0, c⟩ =
    if b.isPrefixOf w then (if parE (w.drop b.length) = 0 then (parV (w.drop b.length), ⟨i + 1, 0, c⟩) else (parV (w.drop b.length), ⟨i + 1, parE (w.drop b.length), col + wsL (ws.take i)⟩)) else (0, ⟨i + 1, 3, col + wsL (ws.take i)⟩) := by
  obtain ⟨h1, h2⟩ := nextR_at (e := 0) (c := c) hw
  have hf : ∀ e, failR ws col e ⟨i, 0, c⟩ = ⟨i, e, col + wsL (ws.take i)⟩ := fun e => by unfold failR; rw [if_pos rfl]; rfl
  unfold intR
  rw [h1, hf, hf]
  split
  · split
    · rw [h2]
    · rw [h2]
  · rw [h2]
theorem evRC_plain (n i c : Nat) (st : ES) (hk : st.k = 3) (ha : st.asg = []) (hn : ws.length ≤ n + i) :
    match runR vars ws col en st i with
    | .ok S => ∃ s, evRD ws col vars n (evRC ws col en ⟨i, 0, c⟩).2 [] = (S.asg, s) ∧ s.e = 0 ∧ S = { st with k := 4, time := (evRC ws col en ⟨i, 0, c⟩).1, asg := S.asg }
    | .error x => (evRD ws col vars n (evRC ws col en ⟨i, 0, c⟩).2 []).2.e = x.1 ∧ (evRD ws col vars n (evRC ws col en ⟨i, 0, c⟩).2 []).2.c = x.2 ∧ x.1 ≠ 0 := by
  cases hw : ws[i]? with
  | none =>
    have hc := ((stays_int ws col [64] ⟨i, 3, en⟩).trans (stays_evRD ws col vars n _ [])) (show (3 : Int) ≠ 0 by decide)
    rw [runR_end st hw, if_pos (by omega)]
    unfold evRC
    rw [miss_end hw]
    exact ⟨hc.1, hc.2, by simp⟩
  | some w =>
    rw [runR_step st hw]
    have hst : stepE vars st w (col + wsL (ws.take i)) = if [64].isPrefixOf w then (if parE (w.drop 1) = 0 then .ok { st with k := 4, time := parV (w.drop 1) } else .error (parE (w.drop 1))) else .error 3 := by
      obtain ⟨k, kind, peer, pcol, msg, time, asg⟩ := st
      dsimp only at hk
      subst hk
      unfold stepE
      dsimp only
      split
      · simp [List.isPrefixOf]
      · rename_i hx
        rw [if_neg]
        cases w with
        | nil => simp [List.isPrefixOf]
        | cons x r =>
          simp only [List.isPrefixOf, Bool.and_true, beq_iff_eq]
          intro e
          exact hx r (by rw [← e])
    rw [hst]
    have hc : evRC ws col en ⟨i, 0, c⟩ = if [64].isPrefixOf w then (if parE (w.drop 1) = 0 then (parV (w.drop 1), ⟨i + 1, 0, c⟩) else (parV (w.drop 1), ⟨i + 1, parE (w.drop 1), col + wsL (ws.take i)⟩)) else (0, ⟨i + 1, 3, col + wsL (ws.take i)⟩) := by
      unfold evRC
      rw [miss_at hw, intR_at hw]
      rfl
    rw [hc]
    by_cases h1 : [64].isPrefixOf w = true
    · rw [if_pos h1, if_pos h1]
      by_cases h2 : parE (w.drop 1) = 0
      · rw [if_pos h2, if_pos h2]
        dsimp only
        have := evRD_plain (vars := vars) (ws := ws) (col := col) (en := en) n (i + 1) c [] { st with k := 4, time := parV (w.drop 1) } rfl ha (by omega)
        cases hr : runR vars ws col en { st with k := 4, time := parV (w.drop 1) } (i + 1) with
        | error x => rw [hr] at this; exact this
        | ok S => rw [hr] at this; exact this
      · rw [if_neg h2, if_neg h2]
        dsimp only
        obtain ⟨g1, g2⟩ := stays_evRD ws col vars n ⟨i + 1, parE (w.drop 1), col + wsL (ws.take i)⟩ [] h2
        exact ⟨g1, g2, h2⟩
    · rw [if_neg h1, if_neg h1]
      dsimp only
      obtain ⟨g1, g2⟩ := stays_evRD ws col vars n ⟨i + 1, 3, col + wsL (ws.take i)⟩ [] (show (3 : Int) ≠ 0 by decide)
      exact ⟨g1, g2, by simp⟩
theorem numR_plain (i c : Nat) (st : ES) (hk : st.k = 2) :
    (∃ c', (intR ws col [] (missR ws en ⟨i, 0, c⟩)).2 = ⟨i + 1, 0, c'⟩ ∧ runR vars ws col en st i = runR vars ws col en { st with k := 3, msg := (intR ws col [] (missR ws en ⟨i, 0, c⟩)).1 } (i + 1)) ∨
    (∃ x, runR vars ws col en st i = .error x ∧ (intR ws col [] (missR ws en ⟨i, 0, c⟩)).2.e = x.1 ∧ (intR ws col [] (missR ws en ⟨i, 0, c⟩)).2.c = x.2 ∧ x.1 ≠ 0) := by
  cases hw : ws[i]? with
  | none =>
    right
    rw [miss_end hw, runR_end st hw, if_pos (by omega)]
    obtain ⟨g1, g2⟩ := stays_int ws col [] ⟨i, 3, en⟩ (show (3 : Int) ≠ 0 by decide)
    exact ⟨_, rfl, g1, g2, by simp⟩
  | some w =>
    rw [miss_at hw, intR_at hw, runR_step st hw]
    have hst : stepE vars st w (col + wsL (ws.take i)) = if parE w = 0 then .ok { st with k := 3, msg := parV w } else .error (parE w) := by
      obtain ⟨k, kind, peer, pcol, msg, time, asg⟩ := st
      dsimp only at hk
      subst hk
      rfl
    rw [hst]
    have hp : ([] : List UInt8).isPrefixOf w = true := by simp [List.isPrefixOf]
    rw [if_pos hp]
    simp only [List.length_nil, List.drop_zero]
    by_cases h2 : parE w = 0
    · left
      rw [if_pos h2, if_pos h2]
      exact ⟨c, rfl, rfl⟩
    · right
      rw [if_neg h2, if_neg h2]
      exact ⟨_, rfl, rfl, rfl, h2⟩
theorem evRB_plain (k : Int) (i c : Nat) (hk : k = 2 ∨ k = 3) :
    (∃ i' c', (evRB ws col en k ⟨i, 0, c⟩).2.2.2 = ⟨i', 0, c'⟩ ∧ i ≤ i' ∧ runR vars ws col en ⟨1, k, bs [], 0, 0, 0, []⟩ i = runR vars ws col en ⟨3, k, bs (evRB ws col en k ⟨i, 0, c⟩).1, (evRB ws col en k ⟨i, 0, c⟩).2.1, (evRB ws col en k ⟨i, 0, c⟩).2.2.1, 0, []⟩ i') ∨
    (∃ x, runR vars ws col en ⟨1, k, bs [], 0, 0, 0, []⟩ i = .error x ∧ (evRB ws col en k ⟨i, 0, c⟩).2.2.2.e = x.1 ∧ (evRB ws col en k ⟨i, 0, c⟩).2.2.2.c = x.2 ∧ x.1 ≠ 0) := by
  unfold evRB
  rw [if_pos hk]
  dsimp only
  cases hw : ws[i]? with
  | none =>
    right
    rw [miss_end hw, runR_end _ hw]
    have h := (((stays_name ws col ⟨i, 3, en⟩).trans (stays_miss ws en _)).trans (stays_int ws col [] _)) (show (3 : Int) ≠ 0 by decide)
    exact ⟨_, rfl, h.1, h.2, by simp⟩
  | some w =>
    obtain ⟨k1, k2⟩ := nextR_at (e := 0) (c := c) hw
    have hf : ∀ e, failR ws col e ⟨i, 0, c⟩ = ⟨i, e, col + wsL (ws.take i)⟩ := fun e => by unfold failR; rw [if_pos rfl]; rfl
    rw [miss_at hw, runR_step _ hw]
    have hst : stepE vars ⟨1, k, bs [], 0, 0, 0, []⟩ w (col + wsL (ws.take i)) = if nameB (bs w) then .ok ⟨2, k, bs w, col + wsL (ws.take i), 0, 0, []⟩ else .error 3 := rfl
    rw [hst]
    by_cases h1 : nameB (bs w) = true
    · have hn : nameR ws col ⟨i, 0, c⟩ = (w, ⟨i + 1, 0, c⟩) := by unfold nameR; rw [k1, if_pos h1, k2]
      rw [hn, if_pos h1]
      dsimp only
      rcases numR_plain (vars := vars) (ws := ws) (col := col) (en := en) (i + 1) c ⟨2, k, bs w, col + wsL (ws.take i), 0, 0, []⟩ rfl with ⟨c', g1, g2⟩ | ⟨x, g1, g2⟩
      · exact .inl ⟨i + 1 + 1, c', g1, by omega, g2⟩
      · exact .inr ⟨x, g1, g2⟩
    · right
      have hn : nameR ws col ⟨i, 0, c⟩ = (w, ⟨i + 1, 3, col + wsL (ws.take i)⟩) := by unfold nameR; rw [k1, if_neg h1, hf, k2]
      rw [hn, if_neg h1]
      dsimp only
      have h := ((stays_miss ws en ⟨i + 1, 3, col + wsL (ws.take i)⟩).trans (stays_int ws col [] _)) (show (3 : Int) ≠ 0 by decide)
      exact ⟨_, rfl, h.1, h.2, by simp⟩
end
def evR (vars : List (ByteArray × Int)) (ws : List (List UInt8)) (col en : Nat) (n : Nat) (s0 : Rst) : EvF :=
  let a := evRA ws col s0
  let b := evRB ws col en a.1 a.2
  let c := evRC ws col en b.2.2.2
  let d := evRD ws col vars n c.2 []
  ⟨a.1, b.1, b.2.1, b.2.2.1, c.1, d.1, d.2⟩
theorem rEvent_plain (vars : List (ByteArray × Int)) (line : List UInt8) (col n : Nat) (hn : (spl 32 line).length ≤ n) :
    match evL vars line col with
    | .ok S => (evR vars (spl 32 line) col (col + line.length) n ⟨0, 0, 0⟩).s.e = 0 ∧ S.kind = (evR vars (spl 32 line) col (col + line.length) n ⟨0, 0, 0⟩).kind ∧ S.peer = bs (evR vars (spl 32 line) col (col + line.length) n ⟨0, 0, 0⟩).peer ∧
      S.pcol = (evR vars (spl 32 line) col (col + line.length) n ⟨0, 0, 0⟩).pcol ∧ S.msg = (evR vars (spl 32 line) col (col + line.length) n ⟨0, 0, 0⟩).msg ∧ S.time = (evR vars (spl 32 line) col (col + line.length) n ⟨0, 0, 0⟩).time ∧
      S.asg = (evR vars (spl 32 line) col (col + line.length) n ⟨0, 0, 0⟩).asg
    | .error x => (evR vars (spl 32 line) col (col + line.length) n ⟨0, 0, 0⟩).s.e = x.1 ∧ (evR vars (spl 32 line) col (col + line.length) n ⟨0, 0, 0⟩).s.c = x.2 ∧ x.1 ≠ 0 := by
  have hR : evL vars line col = runR vars (spl 32 line) col (col + line.length) es0 0 := rfl
  rw [hR]
  generalize hen : col + line.length = en
  obtain ⟨w, r, hws⟩ := spl_cons 32 line
  generalize spl 32 line = ws at *
  have hw : ws[0]? = some w := by rw [hws]; rfl
  rw [runR_step es0 hw]
  have hst : stepE vars es0 w (col + wsL (ws.take 0)) = if kindF w = 0 then .error 3 else .ok ⟨if kindF w = 1 then 3 else 1, kindF w, bs [], 0, 0, 0, []⟩ := by
    unfold stepE kindF
    dsimp only [es0]
    by_cases h1 : w = wLocal
    · rw [if_pos h1, if_pos h1]; rfl
    · rw [if_neg h1, if_neg h1]
      by_cases h2 : w = wSend
      · rw [if_pos h2, if_pos h2]; rfl
      · rw [if_neg h2, if_neg h2]
        by_cases h3 : w = wReceive
        · rw [if_pos h3, if_pos h3]; rfl
        · rw [if_neg h3, if_neg h3]; rfl
  rw [hst]
  obtain ⟨k1, k2⟩ := nextR_at (e := 0) (c := 0) hw
  unfold evR
  dsimp only
  have hA : evRA ws col ⟨0, 0, 0⟩ = (kindF w, if kindF w = 0 then ⟨1, 3, col + wsL (ws.take 0)⟩ else ⟨1, 0, 0⟩) := by
    unfold evRA
    rw [k1]
    split
    · unfold failR; rw [if_pos rfl, k2]; rfl
    · rw [k2]
  rw [hA]
  dsimp only
  by_cases hk0 : kindF w = 0
  · rw [if_pos hk0, if_pos hk0]
    have h := (((stays_evRB ws col en (kindF w) ⟨1, 3, col + wsL (ws.take 0)⟩).trans (stays_evRC ws col en _)).trans (stays_evRD ws col vars n _ [])) (show (3 : Int) ≠ 0 by decide)
    exact ⟨h.1, h.2, by simp⟩
  · rw [if_neg hk0, if_neg hk0]
    dsimp only
    by_cases hk1 : kindF w = 1
    · rw [hk1, if_pos rfl]
      have hB : evRB ws col en 1 ⟨1, 0, 0⟩ = ([], 0, 0, ⟨1, 0, 0⟩) := by unfold evRB; rw [if_neg (by decide)]
      rw [hB]
      dsimp only
      have := evRC_plain (vars := vars) (ws := ws) (col := col) (en := en) n 1 0 ⟨3, 1, bs [], 0, 0, 0, []⟩ rfl rfl (by omega)
      cases hr : runR vars ws col en ⟨3, 1, bs [], 0, 0, 0, []⟩ (0 + 1) with
      | error x =>
        rw [hr] at this
        exact this
      | ok S =>
        rw [hr] at this
        obtain ⟨s, g1, g2, g3⟩ := this
        rw [g1]
        rw [g3]
        exact ⟨g2, rfl, rfl, rfl, rfl, rfl, rfl⟩
    · rw [if_neg hk1]
      have hk : kindF w = 2 ∨ kindF w = 3 := by
        unfold kindF at hk0 hk1 ⊢
        split
        · rename_i h; rw [if_pos h] at hk1; exact absurd rfl hk1
        · split
          · exact .inl rfl
          · split
            · exact .inr rfl
            · rename_i h1 h2 h3
              rw [if_neg h1, if_neg h2, if_neg h3] at hk0
              exact absurd rfl hk0
      rcases evRB_plain (vars := vars) (ws := ws) (col := col) (en := en) (kindF w) 1 0 hk with ⟨i', c', g1, g2, g3⟩ | ⟨x, g1, g2, g3, g4⟩
      · rw [show (0 + 1 : Nat) = 1 from rfl, g3, g1]
        have := evRC_plain (vars := vars) (ws := ws) (col := col) (en := en) n i' c' ⟨3, kindF w, bs (evRB ws col en (kindF w) ⟨1, 0, 0⟩).1, (evRB ws col en (kindF w) ⟨1, 0, 0⟩).2.1, (evRB ws col en (kindF w) ⟨1, 0, 0⟩).2.2.1, 0, []⟩ rfl rfl (by omega)
        cases hr : runR vars ws col en ⟨3, kindF w, bs (evRB ws col en (kindF w) ⟨1, 0, 0⟩).1, (evRB ws col en (kindF w) ⟨1, 0, 0⟩).2.1, (evRB ws col en (kindF w) ⟨1, 0, 0⟩).2.2.1, 0, []⟩ i' with
        | error x =>
          rw [hr] at this
          exact this
        | ok S =>
          rw [hr] at this
          obtain ⟨s, k1, k2, k3⟩ := this
          rw [k1]
          rw [k3]
          exact ⟨k2, rfl, rfl, rfl, rfl, rfl, rfl⟩
      · rw [show (0 + 1 : Nat) = 1 from rfl, g1]
        have hd : (evRB ws col en (kindF w) ⟨1, 0, 0⟩).2.2.2.e ≠ 0 := by rw [g2]; exact g4
        have h := ((stays_evRC ws col en _).trans (stays_evRD ws col vars n _ [])) hd
        exact ⟨h.1.trans g2, h.2.trans g3, g4⟩
def pcR (ws : List (List UInt8)) (en : Nat) (n : Nat) (s0 : Rst) : PcF :=
  let b := nameR ws 1 (missR ws en (pcRA ws 1 s0))
  let d := pcRD ws 1 n b.2 []
  ⟨b.1, d.1, d.2⟩
theorem pcRD_plain {ws : List (List UInt8)} {en : Nat} : ∀ (n i c : Nat) (l : List (ByteArray × Int)) (st : PS), st.k = 2 → st.vars = l → ws.length ≤ n + i →
    match runP ws en st i with
    | .ok S => ∃ s, pcRD ws 1 n ⟨i, 0, c⟩ l = (S.vars, s) ∧ s.e = 0 ∧ S = { st with vars := S.vars }
    | .error x => (pcRD ws 1 n ⟨i, 0, c⟩ l).2.e = x.1 ∧ (pcRD ws 1 n ⟨i, 0, c⟩ l).2.c = x.2 ∧ x.1 ≠ 0
  | 0, i, c, l, st, hk, hl, hn => by
    have h0 : ws[i]? = none := List.getElem?_eq_none_iff.2 (by omega)
    rw [runP_end st h0, if_neg (by omega)]
    exact ⟨_, by rw [hl]; rfl, rfl, rfl⟩
  | n + 1, i, c, l, st, hk, hl, hn => by
    cases hw : ws[i]? with
    | none =>
      rw [runP_end st hw, if_neg (by omega)]
      refine ⟨⟨i, 0, c⟩, ?_, rfl, rfl⟩
      unfold pcRD moreF
      have : decide (i < ws.length) = false := decide_eq_false (by have := List.getElem?_eq_none_iff.1 hw; omega)
      dsimp only
      rw [this, Bool.and_false, if_neg (by decide), hl]
    | some w =>
      have hi := (List.getElem?_eq_some_iff.1 hw).1
      rw [runP_step st hw]
      have hst : stepP st w (1 + wsL (ws.take i)) = match asgO w with
          | .error e => .error e
          | .ok x => .ok { st with vars := st.vars ++ [x] } := by
        obtain ⟨k, name, vars⟩ := st
        dsimp only at hk
        subst hk
        rfl
      rw [hst]
      have hm : moreF ws ⟨i, 0, c⟩ = true := by unfold moreF; simp [hi]
      have ha := pairR_at (col := 1) (c := c) hw
      unfold pcRD
      rw [hm, if_pos rfl]
      cases hasg : asgO w with
      | error e =>
        rw [hasg] at ha
        dsimp only at ha ⊢
        obtain ⟨h1, h2⟩ := ha
        rw [h1]
        obtain ⟨g1, g2⟩ := stays_pcRD ws 1 n ⟨i + 1, e, 1 + wsL (ws.take i)⟩ (l ++ [(bs (pairR ws 1 ⟨i, 0, c⟩).1, (pairR ws 1 ⟨i, 0, c⟩).2.1)]) h2
        exact ⟨g1, g2, h2⟩
      | ok x =>
        obtain ⟨nm, v⟩ := x
        rw [hasg] at ha
        dsimp only at ha ⊢
        obtain ⟨h1, h2⟩ := ha
        rw [h1, h2]
        dsimp only
        have := pcRD_plain (ws := ws) (en := en) n (i + 1) c (l ++ [(nm, v)]) { st with vars := st.vars ++ [(nm, v)] } hk (by rw [hl]) (by omega)
        cases hr : runP ws en { st with vars := st.vars ++ [(nm, v)] } (i + 1) with
        | error x => rw [hr] at this; exact this
        | ok S => rw [hr] at this; exact this
theorem rProcess_plain (text : List UInt8) (n : Nat) (hn : (spl 32 text).length ≤ n) :
    match pcL text with
    | .ok S => (pcR (spl 32 text) (1 + text.length) n ⟨0, 0, 0⟩).s.e = 0 ∧ S.name = bs (pcR (spl 32 text) (1 + text.length) n ⟨0, 0, 0⟩).name ∧ S.vars = (pcR (spl 32 text) (1 + text.length) n ⟨0, 0, 0⟩).vars
    | .error x => (pcR (spl 32 text) (1 + text.length) n ⟨0, 0, 0⟩).s.e = x.1 ∧ (pcR (spl 32 text) (1 + text.length) n ⟨0, 0, 0⟩).s.c = x.2 ∧ x.1 ≠ 0 := by
  have hR : pcL text = runP (spl 32 text) (1 + text.length) ps0 0 := rfl
  rw [hR]
  generalize hen : 1 + text.length = en
  obtain ⟨w, r, hws⟩ := spl_cons 32 text
  generalize spl 32 text = ws at *
  have hw : ws[0]? = some w := by rw [hws]; rfl
  rw [runP_step ps0 hw]
  have hst : stepP ps0 w (1 + wsL (ws.take 0)) = if w = wProcess then .ok ⟨1, bs [], []⟩ else .error 3 := rfl
  obtain ⟨k1, k2⟩ := nextR_at (e := 0) (c := 0) hw
  have hA : pcRA ws 1 ⟨0, 0, 0⟩ = if w = wProcess then ⟨1, 0, 0⟩ else ⟨1, 3, 1 + wsL (ws.take 0)⟩ := by
    unfold pcRA
    rw [k1]
    split
    · rw [k2]
    · unfold failR; rw [if_pos rfl, k2]; rfl
  unfold pcR
  dsimp only
  rw [hst, hA]
  by_cases h0 : w = wProcess
  · rw [if_pos h0, if_pos h0]
    dsimp only
    cases hv : ws[1]? with
    | none =>
      rw [miss_end hv, runP_end _ hv]
      have h := ((stays_name ws 1 ⟨1, 3, en⟩).trans (stays_pcRD ws 1 n _ [])) (show (3 : Int) ≠ 0 by decide)
      exact ⟨h.1, h.2, by simp⟩
    | some v =>
      obtain ⟨j1, j2⟩ := nextR_at (e := 0) (c := 0) hv
      rw [miss_at hv, runP_step _ hv]
      have hst2 : stepP ⟨1, bs [], []⟩ v (1 + wsL (ws.take 1)) = if nameB (bs v) then .ok ⟨2, bs v, []⟩ else .error 3 := rfl
      rw [hst2]
      by_cases h1 : nameB (bs v) = true
      · have hb : nameR ws 1 ⟨1, 0, 0⟩ = (v, ⟨2, 0, 0⟩) := by unfold nameR; rw [j1, if_pos h1, j2]
        rw [hb, if_pos h1]
        dsimp only
        have := pcRD_plain (ws := ws) (en := en) n 2 0 [] ⟨2, bs v, []⟩ rfl rfl (by omega)
        cases hr : runP ws en ⟨2, bs v, []⟩ (1 + 1) with
        | error x =>
          rw [hr] at this
          exact this
        | ok S =>
          rw [hr] at this
          obtain ⟨s, k1, k2, k3⟩ := this
          rw [k1]
          rw [k3]
          exact ⟨k2, rfl, rfl⟩
      · have hb : nameR ws 1 ⟨1, 0, 0⟩ = (v, ⟨2, 3, 1 + wsL (ws.take 1)⟩) := by
          unfold nameR
          rw [j1, if_neg h1]
          unfold failR
          rw [if_pos rfl, j2]
          rfl
        rw [hb, if_neg h1]
        dsimp only
        have h := stays_pcRD ws 1 n ⟨2, 3, 1 + wsL (ws.take 1)⟩ [] (show (3 : Int) ≠ 0 by decide)
        exact ⟨h.1, h.2, by simp⟩
  · rw [if_neg h0, if_neg h0]
    have h := (((stays_miss ws en ⟨1, 3, 1 + wsL (ws.take 0)⟩).trans (stays_name ws 1 _)).trans (stays_pcRD ws 1 n _ [])) (show (3 : Int) ≠ 0 by decide)
    exact ⟨h.1, h.2, by simp⟩
end Go.Proofs.YtpmponafjhnegaaGreatDoor
