/-
  The line of a process, as the reader of words takes it, plain.
  Conditions: as each theorem says.
-/
import Derived.Test.YtpmponafjhnegaaGreatDoorLh
namespace Go.Proofs.YtpmponafjhnegaaGreatDoor
open Nu
section
variable (ws : List (List UInt8)) (cs : List Nat) (en : Nat)
def pcD : Nat → Rst → List (ByteArray × Int) → List (ByteArray × Int) × Rst
  | 0, s, l => (l, s)
  | n + 1, s, l => if moreF ws s then pcD n (asgF ws cs en s).2.2 (l ++ [(bs (asgF ws cs en s).1, (asgF ws cs en s).2.1)]) else (l, s)
def pcA (s : Rst) : Rst := if (wordF ws en s).1 = wProcess then (wordF ws en s).2 else failF cs 3 (wordF ws en s).2
theorem pcD_dead {s : Rst} (n : Nat) (l : List (ByteArray × Int)) (h : s.e ≠ 0) : pcD ws cs en n s l = (l, s) := by
  cases n with
  | zero => rfl
  | succ n =>
    unfold pcD moreF
    rw [decide_eq_false h]
    rfl
end
/-- a process as the program reads it -/
structure PcF where
  name : List UInt8
  vars : List (ByteArray × Int)
  s : Rst
def pcF (ws : List (List UInt8)) (cs : List Nat) (en : Nat) (n : Nat) (s0 : Rst) : PcF :=
  let b := nameF ws cs en (pcA ws cs en s0)
  let d := pcD ws cs en n b.2 []
  ⟨b.1, d.1, d.2⟩
def runP (ws : List (List UInt8)) (en : Nat) (st : PS) (i : Nat) : Except (Int × Nat) PS :=
  match runW stepP st (ws.drop i) (1 + wsL (ws.take i)) with
  | .error x => .error x
  | .ok s => if s.k < 2 then .error (3, en) else .ok s
theorem runP_step {ws : List (List UInt8)} {en : Nat} {i : Nat} {w : List UInt8} (st : PS) (h : ws[i]? = some w) :
    runP ws en st i = match stepP st w (1 + wsL (ws.take i)) with | .error e => .error (e, 1 + wsL (ws.take i)) | .ok st' => runP ws en st' (i + 1) := by
  obtain ⟨h1, h2⟩ := wsL_take h
  unfold runP
  rw [h1, h2]
  conv => lhs; unfold runW
  cases stepP st w (1 + wsL (ws.take i)) with
  | error e => rfl
  | ok st' => dsimp only; rw [show 1 + (wsL (ws.take i) + w.length + 1) = 1 + wsL (ws.take i) + w.length + 1 by omega]
theorem runP_end {ws : List (List UInt8)} {en : Nat} {i : Nat} (st : PS) (h : ws[i]? = none) : runP ws en st i = if st.k < 2 then .error (3, en) else .ok st := by
  unfold runP
  rw [List.drop_eq_nil_iff.2 (List.getElem?_eq_none_iff.1 h)]
  rfl
section
variable {ws : List (List UInt8)} {en : Nat}
theorem pcD_plain : ∀ (n i c : Nat) (l : List (ByteArray × Int)) (st : PS), st.k = 2 → st.vars = l → ws.length ≤ n + i →
    match runP ws en st i with
    | .ok S => ∃ s, pcD ws (colF 1 ws) en n ⟨i, 0, c⟩ l = (S.vars, s) ∧ s.e = 0 ∧ S = { st with vars := S.vars }
    | .error x => (pcD ws (colF 1 ws) en n ⟨i, 0, c⟩ l).2.e = x.1 ∧ (pcD ws (colF 1 ws) en n ⟨i, 0, c⟩ l).2.c = x.2 ∧ x.1 ≠ 0
  | 0, i, c, l, st, hk, hl, hn => by
    have h0 : ws[i]? = none := List.getElem?_eq_none_iff.2 (by omega)
    rw [runP_end st h0, if_neg (by omega)]
    exact ⟨_, by rw [hl]; rfl, rfl, rfl⟩
  | n + 1, i, c, l, st, hk, hl, hn => by
    cases hw : ws[i]? with
    | none =>
      rw [runP_end st hw, if_neg (by omega)]
      refine ⟨⟨i, 0, c⟩, ?_, rfl, rfl⟩
      unfold pcD moreF
      have : decide (i < ws.length) = false := decide_eq_false (by have := List.getElem?_eq_none_iff.1 hw; omega)
      dsimp only
      rw [this, Bool.and_false, if_neg (by decide), hl]
    | some w =>
      have hi := (List.getElem?_eq_some_iff.1 hw).1
      rw [runP_step st hw]
      have hst : stepP st w (1 + wsL (ws.take i)) = match asgO w with
          | .error e => .error e
          | .ok x => .ok { st with vars := st.vars ++ [x] } := by
        obtain ⟨k, name, vars⟩ := st
        dsimp only at hk
        subst hk
        rfl
      rw [hst]
      have hm : moreF ws ⟨i, 0, c⟩ = true := by unfold moreF; simp [hi]
      have ha := asgF_at (col := 1) (en := en) (c := c) hw
      unfold pcD
      rw [hm, if_pos rfl]
      cases hasg : asgO w with
      | error e =>
        rw [hasg] at ha
        dsimp only at ha ⊢
        obtain ⟨h1, h2⟩ := ha
        rw [h1, pcD_dead ws _ en n _ h2]
        exact ⟨rfl, rfl, h2⟩
      | ok x =>
        obtain ⟨nm, v⟩ := x
        rw [hasg] at ha
        dsimp only at ha ⊢
        obtain ⟨h1, h2⟩ := ha
        rw [h1, h2]
        dsimp only
        have := pcD_plain n (i + 1) c (l ++ [(nm, v)]) { st with vars := st.vars ++ [(nm, v)] } hk (by rw [hl]) (by omega)
        cases hr : runP ws en { st with vars := st.vars ++ [(nm, v)] } (i + 1) with
        | error x => rw [hr] at this; exact this
        | ok S => rw [hr] at this; exact this
end
theorem process_plain (text : List UInt8) (n : Nat) (hn : (spl 32 text).length ≤ n) :
    match pcL text with
    | .ok S => (pcF (spl 32 text) (colF 1 (spl 32 text)) (1 + text.length) n ⟨0, 0, 0⟩).s.e = 0 ∧ S.name = bs (pcF (spl 32 text) (colF 1 (spl 32 text)) (1 + text.length) n ⟨0, 0, 0⟩).name ∧ S.vars = (pcF (spl 32 text) (colF 1 (spl 32 text)) (1 + text.length) n ⟨0, 0, 0⟩).vars
    | .error x => (pcF (spl 32 text) (colF 1 (spl 32 text)) (1 + text.length) n ⟨0, 0, 0⟩).s.e = x.1 ∧ (pcF (spl 32 text) (colF 1 (spl 32 text)) (1 + text.length) n ⟨0, 0, 0⟩).s.c = x.2 ∧ x.1 ≠ 0 := by
  have hR : pcL text = runP (spl 32 text) (1 + text.length) ps0 0 := rfl
  rw [hR]
  generalize hen : 1 + text.length = en
  obtain ⟨w, r, hws⟩ := spl_cons 32 text
  generalize spl 32 text = ws at *
  have hw : ws[0]? = some w := by rw [hws]; rfl
  have hlen : 0 < ws.length := by rw [hws]; simp
  rw [runP_step ps0 hw]
  have hst : stepP ps0 w (1 + wsL (ws.take 0)) = if w = wProcess then .ok ⟨1, bs [], []⟩ else .error 3 := rfl
  have hc0 : (colF 1 ws).getD (0 + 1 - 1) 0 = 1 + wsL (ws.take 0) := col_at hlen
  have hA : pcA ws (colF 1 ws) en ⟨0, 0, 0⟩ = if w = wProcess then ⟨1, 0, 0⟩ else ⟨1, 3, 1 + wsL (ws.take 0)⟩ := by
    unfold pcA
    rw [word_at ws en rfl hw]
    unfold failF
    dsimp only
    rw [if_pos rfl, hc0]
  unfold pcF
  dsimp only
  rw [hst, hA]
  by_cases h0 : w = wProcess
  · rw [if_pos h0, if_pos h0]
    dsimp only
    cases hv : ws[1]? with
    | none =>
      have hb : nameF ws (colF 1 ws) en ⟨1, 0, 0⟩ = ([], ⟨1, 3, en⟩) := by unfold nameF; rw [word_end ws en rfl hv, if_neg (by simp)]
      rw [hb, runP_end _ hv]
      dsimp only
      rw [pcD_dead ws _ en n _ (show (3 : Int) ≠ 0 by decide)]
      exact ⟨rfl, rfl, by simp⟩
    | some v =>
      have hi := (List.getElem?_eq_some_iff.1 hv).1
      rw [runP_step _ hv]
      have hst2 : stepP ⟨1, bs [], []⟩ v (1 + wsL (ws.take 1)) = if nameB (bs v) then .ok ⟨2, bs v, []⟩ else .error 3 := rfl
      rw [hst2]
      by_cases h1 : nameB (bs v) = true
      · have hb : nameF ws (colF 1 ws) en ⟨1, 0, 0⟩ = (v, ⟨2, 0, 0⟩) := by unfold nameF; rw [word_at ws en rfl hv, if_pos rfl, if_pos h1]
        rw [hb, if_pos h1]
        dsimp only
        have := pcD_plain (ws := ws) (en := en) n 2 0 [] ⟨2, bs v, []⟩ rfl rfl (by omega)
        cases hr : runP ws en ⟨2, bs v, []⟩ (1 + 1) with
        | error x =>
          rw [hr] at this
          exact this
        | ok S =>
          rw [hr] at this
          obtain ⟨s, k1, k2, k3⟩ := this
          rw [k1]
          rw [k3]
          exact ⟨k2, rfl, rfl⟩
      · have hb : nameF ws (colF 1 ws) en ⟨1, 0, 0⟩ = (v, ⟨2, 3, 1 + wsL (ws.take 1)⟩) := by
          unfold nameF
          rw [word_at ws en rfl hv, if_pos rfl, if_neg h1]
          unfold failF
          dsimp only
          rw [if_pos rfl, Nat.add_sub_cancel, col_at hi]
        rw [hb, if_neg h1]
        dsimp only
        rw [pcD_dead ws _ en n _ (show (3 : Int) ≠ 0 by decide)]
        exact ⟨rfl, rfl, by simp⟩
  · rw [if_neg h0, if_neg h0]
    have hb : nameF ws (colF 1 ws) en ⟨1, 3, 1 + wsL (ws.take 0)⟩ = ([], ⟨1, 3, 1 + wsL (ws.take 0)⟩) := name_dead ws _ en (show (3 : Int) ≠ 0 by decide)
    rw [hb]
    dsimp only
    rw [pcD_dead ws _ en n _ (show (3 : Int) ≠ 0 by decide)]
    exact ⟨rfl, rfl, by simp⟩
end Go.Proofs.YtpmponafjhnegaaGreatDoor
