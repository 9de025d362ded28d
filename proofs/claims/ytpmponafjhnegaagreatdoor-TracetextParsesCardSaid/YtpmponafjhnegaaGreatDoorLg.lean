/-
  A text, one sign of which has been changed to one below ten: the fault stands in this line, plain.
  Conditions: as each theorem says.
-/
import Derived.Test.YtpmponafjhnegaaGreatDoorLf
namespace Go.Proofs.YtpmponafjhnegaaGreatDoor
open Nu
theorem pcL_first {w : List UInt8} {r : List UInt8} (h : (32 : UInt8) ∉ w) (hw : w ≠ wProcess) : pcL (w ++ 32 :: r) = .error (3, 1) := by
  unfold pcL
  rw [spl_app r h]
  unfold runW stepP
  dsimp only [ps0]
  rw [if_neg hw]
theorem lineX_bad {n : Nat} {ps ps' : List RP} {u v : List UInt8} {b c : UInt8} (hc : c.toNat < 10) (h : lineX n ps (u ++ b :: v) = .ok ps') : ∃ k, lineX n ps (u ++ c :: v) = .error (3, k) ∧ 1 ≤ k ∧ k ≤ u.length + 1 := by
  have c32 : c ≠ 32 := fun e => by rw [e] at hc; exact absurd hc (by decide)
  unfold lineX at h
  cases hb : body (u ++ b :: v) with
  | some bd =>
    have hbd := body_some hb
    rw [hb] at h
    dsimp only at h
    match u, hbd with
    | [], hbd =>
      obtain ⟨rfl, rfl⟩ : b = 32 ∧ v = 32 :: bd := by simpa using hbd
      have hn : body (c :: 32 :: bd) = none := by
        unfold body
        split
        · rename_i e; injection e with e; exact absurd e c32
        · rfl
      refine ⟨1, ?_, by omega, by simp⟩
      show lineX n ps (c :: 32 :: bd) = _
      unfold lineX
      rw [hn]
      dsimp only
      rw [show c :: 32 :: bd = [c] ++ 32 :: bd from rfl, pcL_first (by simpa using fun e => c32 e.symm) (by intro e; simp [wProcess] at e)]
    | [x], hbd =>
      obtain ⟨rfl, rfl, rfl⟩ : x = 32 ∧ b = 32 ∧ v = bd := by simpa using hbd
      have hn : body (32 :: c :: v) = none := by
        unfold body
        split
        · rename_i e; injection e with _ e; injection e with e; exact absurd e c32
        · rfl
      refine ⟨1, ?_, by omega, by simp⟩
      show lineX n ps (32 :: c :: v) = _
      unfold lineX
      rw [hn]
      dsimp only
      rw [show 32 :: c :: v = [] ++ 32 :: c :: v from rfl, pcL_first (by simp) (by intro e; simp [wProcess] at e)]
    | x :: y :: u, hbd =>
      obtain ⟨rfl, rfl, rfl⟩ : x = 32 ∧ y = 32 ∧ u ++ b :: v = bd := by simpa using hbd
      have hn : body (32 :: 32 :: u ++ c :: v) = some (u ++ c :: v) := rfl
      unfold lineX
      rw [hn]
      dsimp only
      cases hg : ps.getLast? with
      | none => rw [hg] at h; cases h
      | some p =>
        rw [hg] at h
        dsimp only at h ⊢
        cases he : evL p.vars (u ++ b :: v) 3 with
        | error x => rw [he] at h; cases h
        | ok s =>
          unfold evL at he ⊢
          cases hr : runW (stepE p.vars) es0 (spl 32 (u ++ b :: v)) 3 with
          | error x => rw [hr] at he; cases he
          | ok s1 =>
            obtain ⟨k, h1, h2, h3⟩ := bad_run (fun s w col hw => bad_step p.vars s col hw) hc hr
            rw [h1]
            exact ⟨k, rfl, by omega, by simp; omega⟩
  | none =>
    rw [hb] at h
    dsimp only at h
    have hn : body (u ++ c :: v) = none := by
      cases hb2 : body (u ++ c :: v) with
      | none => rfl
      | some bd =>
        have hbd := body_some hb2
        match u, hbd with
        | [], hbd => injection hbd with e; exact absurd e c32
        | [x], hbd => injection hbd with _ e; injection e with e; exact absurd e c32
        | x :: y :: u, hbd =>
          obtain ⟨rfl, rfl, -⟩ : x = 32 ∧ y = 32 ∧ u ++ c :: v = bd := by simpa using hbd
          cases hb
    unfold lineX
    rw [hn]
    dsimp only
    cases he : pcL (u ++ b :: v) with
    | error x => rw [he] at h; cases h
    | ok s =>
      unfold pcL at he ⊢
      cases hr : runW stepP ps0 (spl 32 (u ++ b :: v)) 1 with
      | error x => rw [hr] at he; cases he
      | ok s1 =>
        obtain ⟨k, h1, h2, h3⟩ := bad_run (fun s w col hw => bad_stepP s col hw) hc hr
        rw [h1]
        exact ⟨k, rfl, by omega, by omega⟩
theorem spl_count (c : UInt8) (l : List UInt8) : (spl c l).length = l.count c + 1 := by
  induction l with
  | nil => rfl
  | cons b r ih =>
    rw [spl_eq]
    obtain ⟨w, ws, h⟩ := spl_cons c r
    rw [h] at ih ⊢
    by_cases hb : b = c
    · subst hb
      rw [if_pos rfl, List.count_cons_self, List.length_cons, ih]
    · rw [if_neg hb, List.count_cons_of_ne (fun e => hb e)]
      simpa using ih
/-- the text of a trace with a sign put into it -/
theorem parse_bad {t : List Pr} (h : (faultO t).2 = 0) {pre post : List UInt8} {b c : UInt8} (hw : wTr t = pre ++ b :: post) (hl : (wTr t).length ≤ 16384) (hb : b ≠ 10) (hc : c.toNat < 10) :
    ∃ k, parseT (pre ++ c :: post) = .error (3, 1 + pre.count 10, k) ∧ 1 ≤ k ∧ k ≤ pre.length + 1 := by
  have c10 : c ≠ 10 := fun e => by rw [e] at hc; exact absurd hc (by decide)
  obtain ⟨ps, u, v, vs, h1, h2, h3⟩ := spl_mid hb pre post
  obtain ⟨ps', u', v', vs', h1', h2', h3'⟩ := spl_mid c10 pre post
  obtain ⟨rfl, hu⟩ : ps' = ps ∧ [u'] = [u] := List.append_inj' (h1'.symm.trans h1) rfl
  obtain rfl : u' = u := by simpa using hu
  rw [h2] at h2'
  obtain ⟨rfl, rfl⟩ : v = v' ∧ vs = vs' := by simpa using h2'
  have hs := spl_tr h
  rw [hw, h3] at hs
  have hvs : vs ≠ [] := fun e => by
    subst e
    have := congrArg List.getLast? hs
    rw [List.getLast?_concat, List.getLast?_concat] at this
    simp at this
  obtain ⟨ws, last, rfl⟩ : ∃ ws last, vs = ws ++ [last] := ⟨_, _, (List.dropLast_concat_getLast hvs).symm⟩
  have hs2 : (ps' ++ (u' ++ b :: v) :: ws) ++ [last] = trLn t t ++ [[]] := by simpa using hs
  obtain ⟨hs3, hs4⟩ := List.append_inj' hs2 rfl
  obtain rfl : last = [] := by simpa using hs4
  have hr := linesR_tr t t 1 [] (good_all h)
  rw [← hs3, linesR_app] at hr
  cases hp : linesR 1 [] ps' with
  | error x => rw [hp] at hr; cases hr
  | ok ps1 =>
    rw [hp] at hr
    dsimp only at hr
    unfold linesR at hr
    cases hx : lineX (1 + ps'.length) ps1 (u' ++ b :: v) with
    | error x => rw [hx] at hr; cases hr
    | ok ps2 =>
      obtain ⟨k, k1, k2, k3⟩ := lineX_bad hc hx
      have hlen : (pre ++ c :: post).length = (wTr t).length := by rw [hw]; simp
      have hcnt := spl_count 10 pre
      rw [h1, List.length_append] at hcnt
      have hul := spl_len 10 pre h1
      refine ⟨k, ?_, k2, by omega⟩
      unfold parseT
      rw [if_neg (by omega), h3', show ps' ++ (u' ++ c :: v) :: (ws ++ [[]]) = (ps' ++ (u' ++ c :: v) :: ws) ++ [[]] by simp, linesX_R, linesR_app, hp]
      dsimp only
      unfold linesR
      rw [k1]
      dsimp only
      rw [show ps'.length = List.count 10 pre by simpa using hcnt]
end Go.Proofs.YtpmponafjhnegaaGreatDoor
