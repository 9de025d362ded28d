/-
  The parser, state by state, against the parser as a plain function.
  Conditions: none. Plain, no program in sight.
-/
import Derived.Test.YthjalkonlcjhnaaGreatDoorQd
namespace Go.Proofs.YthjalkonlcjhnaaGreatDoor
open Go.RowKit
/-- the state n words behind s, without an error -/
def St.at (s : St) (n : Nat) : St := ⟨s.ws.drop n, 0, s.p⟩
/-- the state at the wrong word, n words behind s -/
def St.no (s : St) (n : Nat) : St := ⟨s.ws.drop n, errAt (hdW (s.ws.drop n)), (hdW (s.ws.drop n)).pos⟩
/-- a result of the plain parser, and what the parser makes of the state s -/
def Sim (s : St) : PR → Tr × St → Prop
  | .stuck, _ => True
  | .ok t r, y => ∃ n, y = (t, s.at n) ∧ r = (s.ws.drop n).map key
  | .bad r, y => ∃ n, y.2 = s.no n ∧ r = (s.ws.drop n).map key
theorem errAt_ne (x : Wd) : errAt x ≠ 0 := by unfold errAt; split <;> decide
theorem hd_key (ws : List Wd) : hd (ws.map key) = key (hdW ws) := by
  cases ws with
  | nil => rfl
  | cons x r => rfl
theorem at_zero {s : St} (h : s.e = 0) : s.at 0 = s := by
  obtain ⟨ws, e, p⟩ := s
  dsimp only at h
  subst h; rfl
theorem tl_at (s : St) (n : Nat) : (s.at n).tl = s.at (n + 1) := by
  unfold St.at St.tl
  dsimp only
  rw [List.tail_drop]
theorem tl_eq {s : St} : s.tl = s.at 1 := by unfold St.at St.tl; rw [List.drop_one]
theorem at_at (s : St) (n m : Nat) : (s.at n).at m = s.at (n + m) := by
  unfold St.at
  dsimp only
  rw [List.drop_drop]
theorem no_at (s : St) (n m : Nat) : (s.at n).no m = s.no (n + m) := by
  unfold St.at St.no
  dsimp only
  rw [List.drop_drop]
theorem ws_at (s : St) (n : Nat) : (s.at n).ws = s.ws.drop n := rfl
theorem take_eq {s : St} (h : s.e = 0) (S : List UInt8) : takeB s S = isT (hd (s.ws.map key)) S := by
  unfold takeB
  rw [decide_eq_true h, Bool.true_and, hd_key]
theorem name_eq {s : St} (h : s.e = 0) : nameB s = isNm (hd (s.ws.map key)) := by
  unfold nameB
  rw [decide_eq_true h, Bool.true_and, hd_key]
theorem pick_eq {s : St} (h : s.e = 0) (js : List (List UInt8 × Int)) : pickS js s = pick js (hd (s.ws.map key)) := by
  unfold pickS pick
  congr 2
  funext j
  exact take_eq h _
theorem map_tail (ws : List Wd) : (ws.map key).tail = ws.tail.map key := by rw [List.map_tail]
theorem map_dt (ws : List Wd) (n : Nat) : ((ws.drop n).map key).tail = (ws.drop (n + 1)).map key := by rw [← List.map_tail, List.tail_drop]
theorem take_dead_b {s : St} (h : s.e ≠ 0) (S : List UInt8) : takeB s S = false := by
  unfold takeB
  rw [decide_eq_false h, Bool.false_and]
theorem name_dead_b {s : St} (h : s.e ≠ 0) : nameB s = false := by
  unfold nameB
  rw [decide_eq_false h, Bool.false_and]
theorem pick_dead {s : St} (h : s.e ≠ 0) (js : List (List UInt8 × Int)) : pickS js s = none := by
  unfold pickS
  rw [List.find?_eq_none.2]
  · rfl
  · intro x _
    rw [take_dead_b h]; simp
theorem wrong_dead_s {s : St} (h : s.e ≠ 0) : wrongS s = s := by unfold wrongS; rw [if_neg h]
theorem need_dead_s {s : St} (h : s.e ≠ 0) (S : List UInt8) : needS s S = s := by
  unfold needS
  rw [take_dead_b h, if_neg (by simp), wrong_dead_s h]
theorem name_dead_s {s : St} (h : s.e ≠ 0) : nameS s = s := by
  unfold nameS
  rw [name_dead_b h, if_neg (by simp), wrong_dead_s h]
theorem no_dead (s : St) (n : Nat) : (s.no n).e ≠ 0 := errAt_ne _
/-- a state with an error is kept -/
theorem dead_keep : ∀ (f lv : Nat) (o : Option Tr) (s : St), s.e ≠ 0 → (lvS f lv o s).2 = s := by
  intro f
  induction f with
  | zero => intro lv o s _; cases o <;> rfl
  | succ f ih =>
    intro lv o s h
    cases o with
    | some t =>
      unfold lvS
      rw [pick_dead h]
    | none =>
      unfold lvS
      split
      · rw [pick_dead h]
        exact ih _ _ _ h
      split
      · have h4 : (lvS f 4 none s).2 = s := ih _ _ _ h
        rw [h4, pick_dead h]
        dsimp only
        rw [pick_dead h]
        exact h4
      split
      · rw [take_dead_b h, if_neg (by simp)]
        exact ih _ _ _ h
      split
      · unfold leafS
        rw [if_pos h]
      · have h4 : (lvS f (lv + 1) none s).2 = s := ih _ _ _ h
        rw [h4]
        exact ih _ _ _ h
theorem Sim.at {s : St} {n : Nat} {x : PR} {y : Tr × St} (h : Sim (s.at n) x y) : Sim s x y := by
  cases x with
  | stuck => trivial
  | ok t r =>
    obtain ⟨m, h1, h2⟩ := h
    exact ⟨n + m, by rw [h1, at_at], by rw [h2, ws_at, List.drop_drop]⟩
  | bad r =>
    obtain ⟨m, h1, h2⟩ := h
    exact ⟨n + m, by rw [h1, no_at], by rw [h2, ws_at, List.drop_drop]⟩
theorem Sim.bind {s : St} {x : PR} {y z : Tr × St} {g : Tr → List K → PR} (h : Sim s x y) (hk : ∀ n, y.2 = s.no n → z.2 = s.no n) (hg : ∀ t n, x = .ok t ((s.ws.drop n).map key) → y = (t, s.at n) → Sim s (g t ((s.ws.drop n).map key)) z) : Sim s (x.bind g) z := by
  cases x with
  | stuck => trivial
  | ok t r =>
    obtain ⟨n, h1, h2⟩ := h
    subst h2
    exact hg t n rfl h1
  | bad r =>
    obtain ⟨n, h1, h2⟩ := h
    exact ⟨n, hk n h1, h2⟩
theorem at_e (s : St) (n : Nat) : (s.at n).e = 0 := rfl
theorem need_at (s : St) (n : Nat) (S : List UInt8) : needS (s.at n) S = if isT (hd ((s.ws.drop n).map key)) S then s.at (n + 1) else s.no n := by
  unfold needS wrongS
  rw [take_eq (at_e s n), ws_at]
  split
  · show St.mk (s.ws.drop n).tail 0 s.p = _
    rw [List.tail_drop]; rfl
  · rw [if_pos (at_e s n)]; rfl
theorem name_at (s : St) (n : Nat) : nameS (s.at n) = if isNm (hd ((s.ws.drop n).map key)) then s.at (n + 1) else s.no n := by
  unfold nameS wrongS
  rw [name_eq (at_e s n), ws_at]
  split
  · show St.mk (s.ws.drop n).tail 0 s.p = _
    rw [List.tail_drop]; rfl
  · rw [if_pos (at_e s n)]; rfl
theorem nameV_at (s : St) (n : Nat) (h : isNm (hd ((s.ws.drop n).map key)) = true) : nameV (s.at n) = (hd ((s.ws.drop n).map key)).2 := by
  unfold nameV
  rw [name_eq (at_e s n), ws_at, if_pos h, hd_key]
  rfl
theorem count_sim (s : St) (n : Nat) : Sim s (countP ((s.ws.drop n).map key)) (countS (s.at n)) := by
  unfold countP countS
  rw [need_at, map_dt, map_dt, map_dt]
  split
  · rw [name_at]
    split
    · rename_i hn
      rw [need_at, nameV_at _ _ hn]
      split
      · exact ⟨_, rfl, rfl⟩
      · exact ⟨_, rfl, rfl⟩
    · exact ⟨_, need_dead_s (no_dead _ _) _, rfl⟩
  · exact ⟨_, by dsimp only; rw [name_dead_s (no_dead _ _), need_dead_s (no_dead _ _)], rfl⟩
theorem chan_sim (s : St) (n : Nat) : Sim s (chanP ((s.ws.drop n).map key)) (chanS (s.at n)) := by
  unfold chanP chanS
  rw [need_at, map_dt, map_dt, map_dt, map_dt, map_dt]
  split
  · rw [name_at]
    split
    · rename_i hn
      rw [need_at, nameV_at _ _ hn]
      split
      · rw [name_at]
        split
        · rename_i hn2
          rw [need_at, nameV_at _ _ hn2]
          split
          · exact ⟨_, rfl, rfl⟩
          · exact ⟨_, rfl, rfl⟩
        · exact ⟨_, need_dead_s (no_dead _ _) _, rfl⟩
      · exact ⟨_, by dsimp only; rw [name_dead_s (no_dead _ _), need_dead_s (no_dead _ _)], rfl⟩
    · exact ⟨_, by dsimp only; rw [need_dead_s (no_dead _ _), name_dead_s (no_dead _ _), need_dead_s (no_dead _ _)], rfl⟩
  · exact ⟨_, by dsimp only; rw [name_dead_s (no_dead _ _), need_dead_s (no_dead _ _), name_dead_s (no_dead _ _), need_dead_s (no_dead _ _)], rfl⟩
theorem var_sim (s : St) (n : Nat) : Sim s (varP ((s.ws.drop n).map key)) (varS (s.at n)) := by
  unfold varP varS
  rw [name_at, map_dt, map_dt, map_dt]
  split
  · rename_i hn
    rw [need_at, nameV_at _ _ hn]
    split
    · rw [name_at]
      split
      · rename_i hn2
        rw [nameV_at _ _ hn2]
        exact ⟨_, rfl, rfl⟩
      · exact ⟨_, rfl, rfl⟩
    · exact ⟨_, name_dead_s (no_dead _ _), rfl⟩
  · exact ⟨_, by dsimp only; rw [need_dead_s (no_dead _ _), name_dead_s (no_dead _ _)], rfl⟩
theorem leaf_sim {s : St} (h : s.e = 0) (P : List K → PR) (P' : St → Tr × St) (hP : ∀ r : St, r.e = 0 → Sim r (P (r.ws.map key)) (P' r)) : Sim s (atomP P (s.ws.map key)) (leafS P' s) := by
  have e0 : s.ws.map key = (s.ws.drop 0).map key := rfl
  have et : (s.ws.map key).tail = (s.ws.drop 1).map key := by rw [e0, map_dt]
  unfold atomP leafS
  rw [if_neg (by omega : ¬ s.e ≠ 0), take_eq h, take_eq h, take_eq h, take_eq h, take_eq h, tl_eq, et]
  have hk : (hd (s.ws.map key)).1 = (hdW s.ws).kind := by rw [hd_key]; rfl
  have hk2 : (hd (s.ws.map key)).2 = (hdW s.ws).text := by rw [hd_key]; rfl
  rw [hk, hk2]
  split
  · exact ⟨1, rfl, rfl⟩
  split
  · exact ⟨1, rfl, rfl⟩
  split
  · exact ⟨1, rfl, rfl⟩
  split
  · refine Sim.bind (Sim.at (hP (s.at 1) rfl)) (fun n hn => ?_) (fun t n _ hn => ?_)
    · show needS (P' (s.at 1)).2 [41] = _
      rw [hn, need_dead_s (no_dead _ _)]
    · rw [hn]
      dsimp only
      rw [need_at, map_dt]
      split
      · exact ⟨_, rfl, rfl⟩
      · exact ⟨_, rfl, rfl⟩
  split
  · exact count_sim s 1
  split
  · exact chan_sim s 1
  · have := var_sim s 0
    rw [at_zero h] at this
    exact this
theorem lv_sim : ∀ (f lv : Nat) (o : Option Tr) (s : St), s.e = 0 → Sim s (pz f lv o (s.ws.map key)) (lvS f lv o s) := by
  intro f
  induction f with
  | zero => intro lv o s _; cases o <;> trivial
  | succ f ih =>
    intro lv o s h
    have ihn : ∀ lv o n, Sim s (pz f lv o ((s.ws.drop n).map key)) (lvS f lv o (s.at n)) := fun lv o n => Sim.at (ih lv o (s.at n) rfl)
    have et : (s.ws.map key).tail = (s.ws.drop 1).map key := map_dt s.ws 0
    have ih0 : ∀ lv o, Sim s (pz f lv o (s.ws.map key)) (lvS f lv o s) := fun lv o => ih lv o s h
    cases o with
    | some t =>
      unfold pz lvS
      rw [pick_eq h]
      cases hp : pick (joints lv) (hd (s.ws.map key)) with
      | none => exact ⟨0, by rw [at_zero h], rfl⟩
      | some k =>
        dsimp only
        rw [tl_eq, et]
        refine Sim.bind (ihn _ _ 1) (fun n hn => ?_) (fun u n _ hn => ?_)
        · rw [hn, dead_keep _ _ _ _ (no_dead _ _)]
        · rw [hn]
          exact ihn _ _ n
    | none =>
      unfold pz lvS
      split
      · rw [pick_eq h]
        cases hp : pick prefs (hd (s.ws.map key)) with
        | none => exact ih0 3 none
        | some k =>
          dsimp only
          rw [tl_eq, et]
          refine Sim.bind (ihn _ _ 1) (fun n hn => hn) (fun u n _ hn => ?_)
          rw [hn]
          exact ⟨n, rfl, rfl⟩
      split
      · refine Sim.bind (ih0 4 none) (fun n hn => ?_) (fun u n _ hn => ?_)
        · rw [hn, pick_dead (no_dead _ _)]
          dsimp only
          rw [pick_dead (no_dead _ _)]
          exact hn
        · rw [hn]
          dsimp only
          rw [pick_eq (at_e s n), ws_at]
          cases hp : pick cmp1 (hd ((s.ws.drop n).map key)) with
          | some k =>
            dsimp only
            rw [tl_at, map_dt]
            refine Sim.bind (ihn _ _ (n + 1)) (fun m hm => hm) (fun v m _ hm => ?_)
            rw [hm]
            exact ⟨m, rfl, rfl⟩
          | none =>
            dsimp only
            rw [pick_eq (at_e s n), ws_at]
            cases hp2 : pick cmp2 (hd ((s.ws.drop n).map key)) with
            | some k =>
              dsimp only
              rw [tl_at, map_dt]
              refine Sim.bind (ihn _ _ (n + 1)) (fun m hm => hm) (fun v m _ hm => ?_)
              rw [hm]
              exact ⟨m, rfl, rfl⟩
            | none => exact ⟨n, rfl, rfl⟩
      split
      · rw [take_eq h]
        split
        · rw [tl_eq, et]
          refine Sim.bind (ihn _ _ 1) (fun n hn => hn) (fun u n _ hn => ?_)
          rw [hn]
          exact ⟨n, rfl, rfl⟩
        · exact ih0 7 none
      split
      · exact leaf_sim h _ _ (fun r hr => ih 0 none r hr)
      · refine Sim.bind (ih0 _ none) (fun n hn => ?_) (fun u n _ hn => ?_)
        · rw [hn, dead_keep _ _ _ _ (no_dead _ _)]
        · rw [hn]
          exact ihn _ _ n
end Go.Proofs.YthjalkonlcjhnaaGreatDoor
