/-
  A text that is read is the text of its trace, plain; the number of its lines.
  Conditions: as each theorem says.
-/
import Derived.Test.YtpmponafjhnegaaGreatDoorLe
namespace Go.Proofs.YtpmponafjhnegaaGreatDoor
open Nu
/-- the words of an event that was read -/
def reWs (vars : List (ByteArray × Int)) (r : RE) : List (List UInt8) :=
  (if r.ev.kind = 1 then [wLocal] else [kw r.ev.kind, r.peer.data.toList, Lib.itoa r.ev.msg]) ++ (64 :: Lib.itoa r.ev.time) :: asW vars r.ev.asg
def rpWs (p : RP) : List (List UInt8) := wProcess :: p.name.data.toList :: vrW p.vars
def rpLn (p : RP) : List (List UInt8) := joinC 32 (rpWs p) :: p.evs.map fun r => 32 :: 32 :: joinC 32 (reWs p.vars r)
/-- what holds of an event that was read -/
structure ReOk (r : RE) : Prop where
  loc : r.ev.kind = 1 → r.peer.size = 0
  nm : r.ev.kind ≠ 1 → r.peer.size ≠ 0
def RpOk (p : RP) : Prop := ∀ r ∈ p.evs, ReOk r
theorem addE_last {ps : List RP} {p : RP} (h : ps.getLast? = some p) (e : RE) : ∃ qs, ps = qs ++ [p] ∧ addE ps e = qs ++ [{ p with evs := p.evs ++ [e] }] := by
  obtain ⟨qs, rfl⟩ := List.getLast?_eq_some_iff.1 h
  exact ⟨qs, rfl, addE_snoc e p qs⟩
theorem body_some {l b : List UInt8} (h : body l = some b) : l = 32 :: 32 :: b := by
  unfold body at h
  split at h
  · cases h; rfl
  · cases h
theorem lineX_inv {n : Nat} {ps ps' : List RP} {text : List UInt8} (hp : ∀ p ∈ ps, RpOk p) (h : lineX n ps text = .ok ps') : ps'.flatMap rpLn = ps.flatMap rpLn ++ [text] ∧ ∀ p ∈ ps', RpOk p := by
  unfold lineX at h
  cases hb : body text with
  | some b =>
    rw [hb] at h
    dsimp only at h
    cases hg : ps.getLast? with
    | none => rw [hg] at h; cases h
    | some p =>
      rw [hg] at h
      dsimp only at h
      cases he : evL p.vars b 3 with
      | error x => rw [he] at h; cases h
      | ok s =>
        rw [he] at h
        cases h
        obtain ⟨k1, k2, k3⟩ := evL_inv he
        obtain ⟨qs, rfl, h2⟩ := addE_last hg (reOf n s)
        rw [h2]
        have hw : esW p.vars s = reWs p.vars (reOf n s) := by
          obtain ⟨k, kind, peer, pcol, msg, time, asg⟩ := s
          dsimp only at k1
          subst k1
          rfl
        have hok : ReOk (reOf n s) := ⟨fun h => by
          have h := (k2.loc h).1
          show s.peer.size = 0
          rw [h]; rfl, fun h => name_pos (k2.nm h (by omega))⟩
        refine ⟨?_, fun q hq => ?_⟩
        · simp only [List.flatMap_append, List.flatMap_cons, List.flatMap_nil, List.append_nil, List.append_assoc]
          congr 1
          unfold rpLn
          rw [List.map_append, List.cons_append]
          congr 2
          rw [body_some hb, k3, hw]
          rfl
        · rcases List.mem_append.1 hq with hq | hq
          · exact hp q (List.mem_append_left _ hq)
          · rw [List.mem_singleton.1 hq]
            intro r hr
            rcases List.mem_append.1 hr with hr | hr
            · exact hp p (by simp) r hr
            · rw [List.mem_singleton.1 hr]; exact hok
  | none =>
    rw [hb] at h
    dsimp only at h
    cases he : pcL text with
    | error x => rw [he] at h; cases h
    | ok s =>
      rw [he] at h
      cases h
      obtain ⟨k1, k2, k3⟩ := pcL_inv he
      refine ⟨?_, fun q hq => ?_⟩
      · rw [List.flatMap_append]
        congr 1
        have hw : psW s = rpWs ⟨n, s.name, s.vars, []⟩ := by
          obtain ⟨k, name, vars⟩ := s
          dsimp only at k1
          subst k1
          rfl
        rw [k3, hw]
        rfl
      · rcases List.mem_append.1 hq with hq | hq
        · exact hp q hq
        · rw [List.mem_singleton.1 hq]
          intro r hr
          exact absurd hr List.not_mem_nil
theorem linesR_inv : ∀ (ls : List (List UInt8)) (n : Nat) (ps ps' : List RP), (∀ p ∈ ps, RpOk p) → linesR n ps ls = .ok ps' → ps'.flatMap rpLn = ps.flatMap rpLn ++ ls ∧ ∀ p ∈ ps', RpOk p
  | [], n, ps, ps', hp, h => by cases h; exact ⟨(List.append_nil _).symm, hp⟩
  | l :: ls, n, ps, ps', hp, h => by
    unfold linesR at h
    cases hl : lineX n ps l with
    | error x => rw [hl] at h; cases h
    | ok ps1 =>
      rw [hl] at h
      dsimp only at h
      obtain ⟨h1, h2⟩ := lineX_inv hp hl
      obtain ⟨h3, h4⟩ := linesR_inv ls (n + 1) ps1 ps' h2 h
      exact ⟨by rw [h3, h1, List.append_assoc]; rfl, h4⟩
theorem resPs_names {ns : List ByteArray} : ∀ (ps : List RP) (t : List Pr), resPs ns ps = .ok t → t.map (·.name) = ps.map (·.name)
  | [], t, h => by cases h; rfl
  | p :: ps, t, h => by
    unfold resPs at h
    cases h1 : resEs ns p.evs with
    | error x => rw [h1] at h; cases h
    | ok es =>
      rw [h1] at h
      dsimp only at h
      cases h2 : resPs ns ps with
      | error x => rw [h2] at h; cases h
      | ok ts =>
        rw [h2] at h
        cases h
        rw [List.map_cons, List.map_cons, resPs_names ps ts h2]
theorem resE_ln {T : List Pr} {r : RE} {e : Ev} (hr : ReOk r) (h : resE (T.map (·.name)) r = .ok e) (vars : List (ByteArray × Int)) : evLn T vars e = 32 :: 32 :: joinC 32 (reWs vars r) := by
  unfold evLn
  rw [wEv_words]
  congr 3
  unfold resE at h
  by_cases hk : r.ev.kind = 1
  · rw [if_pos (hr.loc hk)] at h
    cases h
    unfold evWs reWs
    rw [if_pos hk, if_pos hk]
  · rw [if_neg (hr.nm hk)] at h
    cases hq : pIdx r.peer (T.map (·.name)) with
    | none => rw [hq] at h; cases h
    | some q =>
      rw [hq] at h
      cases h
      have h1 := pIdx_some hq
      have hn : nmOf T ((q : Nat) : Int) = r.peer.data.toList := by
        rw [List.getElem?_map] at h1
        unfold nmOf
        rw [Int.toNat_natCast]
        cases hx : T[q]? with
        | none => rw [hx] at h1; cases h1
        | some x =>
          rw [hx] at h1
          have h2 : x.name = r.peer := by simpa using h1
          rw [← h2]
          rfl
      unfold evWs reWs
      rw [if_neg hk, if_neg hk]
      dsimp only
      rw [hn]
theorem resEs_ln {T : List Pr} (vars : List (ByteArray × Int)) : ∀ (l : List RE) (es : List Ev), (∀ r ∈ l, ReOk r) → resEs (T.map (·.name)) l = .ok es → es.map (evLn T vars) = l.map fun r => 32 :: 32 :: joinC 32 (reWs vars r)
  | [], es, _, h => by cases h; rfl
  | r :: l, es, hr, h => by
    unfold resEs at h
    cases h1 : resE (T.map (·.name)) r with
    | error x => rw [h1] at h; cases h
    | ok v =>
      rw [h1] at h
      dsimp only at h
      cases h2 : resEs (T.map (·.name)) l with
      | error x => rw [h2] at h; cases h
      | ok vs =>
        rw [h2] at h
        cases h
        rw [List.map_cons, List.map_cons, resE_ln (hr r (List.mem_cons_self ..)) h1, resEs_ln vars l vs (fun x hx => hr x (List.mem_cons_of_mem _ hx)) h2]
theorem resPs_ln {T : List Pr} : ∀ (ps : List RP) (t : List Pr), (∀ p ∈ ps, RpOk p) → resPs (T.map (·.name)) ps = .ok t → trLn T t = ps.flatMap rpLn
  | [], t, _, h => by cases h; rfl
  | p :: ps, t, hp, h => by
    unfold resPs at h
    cases h1 : resEs (T.map (·.name)) p.evs with
    | error x => rw [h1] at h; cases h
    | ok es =>
      rw [h1] at h
      dsimp only at h
      cases h2 : resPs (T.map (·.name)) ps with
      | error x => rw [h2] at h; cases h
      | ok ts =>
        rw [h2] at h
        cases h
        have ht : trLn T (⟨p.name, p.vars, es⟩ :: ts) = prLn T ⟨p.name, p.vars, es⟩ ++ trLn T ts := by unfold trLn; rw [List.flatMap_cons]
        rw [ht, List.flatMap_cons, resPs_ln ps ts (fun x hx => hp x (List.mem_cons_of_mem _ hx)) h2]
        congr 1
        unfold prLn rpLn
        rw [resEs_ln p.vars p.evs es (hp p (List.mem_cons_self ..)) h1, wPr_words]
        rfl
theorem join_nl : ∀ ls : List (List UInt8), joinC 10 (ls ++ [[]]) = ls.flatMap fun l => l ++ [10]
  | [] => rfl
  | l :: ls => by
    rw [List.cons_append, joinC_cons _ _ (by simp), join_nl ls, List.flatMap_cons]
    simp
/-- what was read was written -/
theorem parse_inv {s : List UInt8} {t : List Pr} (h : parseT s = .ok t) : wTr t = s ∧ (faultO t).2 = 0 ∧ s.length ≤ 16384 := by
  unfold parseT at h
  split at h
  · cases h
  rename_i hlen
  obtain ⟨ls, last, hl⟩ : ∃ ls last, spl 10 s = ls ++ [last] := ⟨_, _, (List.dropLast_concat_getLast (spl_ne 10 s)).symm⟩
  rw [hl, linesX_R] at h
  cases h1 : linesR 1 [] ls with
  | error x => rw [h1] at h; cases h
  | ok ps =>
    rw [h1] at h
    dsimp only at h
    by_cases h0 : last = []
    · subst h0
      rw [if_pos rfl] at h
      dsimp only at h
      cases h2 : resPs (ps.map (·.name)) ps with
      | error x => rw [h2] at h; cases h
      | ok t' =>
        rw [h2] at h
        dsimp only at h
        split at h
        · rename_i hf
          cases h
          obtain ⟨g1, g2⟩ := linesR_inv ls 1 [] ps (fun p hp => absurd hp List.not_mem_nil) h1
          rw [List.flatMap_nil, List.nil_append] at g1
          have hn := resPs_names ps t h2
          rw [← hn] at h2
          refine ⟨?_, hf, by omega⟩
          rw [wTr_lines, resPs_ln ps t g2 h2, g1, ← join_nl, ← hl, join_spl]
        · cases h
    · rw [if_neg h0] at h
      cases h
def evsN (t : List Pr) : Nat := (t.map fun x => 1 + x.evs.length).sum
theorem trLn_len (T : List Pr) : ∀ t : List Pr, (trLn T t).length = evsN t
  | [] => rfl
  | x :: t => by
    have ht : trLn T (x :: t) = prLn T x ++ trLn T t := by unfold trLn; rw [List.flatMap_cons]
    rw [ht, List.length_append, trLn_len T t]
    unfold prLn evsN
    simp
    omega
end Go.Proofs.YtpmponafjhnegaaGreatDoor
