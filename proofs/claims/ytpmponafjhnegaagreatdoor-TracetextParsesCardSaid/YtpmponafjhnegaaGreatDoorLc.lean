/-
  The line of an event and the line of a process, plain: what is written is read again, and what is read was written; a sign below ten is no part of a word that can be read.
  Conditions: as each theorem says.
-/
import Derived.Test.YtpmponafjhnegaaGreatDoorLb
namespace Go.Proofs.YtpmponafjhnegaaGreatDoor
open Nu
def wsL (ws : List (List UInt8)) : Nat := (ws.map fun w => w.length + 1).sum
theorem runW_cons {σ : Type} (step : σ → List UInt8 → Nat → Except Int σ) (s : σ) (w : List UInt8) (ws : List (List UInt8)) (col : Nat) :
    runW step s (w :: ws) col = match step s w col with | .error e => .error (e, col) | .ok s' => runW step s' ws (col + w.length + 1) := rfl
theorem runW_app {σ : Type} (step : σ → List UInt8 → Nat → Except Int σ) : ∀ (ws vs : List (List UInt8)) (s : σ) (col : Nat),
    runW step s (ws ++ vs) col = match runW step s ws col with | .error x => .error x | .ok s' => runW step s' vs (col + wsL ws)
  | [], vs, s, col => rfl
  | w :: ws, vs, s, col => by
    rw [List.cons_append, runW_cons, runW_cons]
    cases h : step s w col with
    | error e => rfl
    | ok s' =>
      dsimp only
      rw [runW_app step ws vs s' _]
      have : col + w.length + 1 + wsL ws = col + wsL (w :: ws) := by simp [wsL]; omega
      rw [this]
theorem runW_ok {σ : Type} {step : σ → List UInt8 → Nat → Except Int σ} {ws vs : List (List UInt8)} {s s' : σ} {col : Nat} (h : runW step s ws col = .ok s') : runW step s (ws ++ vs) col = runW step s' vs (col + wsL ws) := by
  rw [runW_app, h]
theorem runW_one {σ : Type} {step : σ → List UInt8 → Nat → Except Int σ} {w : List UInt8} {vs : List (List UInt8)} {s s' : σ} {col : Nat} (h : step s w col = .ok s') : runW step s (w :: vs) col = runW step s' vs (col + w.length + 1) := by
  rw [runW, h]
/-- a way that goes through holds each of its states -/
theorem runW_inv {σ : Type} {step : σ → List UInt8 → Nat → Except Int σ} {I : σ → Prop} {W : σ → List (List UInt8)} (hs : ∀ s w col s', I s → step s w col = .ok s' → I s' ∧ W s' = W s ++ [w]) :
    ∀ (ws : List (List UInt8)) (s s' : σ) (col : Nat), I s → runW step s ws col = .ok s' → I s' ∧ W s' = W s ++ ws
  | [], s, s', col, hi, h => by cases h; exact ⟨hi, (List.append_nil _).symm⟩
  | w :: ws, s, s', col, hi, h => by
    unfold runW at h
    cases h1 : step s w col with
    | error e => rw [h1] at h; cases h
    | ok s1 =>
      rw [h1] at h
      obtain ⟨h2, h3⟩ := hs s w col s1 hi h1
      obtain ⟨h4, h5⟩ := runW_inv hs ws s1 s' _ h2 h
      exact ⟨h4, by rw [h5, h3, List.append_assoc]; rfl⟩
theorem join_len (c : UInt8) : ∀ ws : List (List UInt8), ws ≠ [] → (joinC c ws).length + 1 = wsL ws
  | [], h => absurd rfl h
  | [w], _ => by simp [joinC, wsL]
  | w :: v :: ws, _ => by
    have ih := join_len c (v :: ws) (by simp)
    rw [joinC_cons _ _ (by simp)]
    have : wsL (w :: v :: ws) = w.length + 1 + wsL (v :: ws) := by simp [wsL]
    rw [this, ← ih]
    simp
    omega
theorem join_app (c : UInt8) : ∀ (ws vs : List (List UInt8)), ws ≠ [] → vs ≠ [] → joinC c (ws ++ vs) = joinC c ws ++ c :: joinC c vs
  | [], vs, h, _ => absurd rfl h
  | [w], vs, _, h => joinC_cons c w h
  | w :: v :: ws, vs, _, h => by
    rw [List.cons_append, joinC_cons _ _ (by simp), join_app c (v :: ws) vs (by simp) h, joinC_cons c w (show v :: ws ≠ [] by simp)]
    simp
/-- signs of names and of numbers -/
theorem prt_ge {c : UInt8} (h : prtB c = true) : 48 ≤ c.toNat ∧ c.toNat ≠ 61 ∧ c.toNat ≠ 64 := by
  unfold prtB letB digB at h
  simp only [Bool.or_eq_true, Bool.and_eq_true, decide_eq_true_eq] at h
  omega
theorem name_prt {n : ByteArray} (h : nameB n = true) : ∀ c ∈ n.data.toList, prtB c = true := by
  unfold nameB at h
  simp only [Bool.and_eq_true, List.all_eq_true] at h
  exact h.1.2
theorem name_no {n : ByteArray} (h : nameB n = true) {c : UInt8} (hc : c.toNat < 48 ∨ c.toNat = 61 ∨ c.toNat = 64) : c ∉ n.data.toList := fun hm => by
  have := prt_ge (name_prt h c hm)
  omega
theorem itoa_signs (v : Int) : ∀ c ∈ Lib.itoa v, c.toNat = 45 ∨ (48 ≤ c.toNat ∧ c.toNat ≤ 57) := by
  have hd : ∀ n : Nat, ∀ c ∈ Lib.decDigits n, 48 ≤ c.toNat ∧ c.toNat ≤ 57 := fun n c hc => (isDig_iff c).1 (List.all_eq_true.1 (dec_dig n) c hc)
  intro c hc
  unfold Lib.itoa at hc
  split at hc
  · rcases List.mem_cons.1 hc with rfl | hc
    · exact .inl rfl
    · exact .inr (hd _ c hc)
  · exact .inr (hd _ c hc)
theorem itoa_no (v : Int) {c : UInt8} (h1 : c.toNat ≠ 45) (h2 : c.toNat < 48 ∨ 57 < c.toNat) : c ∉ Lib.itoa v := fun hm => by
  have := itoa_signs v c hm
  omega
theorem form_signs {l : List UInt8} (h : parE l ≠ 3) : ∀ c ∈ l, c.toNat = 45 ∨ (48 ≤ c.toNat ∧ c.toNat ≤ 57) := by
  have hf : formOk l = true := by
    cases hf : formOk l with
    | true => rfl
    | false => exact absurd (by unfold parE; rw [hf]; rfl) h
  unfold formOk at hf
  simp only [Bool.and_eq_true, List.all_eq_true] at hf
  intro c hc
  have hd := hf.2.1
  cases l with
  | nil => exact absurd hc List.not_mem_nil
  | cons x r =>
    by_cases h45 : x = 45
    · have hp : pdig (x :: r) = r := by rw [h45]; simp [pdig]
      rw [hp] at hd
      rcases List.mem_cons.1 hc with rfl | hc
      · left; rw [h45]; rfl
      · exact .inr ((isDig_iff c).1 (hd c hc))
    · have hp : pdig (x :: r) = x :: r := by simp [pdig, h45]
      rw [hp] at hd
      exact .inr ((isDig_iff c).1 (hd c hc))
/-- a word with a sign below ten -/
def badW (w : List UInt8) : Prop := ∃ c ∈ w, c.toNat < 10
theorem bad_par {w : List UInt8} (h : badW w) : parE w = 3 := by
  obtain ⟨c, hc, hl⟩ := h
  apply Classical.byContradiction
  intro hn
  have := form_signs hn c hc
  omega
theorem bad_name {w : List UInt8} (h : badW w) : nameB (bs w) = false := by
  obtain ⟨c, hc, hl⟩ := h
  cases hn : nameB (bs w) with
  | false => rfl
  | true => have := prt_ge (name_prt hn c hc); omega
theorem bad_asg {w : List UInt8} (h : badW w) : asgO w = .error 3 := by
  unfold asgO
  cases hc : cutC 61 w with
  | none => rfl
  | some x =>
    obtain ⟨a, b⟩ := x
    obtain ⟨rfl, -⟩ := cutC_some hc
    dsimp only
    obtain ⟨c, hm, hl⟩ := h
    rcases List.mem_append.1 hm with hm | hm
    · rw [bad_name ⟨c, hm, hl⟩]; rfl
    · rcases List.mem_cons.1 hm with rfl | hm
      · exact absurd hl (by decide)
      · rw [bad_par ⟨c, hm, hl⟩]; split <;> rfl
theorem bad_step (vars : List (ByteArray × Int)) (s : ES) {w : List UInt8} (col : Nat) (h : badW w) : stepE vars s w col = .error 3 := by
  have hw : ∀ v : List UInt8, (∀ c ∈ v, 10 ≤ c.toNat) → w ≠ v := fun v hv e => by
    obtain ⟨c, hc, hl⟩ := h
    rw [e] at hc
    have := hv c hc
    omega
  unfold stepE
  split
  · rw [if_neg (hw _ (by decide)), if_neg (hw _ (by decide)), if_neg (hw _ (by decide))]
  · rw [bad_name h]; rfl
  · rw [bad_par h]; rfl
  · split
    · rename_i r
      have hb : badW r := by
        obtain ⟨c, hc, hl⟩ := h
        rcases List.mem_cons.1 hc with rfl | hc
        · exact absurd hl (by decide)
        · exact ⟨c, hc, hl⟩
      rw [bad_par hb]; rfl
    · rfl
  · rw [bad_asg h]
theorem bad_stepP (s : PS) {w : List UInt8} (col : Nat) (h : badW w) : stepP s w col = .error 3 := by
  have hw : w ≠ wProcess := fun e => by
    obtain ⟨c, hc, hl⟩ := h
    rw [e] at hc
    have : ∀ c ∈ wProcess, 10 ≤ c.toNat := by decide
    have := this c hc
    omega
  unfold stepP
  split
  · rw [if_neg hw]
  · rw [bad_name h]; rfl
  · rw [bad_asg h]
/-- a sign that parts nothing, in a text -/
theorem spl_mid {c x : UInt8} (hx : x ≠ c) : ∀ (pre post : List UInt8), ∃ ps u v vs, spl c pre = ps ++ [u] ∧ spl c post = v :: vs ∧ spl c (pre ++ x :: post) = ps ++ (u ++ x :: v) :: vs
  | [], post => by
    obtain ⟨v, vs, h⟩ := spl_cons c post
    refine ⟨[], [], v, vs, rfl, h, ?_⟩
    rw [List.nil_append, spl_eq, if_neg hx, h]
    rfl
  | b :: pre, post => by
    obtain ⟨ps, u, v, vs, h1, h2, h3⟩ := spl_mid hx pre post
    rw [List.cons_append, spl_eq, spl_eq, h1, h3]
    by_cases hb : b = c
    · rw [if_pos hb, if_pos hb]
      exact ⟨[] :: ps, u, v, vs, rfl, h2, rfl⟩
    · rw [if_neg hb, if_neg hb]
      cases ps with
      | nil => exact ⟨[], b :: u, v, vs, rfl, h2, rfl⟩
      | cons p ps => exact ⟨(b :: p) :: ps, u, v, vs, rfl, h2, rfl⟩
/-- what stands ahead of a sign: its pieces are pieces of the whole, but for the last one -/
theorem spl_pre (c x : UInt8) : ∀ (pre post : List UInt8), ∃ ps u r, spl c pre = ps ++ [u] ∧ spl c (pre ++ x :: post) = ps ++ r
  | [], post => ⟨[], [], _, rfl, rfl⟩
  | b :: pre, post => by
    obtain ⟨ps, u, r, h1, h2⟩ := spl_pre c x pre post
    rw [List.cons_append, spl_eq, spl_eq, h1, h2]
    by_cases hb : b = c
    · rw [if_pos hb, if_pos hb]
      exact ⟨[] :: ps, u, r, rfl, rfl⟩
    · rw [if_neg hb, if_neg hb]
      cases ps with
      | nil => exact ⟨[], b :: u, _, rfl, rfl⟩
      | cons p ps => exact ⟨(b :: p) :: ps, u, r, rfl, rfl⟩
theorem spl_len (c : UInt8) (l : List UInt8) {ps : List (List UInt8)} {u : List UInt8} (h : spl c l = ps ++ [u]) : l.length = wsL ps + u.length := by
  have h1 := congrArg List.length (join_spl c l)
  rw [h] at h1
  have h2 := join_len c (ps ++ [u]) (by simp)
  rw [← h1]
  have : wsL (ps ++ [u]) = wsL ps + (u.length + 1) := by simp [wsL]
  omega
/-- a line with a sign below ten put into it: an error at a column up to the sign's -/
theorem bad_run {σ : Type} {step : σ → List UInt8 → Nat → Except Int σ} (hb : ∀ s w col, badW w → step s w col = .error 3) {s s' : σ} {pre post : List UInt8} {b c : UInt8} {col : Nat} (hc : c.toNat < 10)
    (h : runW step s (spl 32 (pre ++ b :: post)) col = .ok s') : ∃ k, runW step s (spl 32 (pre ++ c :: post)) col = .error (3, k) ∧ col ≤ k ∧ k ≤ col + pre.length := by
  obtain ⟨ps, u, v, vs, h1, -, h3⟩ := spl_mid (c := 32) (x := c) (fun e => by rw [e] at hc; exact absurd hc (by decide)) pre post
  obtain ⟨ps', u', r, h1', h4⟩ := spl_pre 32 b pre post
  obtain ⟨rfl, -⟩ : ps' = ps ∧ [u'] = [u] := List.append_inj' (h1'.symm.trans h1) rfl
  rw [h4, runW_app] at h
  rw [h3, runW_app]
  cases hp : runW step s ps' col with
  | error x => rw [hp] at h; cases h
  | ok s1 =>
    dsimp only
    unfold runW
    rw [hb _ _ _ ⟨c, by simp, hc⟩]
    have := spl_len 32 pre h1
    exact ⟨_, rfl, by omega, by omega⟩
/-- the words that a state stands for -/
def kw (k : Int) : List UInt8 := if k = 1 then wLocal else if k = 2 then wSend else wReceive
def mdW (s : ES) : List (List UInt8) := if s.kind = 1 then [wLocal] else [kw s.kind, s.peer.data.toList, Lib.itoa s.msg]
def vNm (vars : List (ByteArray × Int)) (i : Int) : ByteArray := (vars[i.toNat]?).elim (bs []) (·.1)
def asW (vars : List (ByteArray × Int)) (l : List (Int × Int)) : List (List UInt8) := l.map fun a => (vNm vars a.1).data.toList ++ 61 :: Lib.itoa a.2
def esW (vars : List (ByteArray × Int)) (s : ES) : List (List UInt8) :=
  match s.k with
  | 0 => []
  | 1 => [kw s.kind]
  | 2 => [kw s.kind, s.peer.data.toList]
  | 3 => mdW s
  | _ + 4 => mdW s ++ (64 :: Lib.itoa s.time) :: asW vars s.asg
/-- what holds of a state -/
structure EsOk (vars : List (ByteArray × Int)) (s : ES) : Prop where
  le : s.k ≤ 4
  kind : s.k ≠ 0 → s.kind = 1 ∨ s.kind = 2 ∨ s.kind = 3
  mid : s.k = 1 ∨ s.k = 2 → s.kind ≠ 1
  none_ : s.k < 4 → s.asg = []
  zero : s.k = 0 → s.kind = 0 ∧ s.peer = bs [] ∧ s.pcol = 0 ∧ s.msg = 0
  loc : s.kind = 1 → s.peer = bs [] ∧ s.pcol = 0 ∧ s.msg = 0
  nm : s.kind ≠ 1 → 2 ≤ s.k → nameB s.peer = true
  msg : -1125899906842624 ≤ s.msg ∧ s.msg ≤ 1125899906842624
  one : s.k = 1 → s.msg = 0
  asg : ∀ a ∈ s.asg, 0 ≤ a.1 ∧ a.1 < vars.length ∧ -1125899906842624 ≤ a.2 ∧ a.2 ≤ 1125899906842624
theorem vIdx_some {n : ByteArray} : ∀ {vs : List (ByteArray × Int)} {i : Nat}, vIdx n vs = some i → ∃ v, vs[i]? = some v ∧ v.1 = n
  | [], i, h => by simp [vIdx] at h
  | v :: vs, i, h => by
    unfold vIdx at h
    split at h
    · rename_i hv; cases h; exact ⟨v, rfl, hv⟩
    · cases hr : vIdx n vs with
      | none => rw [hr] at h; cases h
      | some j =>
        rw [hr] at h; cases h
        obtain ⟨u, h1, h2⟩ := vIdx_some hr
        exact ⟨u, by simpa using h1, h2⟩
theorem bs_list (n : ByteArray) : bs n.data.toList = n := rfl
theorem asgO_ok {w : List UInt8} {n : ByteArray} {v : Int} (h : asgO w = .ok (n, v)) : w = n.data.toList ++ 61 :: Lib.itoa v ∧ nameB n = true ∧ -1125899906842624 ≤ v ∧ v ≤ 1125899906842624 := by
  unfold asgO at h
  cases hc : cutC 61 w with
  | none => rw [hc] at h; cases h
  | some x =>
    obtain ⟨a, b⟩ := x
    rw [hc] at h
    dsimp only at h
    split at h
    · rename_i hn
      split at h
      · rename_i hp
        cases h
        obtain ⟨h1, h2⟩ := itoa_par b hp
        exact ⟨by rw [h1]; exact (cutC_some hc).1, hn, h2⟩
      · cases h
    · cases h
theorem asgO_w {n : ByteArray} {v : Int} (hn : nameB n = true) (hv : -1125899906842624 ≤ v ∧ v ≤ 1125899906842624) : asgO (n.data.toList ++ 61 :: Lib.itoa v) = .ok (n, v) := by
  obtain ⟨h1, h2⟩ := par_itoa v hv
  unfold asgO
  rw [cutC_app _ (name_no hn (.inr (.inl rfl)))]
  dsimp only
  rw [bs_list, hn, h1, h2]
  rfl
theorem step_inv {vars : List (ByteArray × Int)} (s : ES) (w : List UInt8) (col : Nat) (s' : ES) (hi : EsOk vars s) (h : stepE vars s w col = .ok s') : EsOk vars s' ∧ esW vars s' = esW vars s ++ [w] := by
  obtain ⟨k, kind, peer, pcol, msg, time, asg⟩ := s
  obtain ⟨i1, i2, i3, i4, i5, i6, i7, i8, i10, i9⟩ := hi
  dsimp only at i1 i2 i3 i4 i5 i6 i7 i8 i9 i10
  match k, h with
  | 0, h =>
    obtain ⟨j1, j2, j3, j4⟩ := i5 rfl
    have hasg := i4 (by decide)
    subst j1 j2 j3 j4 hasg
    unfold stepE at h
    dsimp only at h
    split at h
    · rename_i e; cases h; subst e
      exact ⟨⟨by simp, fun _ => .inl rfl, by simp, by simp, by simp, by simp, by simp, by simp, by simp, by simp⟩, rfl⟩
    · split at h
      · rename_i e; cases h; subst e
        exact ⟨⟨by simp, fun _ => .inr (.inl rfl), by simp, by simp, by simp, by simp, by simp, by simp, by simp, by simp⟩, rfl⟩
      · split at h
        · rename_i e; cases h; subst e
          exact ⟨⟨by simp, fun _ => .inr (.inr rfl), by simp, by simp, by simp, by simp, by simp, by simp, by simp, by simp⟩, rfl⟩
        · cases h
  | 1, h =>
    have hk := i2 (by decide)
    have hm := i3 (.inl rfl)
    have hasg := i4 (by decide)
    have hms := i10 rfl
    subst hasg hms
    unfold stepE at h
    dsimp only at h
    split at h
    · rename_i e; cases h
      exact ⟨⟨by simp, fun _ => hk, fun _ => hm, by simp, by simp, fun h => absurd h hm, fun _ _ => e, by simp, by simp, by simp⟩, rfl⟩
    · cases h
  | 2, h =>
    have hk := i2 (by decide)
    have hm := i3 (.inr rfl)
    have hasg := i4 (by decide)
    subst hasg
    unfold stepE at h
    dsimp only at h
    split at h
    · rename_i e; cases h
      obtain ⟨p1, p2⟩ := itoa_par w e
      refine ⟨⟨by simp, fun _ => hk, by simp, by simp, by simp, fun h => absurd h hm, fun _ _ => i7 hm (by decide), p2, by simp, by simp⟩, ?_⟩
      show mdW _ = _
      unfold mdW
      rw [if_neg hm]
      dsimp only
      rw [p1]
      rfl
    · cases h
  | 3, h =>
    have hk := i2 (by decide)
    have hasg := i4 (by decide)
    subst hasg
    unfold stepE at h
    dsimp only at h
    split at h
    · split at h
      · rename_i r _ e; cases h
        obtain ⟨p1, p2⟩ := itoa_par r e
        refine ⟨⟨by simp, fun _ => hk, by simp, by simp, by simp, i6, fun h _ => i7 h (by decide), i8, by simp, by simp⟩, ?_⟩
        show mdW _ ++ _ = mdW _ ++ _
        rw [p1]
        rfl
      · cases h
    · cases h
  | k + 4, h =>
    obtain rfl : k = 0 := by omega
    have hk := i2 (by decide)
    unfold stepE at h
    dsimp only at h
    cases ha : asgO w with
    | error e => rw [ha] at h; cases h
    | ok x =>
      obtain ⟨n, v⟩ := x
      rw [ha] at h
      dsimp only at h
      cases hv : vIdx n vars with
      | none => rw [hv] at h; cases h
      | some i =>
        rw [hv] at h
        cases h
        obtain ⟨a1, -, a3⟩ := asgO_ok ha
        obtain ⟨u, b1, b2⟩ := vIdx_some hv
        have hl := (List.getElem?_eq_some_iff.1 b1).1
        refine ⟨⟨by simp, fun _ => hk, by simp, by simp, by simp, i6, fun h _ => i7 h (by omega), i8, by simp, fun a ham => ?_⟩, ?_⟩
        · rcases List.mem_append.1 ham with ham | ham
          · exact i9 a ham
          · rw [List.mem_singleton.1 ham]
            exact ⟨by simp, by simpa using hl, a3⟩
        · show mdW _ ++ _ = mdW _ ++ _ ++ _
          rw [List.append_assoc]
          have hx : vNm vars ((i : Nat) : Int) = n := by
            unfold vNm
            rw [Int.toNat_natCast, b1]
            exact b2
          have : asW vars (asg ++ [((i : Int), v)]) = asW vars asg ++ [w] := by
            unfold asW
            rw [List.map_append, a1]
            simp only [List.map_cons, List.map_nil, hx]
          show mdW _ ++ _ :: asW vars (asg ++ [((i : Int), v)]) = _
          rw [this]
          rfl
theorem es0_ok (vars : List (ByteArray × Int)) : EsOk vars es0 := ⟨by decide, by simp [es0], by simp [es0], by simp [es0], by simp [es0], by simp [es0], by simp [es0], by simp [es0], by simp [es0], by simp [es0]⟩
/-- what was read was written -/
theorem evL_inv {vars : List (ByteArray × Int)} {line : List UInt8} {col : Nat} {s : ES} (h : evL vars line col = .ok s) : s.k = 4 ∧ EsOk vars s ∧ line = joinC 32 (esW vars s) := by
  unfold evL at h
  cases hr : runW (stepE vars) es0 (spl 32 line) col with
  | error x => rw [hr] at h; cases h
  | ok s1 =>
    rw [hr] at h
    dsimp only at h
    split at h
    · cases h
    · rename_i hk
      cases h
      obtain ⟨h1, h2⟩ := runW_inv (I := EsOk vars) (W := esW vars) step_inv _ es0 s col (es0_ok vars) hr
      have : esW vars es0 = [] := rfl
      rw [this, List.nil_append] at h2
      exact ⟨by have := h1.le; omega, h1, by rw [h2, join_spl]⟩
end Go.Proofs.YtpmponafjhnegaaGreatDoor
