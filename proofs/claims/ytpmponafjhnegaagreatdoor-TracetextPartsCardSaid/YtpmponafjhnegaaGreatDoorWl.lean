/-
  Plain laws for Back: a trace without fault is small; a text that is not read has a fault at a place; the number of the ends of lines of a text. The law Back, walked.
  Conditions: as each theorem says.
-/
import Derived.Test.YtpmponafjhnegaaGreatDoorMm
import Derived.Test.YtpmponafjhnegaaGreatDoorLg
import Derived.Test.YtpmponafjhnegaaGreatDoorWi
import Derived.Test.YtpmponafjhnegaaGreatDoorWf
namespace Go.Proofs.YtpmponafjhnegaaGreatDoor
section
open Nu
theorem runW_col {σ : Type} {step : σ → List UInt8 → Nat → Except Int σ} : ∀ {ws : List (List UInt8)} {s : σ} {col : Nat} {x : Int × Nat}, runW step s ws col = .error x → col ≤ x.2
  | [], s, col, x, h => by cases h
  | w :: ws, s, col, x, h => by
    unfold runW at h
    cases hs : step s w col with
    | error e => rw [hs] at h; cases h; exact Nat.le_refl _
    | ok s2 =>
      rw [hs] at h
      have := runW_col h
      omega
theorem evL_err {vars : List (ByteArray × Int)} {line : List UInt8} {col : Nat} {x : Int × Nat} (h : evL vars line col = .error x) : x.1 ≠ 0 ∧ col ≤ x.2 := by
  have hp := event_plain vars line col (spl 32 line).length (Nat.le_refl _)
  rw [h] at hp
  refine ⟨hp.2.2, ?_⟩
  unfold evL at h
  cases hr : runW (stepE vars) es0 (spl 32 line) col with
  | error y => rw [hr] at h; cases h; exact runW_col hr
  | ok s =>
    rw [hr] at h
    dsimp only at h
    split at h
    · cases h; exact Nat.le_add_right _ _
    · cases h
theorem pcL_err {line : List UInt8} {x : Int × Nat} (h : pcL line = .error x) : x.1 ≠ 0 ∧ 1 ≤ x.2 := by
  have hp := process_plain line (spl 32 line).length (Nat.le_refl _)
  rw [h] at hp
  refine ⟨hp.2.2, ?_⟩
  unfold pcL at h
  cases hr : runW stepP ps0 (spl 32 line) 1 with
  | error y => rw [hr] at h; cases h; exact runW_col hr
  | ok s =>
    rw [hr] at h
    dsimp only at h
    split at h
    · cases h; exact Nat.le_add_right _ _
    · cases h
theorem stepE_pcol {vars : List (ByteArray × Int)} {s s' : ES} {w : List UInt8} {col : Nat} (h : stepE vars s w col = .ok s') (hc : 1 ≤ col) (hs : s.peer.size ≠ 0 → 1 ≤ s.pcol) : s'.peer.size ≠ 0 → 1 ≤ s'.pcol := by
  unfold stepE at h
  repeat' split at h
  all_goals first
    | (cases h; done)
    | (cases h; exact hs)
    | (cases h; exact fun _ => hc)
theorem runE_pcol {vars : List (ByteArray × Int)} : ∀ {ws : List (List UInt8)} {s s' : ES} {col : Nat}, runW (stepE vars) s ws col = .ok s' → 1 ≤ col → (s.peer.size ≠ 0 → 1 ≤ s.pcol) → s'.peer.size ≠ 0 → 1 ≤ s'.pcol
  | [], s, s', col, h, _, hs => by cases h; exact hs
  | w :: ws, s, s', col, h, hc, hs => by
    unfold runW at h
    cases hq : stepE vars s w col with
    | error e => rw [hq] at h; cases h
    | ok s2 =>
      rw [hq] at h
      exact runE_pcol h (by omega) (stepE_pcol hq hc hs)
theorem evL_pcol {vars : List (ByteArray × Int)} {line : List UInt8} {col : Nat} {S : ES} (h : evL vars line col = .ok S) (hc : 1 ≤ col) : S.peer.size ≠ 0 → 1 ≤ S.pcol := by
  unfold evL at h
  cases hr : runW (stepE vars) es0 (spl 32 line) col with
  | error y => rw [hr] at h; cases h
  | ok s =>
    rw [hr] at h
    dsimp only at h
    split at h
    · cases h
    · cases h
      exact runE_pcol hr hc fun h => absurd rfl h
/-- places of what was read -/
def RpPos (p : RP) : Prop := 1 ≤ p.line ∧ ∀ e ∈ p.evs, 1 ≤ e.line ∧ (e.peer.size ≠ 0 → 1 ≤ e.col)
theorem lineX_pos {n : Nat} {ps : List RP} {text : List UInt8} (hn : 1 ≤ n) (hp : ∀ p ∈ ps, RpPos p) : match lineX n ps text with
    | .error x => x.1 ≠ 0 ∧ 1 ≤ x.2
    | .ok ps' => ∀ p ∈ ps', RpPos p := by
  unfold lineX
  cases hb : body text with
  | some b =>
    dsimp only
    cases hg : ps.getLast? with
    | none => exact ⟨by decide, Nat.le_refl _⟩
    | some p =>
      dsimp only
      cases he : evL p.vars b 3 with
      | error x =>
        have := evL_err he
        exact ⟨this.1, by omega⟩
      | ok s =>
        dsimp only
        obtain ⟨qs, rfl, h2⟩ := addE_last hg (reOf n s)
        rw [h2]
        intro q hq
        rcases List.mem_append.1 hq with hq | hq
        · exact hp q (List.mem_append_left _ hq)
        · rw [List.mem_singleton.1 hq]
          have h3 := hp p (by simp)
          refine ⟨h3.1, fun e he2 => ?_⟩
          rcases List.mem_append.1 he2 with he2 | he2
          · exact h3.2 e he2
          · rw [List.mem_singleton.1 he2]
            exact ⟨hn, evL_pcol he (by omega)⟩
  | none =>
    dsimp only
    cases he : pcL text with
    | error x => exact pcL_err he
    | ok s =>
      intro q hq
      rcases List.mem_append.1 hq with hq | hq
      · exact hp q hq
      · rw [List.mem_singleton.1 hq]
        exact ⟨hn, fun e he => absurd he List.not_mem_nil⟩
theorem linesX_pos : ∀ (ls : List (List UInt8)) (n : Nat) (ps : List RP), 1 ≤ n → (∀ p ∈ ps, RpPos p) → match linesX n ps ls with
    | .error x => x.1 ≠ 0 ∧ 1 ≤ x.2.1 ∧ 1 ≤ x.2.2
    | .ok ps' => ∀ p ∈ ps', RpPos p
  | [], n, ps, hn, hp => hp
  | [l], n, ps, hn, hp => by
    unfold linesX
    split
    · rename_i x h
      split at h
      · cases h
      · cases h
        exact ⟨(by decide : (4 : Int) ≠ 0), hn, Nat.succ_le_succ (Nat.zero_le _)⟩
    · rename_i x h
      split at h
      · cases h; exact hp
      · cases h
  | l :: m :: r, n, ps, hn, hp => by
    have h1 := lineX_pos (text := l) hn hp
    unfold linesX
    cases hl : lineX n ps l with
    | error x =>
      rw [hl] at h1
      exact ⟨h1.1, hn, h1.2⟩
    | ok ps' =>
      rw [hl] at h1
      exact linesX_pos (m :: r) (n + 1) ps' (by omega) h1
theorem resEs_pos {ns : List ByteArray} : ∀ (es : List RE), (∀ e ∈ es, 1 ≤ e.line ∧ (e.peer.size ≠ 0 → 1 ≤ e.col)) → ∀ x, resEs ns es = .error x → x.1 ≠ 0 ∧ 1 ≤ x.2.1 ∧ 1 ≤ x.2.2
  | [], _, x, h => by cases h
  | e :: es, he, x, h => by
    rw [resEs_cons] at h
    cases hr : resE ns e with
    | error y =>
      rw [hr] at h
      cases h
      unfold resE at hr
      split at hr
      · cases hr
      · rename_i h0
        split at hr
        · cases hr
          exact ⟨(by decide : (13 : Int) ≠ 0), (he e (by simp)).1, (he e (by simp)).2 h0⟩
        · cases hr
    | ok v =>
      rw [hr] at h
      dsimp only at h
      cases hs : resEs ns es with
      | error y =>
        rw [hs] at h
        cases h
        exact resEs_pos es (fun e he2 => he e (List.mem_cons_of_mem _ he2)) _ hs
      | ok vs => rw [hs] at h; cases h
theorem resPs_pos {ns : List ByteArray} : ∀ (ps : List RP), (∀ p ∈ ps, RpPos p) → ∀ x, resPs ns ps = .error x → x.1 ≠ 0 ∧ 1 ≤ x.2.1 ∧ 1 ≤ x.2.2
  | [], _, x, h => by cases h
  | p :: ps, hp, x, h => by
    rw [resPs_cons] at h
    cases hr : resEs ns p.evs with
    | error y =>
      rw [hr] at h
      cases h
      exact resEs_pos p.evs (hp p (by simp)).2 _ hr
    | ok v =>
      rw [hr] at h
      dsimp only at h
      cases hs : resPs ns ps with
      | error y =>
        rw [hs] at h
        cases h
        exact resPs_pos ps (fun e he2 => hp e (List.mem_cons_of_mem _ he2)) _ hs
      | ok vs => rw [hs] at h; cases h
theorem resEs_ok {ns : List ByteArray} : ∀ (es : List RE) (v : List Ev), resEs ns es = .ok v → v = es.map (rE ns)
  | [], v, h => by cases h; rfl
  | e :: es, v, h => by
    rw [resEs_cons] at h
    cases hr : resE ns e with
    | error y => rw [hr] at h; cases h
    | ok u =>
      rw [hr] at h
      dsimp only at h
      cases hs : resEs ns es with
      | error y => rw [hs] at h; cases h
      | ok vs =>
        rw [hs] at h
        cases h
        have h1 : rE ns e = u := by unfold rE; rw [hr]
        rw [List.map_cons, h1, resEs_ok es vs hs]
theorem resPs_ok {ns : List ByteArray} : ∀ (ps : List RP) (t : List Pr), resPs ns ps = .ok t → t = ps.map (rP ns)
  | [], t, h => by cases h; rfl
  | p :: ps, t, h => by
    rw [resPs_cons] at h
    cases hr : resEs ns p.evs with
    | error y => rw [hr] at h; cases h
    | ok u =>
      rw [hr] at h
      dsimp only at h
      cases hs : resPs ns ps with
      | error y => rw [hs] at h; cases h
      | ok vs =>
        rw [hs] at h
        cases h
        rw [List.map_cons, resPs_ok ps vs hs, resEs_ok p.evs u hr]
        rfl
theorem parse_pos {s : List UInt8} {x : Int × Nat × Nat} (h : parseT s = .error x) : x.1 ≠ 0 ∧ ((1 ≤ x.2.1 ∧ 1 ≤ x.2.2) ∨ x.1 = 5) := by
  unfold parseT at h
  split at h
  · cases h; exact ⟨by decide, .inr rfl⟩
  have h1 := linesX_pos (spl 10 s) 1 [] (Nat.le_refl _) fun p hp => absurd hp List.not_mem_nil
  cases hl : linesX 1 [] (spl 10 s) with
  | error y =>
    rw [hl] at h h1
    cases h
    exact ⟨h1.1, .inl h1.2⟩
  | ok ps =>
    rw [hl] at h h1
    dsimp only at h h1
    cases hr : resPs (ps.map (·.name)) ps with
    | error y =>
      rw [hr] at h
      cases h
      have := resPs_pos ps h1 _ hr
      exact ⟨this.1, .inl this.2⟩
    | ok t =>
      rw [hr] at h
      dsimp only at h
      have ht := resPs_ok ps t hr
      split at h
      · cases h
      rename_i hf
      cases h
      have hp := fault_place t
      unfold plcO
      split
      · exact ⟨by decide, .inl ⟨Nat.le_refl _, Nat.le_refl _⟩⟩
      rename_i h2
      have he : ((faultO t).2 : Int) ≠ 0 := by omega
      split
      · rename_i h3
        refine ⟨he, .inl ⟨?_, Nat.le_refl _⟩⟩
        dsimp only
        have hlt : (faultO t).1.1 < ps.length := by
          rcases hp with h | h | h | h
          · exact absurd h hf
          · exact absurd h h2
          · have := h.2
            have e : t.length = ps.length := by rw [ht, List.length_map]
            omega
          · exact absurd h.1 (by omega)
        obtain ⟨q, hq⟩ : ∃ q, ps[(faultO t).1.1]? = some q := ⟨_, List.getElem?_eq_getElem hlt⟩
        rw [hq]
        exact (h1 q (List.mem_of_getElem? hq)).1
      · rename_i h3
        refine ⟨he, .inl ⟨?_, (by decide : 1 ≤ 3)⟩⟩
        dsimp only
        have hin : InT (ps.map (rP (ps.map (·.name)))) ((faultO t).1.1, (faultO t).1.2) := by
          rcases hp with h | h | h | h
          · exact absurd h hf
          · exact absurd h h2
          · exact absurd h.1 h3
          · rw [← ht]; exact h
        obtain ⟨-, q, e, hq, hqe⟩ := place_at hin
        rw [hq]
        show 1 ≤ ((q.evs[(faultO t).1.2 - 1]?).map (·.line)).getD 0
        rw [hqe]
        exact ((h1 q (List.mem_of_getElem? hq)).2 e (List.mem_of_getElem? hqe)).1
/-- a trace without fault is small -/
theorem valid_tsm {t : List Pr} (h : (faultO t).2 = 0) : TSm t := by
  obtain ⟨h1, h2, h3, -, -⟩ := fault_zero h
  have hx : ∀ (p : Nat) (x : Pr), t[p]? = some x → x.name.size ≤ 16 ∧ x.vars.length ≤ 8 ∧ x.evs.length ≤ 64 ∧ (∀ v ∈ x.vars, v.1.size ≤ 16) ∧ ∀ e ∈ x.evs, e.asg.length ≤ 8 := fun p x hp => by
    have hh := h2 p (List.getElem?_eq_some_iff.1 hp).1
    unfold headE at hh
    rw [hp] at hh
    dsimp only at hh
    split at hh
    · cases hh
    rename_i g1
    split at hh
    · cases hh
    rename_i g2
    split at hh
    · rename_i g3; exact absurd hh g3
    split at hh
    · cases hh
    rename_i g4
    simp only [Bool.or_eq_true, Bool.not_eq_true', not_or, Bool.not_eq_false] at g1
    refine ⟨nameB_size g1.1, by omega, by omega, fun v hv => ?_, fun e he => ?_⟩
    · exact nameB_size ((good_all h x (List.mem_of_getElem? hp)).1.vars v hv).1
    · obtain ⟨i, hi⟩ := List.mem_iff_getElem?.1 he
      have hil := (List.getElem?_eq_some_iff.1 hi).1
      have hf := h3 (p, i + 1) ⟨Nat.succ_le_succ (Nat.zero_le _), by unfold evN; rw [hp]; exact hil⟩
      unfold formE at hf
      dsimp only at hf
      rw [hp] at hf
      dsimp only at hf
      rw [Nat.add_sub_cancel, hi] at hf
      dsimp only at hf
      unfold evE at hf
      split at hf
      · cases hf
      split at hf
      · cases hf
      split at hf
      · cases hf
      omega
  have hsum : ∀ l : List Pr, (∀ x ∈ l, x.evs.length ≤ 64) → sumN l ≤ 64 * l.length := fun l => by
    induction l with
    | nil => intro _; exact Nat.le_refl _
    | cons y l ih =>
      intro hl
      have a1 := ih fun x hx => hl x (List.mem_cons_of_mem _ hx)
      have a2 := hl y (by simp)
      unfold sumN
      rw [List.length_cons]
      omega
  have hall : ∀ x ∈ t, x.name.size ≤ 16 ∧ x.vars.length ≤ 8 ∧ x.evs.length ≤ 64 ∧ (∀ v ∈ x.vars, v.1.size ≤ 16) ∧ ∀ e ∈ x.evs, e.asg.length ≤ 8 := fun x hm => by
    obtain ⟨p, hp⟩ := List.mem_iff_getElem?.1 hm
    exact hx p x hp
  have h4 := hsum t fun x hm => (hall x hm).2.2.1
  refine ⟨by omega, by omega, fun x hm => ?_⟩
  obtain ⟨a1, a2, a3, a4, a5⟩ := hall x hm
  exact ⟨by omega, by omega, by omega, fun v hv => by have := a4 v hv; omega, fun e he => by have := a5 e he; omega⟩
/-- the ends of lines in the text of a trace -/
theorem trLn_len2 (t : List Pr) : ∀ l : List Pr, (trLn t l).length = l.length + sumN l
  | [] => rfl
  | x :: l => by
    have h1 := trLn_len2 t l
    have h2 : trLn t (x :: l) = prLn t x ++ trLn t l := rfl
    have h3 : (prLn t x).length = 1 + x.evs.length := by unfold prLn; simp; omega
    have h4 : sumN (x :: l) = x.evs.length + sumN l := rfl
    rw [h2, List.length_append, h1, h3, h4, List.length_cons]
    omega
theorem wTr_count {t : List Pr} (h : (faultO t).2 = 0) : (wTr t).count 10 = t.length + sumN t := by
  have h1 := spl_count 10 (wTr t)
  rw [spl_tr h, List.length_append, trLn_len2] at h1
  simp at h1
  omega
theorem wTr_suffix {t : List Pr} (h : (faultO t).2 = 0) : Lib.hasSuffix (wTr t) [10] = true := by
  have hne : 1 ≤ t.length := by have := (fault_zero h).1; omega
  unfold Lib.hasSuffix
  rw [List.isSuffixOf_iff_suffix]
  rw [wTr_lines]
  have hl : trLn t t ≠ [] := fun e => by
    have := trLn_len2 t t
    rw [e] at this
    simp at this
    omega
  obtain ⟨ls, x, hx⟩ : ∃ ls x, trLn t t = ls ++ [x] := ⟨_, _, (List.dropLast_concat_getLast hl).symm⟩
  rw [hx]
  exact ⟨ls.flatMap (fun l => l ++ [10]) ++ x, by simp⟩
end
section
open Go.RowKit Nu
theorem count_c (l : List UInt8) (w : World) : Calls Tryz.prog 23 #[.string (bs l), .string ⟨#[10]⟩] w (Ret w (.int .i64 ((l.count 10 : Nat) : Int))) := by
  refine (Tryz.strings_Count_one (bs l) 10 w).mono ?_
  rintro e w' ⟨rfl, rfl⟩
  exact ⟨rfl, Ex.refl _⟩
theorem suffix_c (l : List UInt8) (w : World) (hl : l.length ≤ 1000000) : Calls Tryz.prog 28 #[.string (bs l), .string ⟨#[10]⟩] w (Ret w (.bool (Lib.hasSuffix l [10]))) := by
  refine (Tryz.strings_HasSuffix (bs l) ⟨#[10]⟩ w (by have : (bs l).size = l.length := rfl; omega)).mono ?_
  rintro e w' ⟨rfl, rfl⟩
  exact ⟨rfl, Ex.refl _⟩
/-- what Text answers, in words -/
theorem textV_ok {t : List Pr} (h : (faultO t).2 = 0) (hl : (wTr t).length ≤ 16384) : textV t = .tuple #[.string (bs (wTr t)), .int .i64 0] := by
  unfold textV
  rw [if_pos (by unfold validB; exact decide_eq_true h), if_neg (by omega)]
theorem textV_not {t : List Pr} (h : ¬ ((faultO t).2 = 0 ∧ (wTr t).length ≤ 16384)) : ∃ e : Int, e ≠ 0 ∧ textV t = .tuple #[.string ⟨#[]⟩, .int .i64 e] := by
  unfold textV
  split
  · rename_i hv
    have hf : (faultO t).2 = 0 := by unfold validB at hv; exact of_decide_eq_true hv
    have hl : 16384 < (wTr t).length := by
      apply Classical.byContradiction
      intro h2
      exact h ⟨hf, by omega⟩
    rw [if_pos hl]
    exact ⟨5, by decide, rfl⟩
  · exact ⟨1, by decide, rfl⟩
set_option maxRecDepth 100000 in
set_option maxHeartbeats 12800000 in
theorem back_law (t : List Pr) (A : Option Addr) (c : Nat) (l : List UInt8) (w : World) (hE : Env w) (hT : TcC w A t) (hcap : t.length ≤ c) (htl : t.length ≤ 281474976710656) (hbig : ∀ x, x ∈ t → x.evs.length ≤ 281474976710656) :
    Calls Tryz.prog 7 #[.agg #[.slice A t.length c], .string (bs l)] w (Ret w (.bool true)) := by
  have HE : Hid (∀ w', Ex w w' → Env w') := fun w' h => hE.ex h
  have HT : Hid (∀ w', Ex w w' → TcC w' A t) := fun w' h => hT.ex h
  have HAw : Hid (∀ w', Ex w w' → Calls Tryz.prog 10 #[] w' (Ret w' (.bool true))) := fun w' h => awake_c w' (hE.ex h)
  have HSc : Hid (∀ w', Ex w w' → Calls Tryz.prog 11 #[.agg #[.slice A t.length c]] w' (Ret w' (.bool (smallB t)))) := fun w' h => small_c t A c w' (hT.ex h) htl hbig
  obtain ⟨W1, hW1⟩ : ∃ W1, W1 = w.alloc (.cells #[.slice A t.length c] 24) := ⟨_, rfl⟩
  have hX1 : Ex w W1 := by rw [hW1]; exact (Ex.refl w).alloc _
  have hB1 : Blk W1 w.heap.size 24 [.slice A t.length c] := by rw [hW1]; exact Blk.new w _ _
  have HW1 := Lib.hid hW1
  have HX1 := Lib.hid hX1
  have HB1 := Lib.hid hB1
  have HCp := Lib.hid hcap
  have hsl : (bs l).size = l.length := rfl
  clear hE hT hW1 hX1 hB1 hbig htl hcap
  go_enter Tryz.func7, Tryz.ntmps7
  go_upto_region 1 with fail
  rw [← HW1.out]
  go_wp2_with fail
  refine (HAw.out _ HX1.out).mono ?_
  rintro e9 w2 ⟨rfl, hx⟩
  have HX2 := Lib.hid (HX1.out.trans hx)
  have x0 := (HB1.out.ex hx).cell 0
  have xl := (HB1.out.ex hx).lt
  have HB2 := Lib.hid (HB1.out.ex hx)
  clear hx
  go_wp2_with fail
  refine (HSc.out _ HX2.out).mono ?_
  rintro e9 w3 ⟨rfl, hx⟩
  have HX3 := Lib.hid (HX2.out.trans hx)
  have HB3 := Lib.hid (HB2.out.ex hx)
  clear hx x0 xl
  have x0 := HB3.out.cell 0
  have xl := HB3.out.lt
  cases hsm : smallB t with
  | false =>
    clear HSc
    go_wp2_with fail
    go_ret
    exact Ret.mk rfl HX3.out
  | true =>
    obtain ⟨hts, hsum, hlen, -⟩ := small_tsm hsm
    clear HSc hsm HAw
    by_cases hl3 : 3000 < l.length
    · have b0 : decide ((3000 : Int) < (l.length : Int)) = true := decide_eq_true (by omega)
      clear hl3
      go_wp2_with fail
      go_ret
      exact Ret.mk rfl HX3.out
    have b0 : decide ((3000 : Int) < (l.length : Int)) = false := decide_eq_false (by omega)
    have HLn : Hid (l.length ≤ 3000) := Lib.hid (by omega)
    have HTs := Lib.hid hts
    have HTx : Hid (∀ w', Ex w w' → Calls Tryz.prog 13 #[.agg #[.slice A t.length c]] w' (Ret w' (textV t))) := fun w' h => text_c t A c w' (HE.out w' h) (HT.out w' h) HTs.out HCp.out
    have HNum := Lib.hid (And.intro hsum hlen)
    clear hts hsum hlen hl3
    go_wp2_with fail
    refine (HTx.out _ HX3.out).mono ?_
    rintro e9 w4 ⟨rfl, hx⟩
    have HX4 := Lib.hid (HX3.out.trans hx)
    have HB4 := Lib.hid (HB3.out.ex hx)
    clear hx x0 xl HTx
    have x0 := HB4.out.cell 0
    have xl := HB4.out.lt
    obtain ⟨TV, hTV⟩ : ∃ TV, TV = textV t := ⟨_, rfl⟩
    rw [← hTV]
    by_cases hok : (faultO t).2 = 0 ∧ (wTr t).length ≤ 16384
    · have hV := hTV.trans (textV_ok hok.1 hok.2)
      subst hV
      have hpr := parse_w hok.1 hok.2
      have HOk := Lib.hid hok
      have HPr := Lib.hid hpr
      have HPc : Hid (∀ w', Ex w w' → Calls Tryz.prog 20 #[.string (bs (wTr t))] w' (ParseR (wTr t) w')) := fun w' h => parse_c (wTr t) w' (HE.out w' h) (by have := hok.2; omega)
      clear hTV hok hpr
      go_upto_if 34 with fail
      go_cut [] from 35 to 82 (fun wx => Hid (Ex w wx))
      case first =>
        go_wp2_with fail
        refine (HPc.out _ HX4.out).mono ?_
        rintro e9 w5 ⟨hx, hm⟩
        rw [HPr.out] at hm
        obtain ⟨A2, c2, rfl, hT2, hc2⟩ := hm
        have hB5 := (Blk.new w5 24 [.slice A2 t.length c2]).alloc (.cells #[.int .i64 0, .int .i64 0] 48)
        have hz : (w5.alloc (.cells #[.slice A2 t.length c2] 24)).heap.size = w5.heap.size + 1 := Array.size_push _
        have hB6 := Blk.new (w5.alloc (.cells #[.slice A2 t.length c2] 24)) 48 [.int .i64 0, .int .i64 0]
        rw [hz] at hB6
        have hX6 : Ex w5 ((w5.alloc (.cells #[.slice A2 t.length c2] 24)).alloc (.cells #[.int .i64 0, .int .i64 0] 48)) := ((Ex.refl w5).alloc _).alloc _
        have HX6 := Lib.hid (HX4.out.trans (hx.trans hX6))
        have HB5 := Lib.hid hB5
        have HB6 := Lib.hid hB6
        have HT6 := Lib.hid (hT2.ex hX6)
        have HB7 := Lib.hid ((HB4.out.ex hx).ex hX6)
        clear hx hB5 hz hB6 hX6 hT2 hc2 x0 xl
        go_upto_region 8 with fail
        generalize (w5.alloc (.cells #[.slice A2 t.length c2] 24)).alloc (.cells #[.int .i64 0, .int .i64 0] 48) = W6 at *
        have x0 := HB7.out.cell 0
        have xl := HB7.out.lt
        go_wp2_with fail
        go_loopg [10, 47] t.length (fun gg u v wx => ∃ p : Nat, u = .int .i64 ((t.length + sumN (t.take p) : Nat) : Int) ∧ v = .int .i64 (p : Int) ∧ p ≤ t.length ∧ t.length ≤ p + gg ∧ Hid (Ex W6 wx))
        case atStart => exact ⟨0, rfl, rfl, Nat.zero_le _, by omega, Lib.hid (Ex.refl _)⟩
        case round =>
          obtain ⟨p, rfl, rfl, hp, hpg, HXp⟩ := hrel
          clear x0 xl
          by_cases hpl : p < t.length
          · obtain ⟨n9, rfl⟩ : ∃ n9, gk = n9 + 1 := ⟨gk - 1, by omega⟩
            obtain ⟨x, hx⟩ : ∃ x, t[p]? = some x := ⟨_, List.getElem?_eq_getElem hpl⟩
            obtain ⟨ba, oa, hA, hba, V, vc, E, ec, g0, g1, g2, -, -⟩ := HT.out _ (HX6.out.trans HXp.out) p x hx
            subst hA
            have hsn := sumN_snoc' hx
            have hst := sumN_take' t (p + 1)
            have hn1 := HNum.out.1
            have hn2 := HNum.out.2
            have m0 : (0 : Int) ≤ (p : Int) := by omega
            have m1 : (p : Int) < (t.length : Int) := by omega
            have q1 : IntKind.i64.wrap (((t.length + sumN (t.take p) : Nat) : Int) + (x.evs.length : Int)) = ((t.length + sumN (t.take (p + 1)) : Nat) : Int) := by
              rw [IntWalk.i64_in _ (by omega)]
              omega
            generalize t.length + sumN (t.take p) = S at *
            have q2 : IntKind.i64.wrap ((p : Int) + 1) = (p : Int) + 1 := IntWalk.i64_in _ (by omega)
            clear hx hsn hst hn1 hn2
            go_wp2_with fail
            go_roundg n9
            case measure => omega
            case rel => exact ⟨p + 1, by go_num, by go_num, by omega, by omega, Lib.hid (HXp.out.alloc _)⟩
          · obtain rfl : p = t.length := by omega
            have m1 : decide ((t.length : Int) < (t.length : Int)) = false := decide_eq_false (by omega)
            rw [List.take_length]
            have HXw := Lib.hid (HX6.out.trans HXp.out)
            have y0 := (HB5.out.ex HXp.out).cell 0
            have yl := (HB5.out.ex HXp.out).lt
            have z0 := (HB6.out.ex HXp.out).cell 0
            have z1 := (HB6.out.ex HXp.out).cell 1
            have zl := (HB6.out.ex HXp.out).lt
            have x0 := (HB7.out.ex HXp.out).cell 0
            have xl := (HB7.out.ex HXp.out).lt
            have HSa := Lib.hid (fun w' (h : Ex wr w') => same_c t A2 A c2 c w' ((HT6.out.ex HXp.out).ex h) (HT.out w' (HXw.out.trans h)) HTs.out)
            have hct := wTr_count HOk.out.1
            have hsx := wTr_suffix HOk.out.1
            have HCt := Lib.hid (fun w' => count_c (wTr t) w')
            have HSf := Lib.hid (fun w' => suffix_c (wTr t) w' (by have := HOk.out.2; omega))
            rw [hct] at HCt
            rw [hsx] at HSf
            have b1 : (((t.length + sumN t : Nat) : Int) != ((t.length + sumN t : Nat) : Int)) = false := bne_self_eq_false _
            clear hct hsx
            generalize t.length + sumN t = NN at *
            go_wp2_with fail
            refine (HSa.out _ (Ex.refl _)).mono ?_
            rintro e9 w8 ⟨rfl, hx8⟩
            have HX8 := Lib.hid hx8
            clear hx8
            go_wp2_with fail
            refine (HCt.out _).mono ?_
            rintro e9 w9 ⟨rfl, hx9⟩
            have HX9 := Lib.hid (HX8.out.trans hx9)
            clear hx9
            go_wp2_with fail
            refine (HSf.out _).mono ?_
            rintro e9 w10 ⟨rfl, hx10⟩
            have HX10 := Lib.hid (HX9.out.trans hx10)
            clear hx10
            go_wp2_with fail
            go_meet
            case rel => exact Lib.hid (HXw.out.trans HX10.out)
      case rest =>
        have HXc := Lib.hid hcut.out
        have HPs := Lib.hid (parse_c l wc (HE.out wc HXc.out) (by have := HLn.out; omega))
        clear hcut x0 xl
        go_wp2_with fail
        refine (HPs.out).mono ?_
        rintro e9 v1 ⟨hx, hm⟩
        have HXv := Lib.hid (HXc.out.trans hx)
        clear hx HPs
        cases hpl : parseT l with
        | error x =>
          rw [hpl] at hm
          obtain ⟨xe, xr, xc⟩ := x
          have hpos := parse_pos hpl
          dsimp only at hm hpos
          subst hm
          unfold errV
          have c0 : (xe == 0) = false := beq_eq_false_iff_ne.2 hpos.1
          have c1 : (xe != 0) = true := bne_iff_ne.2 hpos.1
          have hor : (1 ≤ xr ∧ 1 ≤ xc) ∨ xe = 5 := hpos.2
          clear hpl hpos
          by_cases h1 : 1 ≤ xr
          · have d1 : decide (1 ≤ (xr : Int)) = true := decide_eq_true (by omega)
            by_cases h2 : 1 ≤ xc
            · have d2 : decide (1 ≤ (xc : Int)) = true := decide_eq_true (by omega)
              clear h1 h2 hor
              go_wp2_with fail
              go_ret
              exact Ret.mk rfl ((HXv.out.alloc _).alloc _)
            · have d2 : decide (1 ≤ (xc : Int)) = false := decide_eq_false (by omega)
              have h5 : xe = 5 := by rcases hor with h | h; exact absurd h.2 h2; exact h
              subst h5
              clear h1 h2 hor
              go_wp2_with fail
              go_ret
              exact Ret.mk rfl ((HXv.out.alloc _).alloc _)
          · have d1 : decide (1 ≤ (xr : Int)) = false := decide_eq_false (by omega)
            have h5 : xe = 5 := by rcases hor with h | h; exact absurd h.1 h1; exact h
            subst h5
            clear h1 hor
            go_wp2_with fail
            go_ret
            exact Ret.mk rfl ((HXv.out.alloc _).alloc _)
        | ok t2 =>
          rw [hpl] at hm
          obtain ⟨A3, c3, rfl, hT3, hc3⟩ := hm
          obtain ⟨hw3, hf3, hln3⟩ := parse_inv hpl
          have hts3 := valid_tsm hf3
          have hv3 : textV t2 = .tuple #[.string (bs l), .int .i64 0] := by rw [textV_ok hf3 (by rw [hw3]; exact hln3), hw3]
          have hv4 : validB t2 = true := by unfold validB; exact decide_eq_true hf3
          have HTx3 : Hid (∀ w', Ex v1 w' → Calls Tryz.prog 13 #[.agg #[.slice A3 t2.length c3]] w' (Ret w' (.tuple #[.string (bs l), .int .i64 0]))) := fun w' h => by
            have h9 := text_c t2 A3 c3 w' (HE.out w' (HXv.out.trans h)) (hT3.ex h) hts3 hc3
            rw [hv3] at h9
            exact h9
          have HV3 : Hid (∀ w', Ex v1 w' → Calls Tryz.prog 12 #[.agg #[.slice A3 t2.length c3]] w' (Ret w' (.bool true))) := fun w' h => by
            have h9 := rValid_c t2 A3 c3 w' (hT3.ex h) hts3
            rw [hv4] at h9
            exact h9
          have hB5 := (Blk.new v1 24 [.slice A3 t2.length c3]).alloc (.cells #[.int .i64 0, .int .i64 0] 48)
          have hX6 : Ex v1 ((v1.alloc (.cells #[.slice A3 t2.length c3] 24)).alloc (.cells #[.int .i64 0, .int .i64 0] 48)) := ((Ex.refl v1).alloc _).alloc _
          have HX6 := Lib.hid hX6
          have HB5 := Lib.hid hB5
          clear hB5 hX6 hT3 hc3 hpl hw3 hf3 hln3 hts3 hv3 hv4
          go_upto_region 19 with fail
          generalize (v1.alloc (.cells #[.slice A3 t2.length c3] 24)).alloc (.cells #[.int .i64 0, .int .i64 0] 48) = W6 at *
          have x0 := HB5.out.cell 0
          have xl := HB5.out.lt
          go_wp2_with fail
          refine (HTx3.out _ HX6.out).mono ?_
          rintro e9 v2 ⟨rfl, hx⟩
          have HX7 := Lib.hid (HX6.out.trans hx)
          have HB7 := Lib.hid (HB5.out.ex hx)
          clear hx x0 xl
          have x0 := HB7.out.cell 0
          have xl := HB7.out.lt
          go_wp2_with fail
          refine (HV3.out _ HX7.out).mono ?_
          rintro e9 v3 ⟨rfl, hx⟩
          have HX8 := Lib.hid (HX7.out.trans hx)
          clear hx x0 xl
          go_wp2_with fail
          go_ret
          exact Ret.mk rfl (HXv.out.trans HX8.out)
    · obtain ⟨e, he, hV0⟩ := textV_not hok
      have hV := hTV.trans hV0
      subst hV
      have b1 : (e == 0) = false := beq_eq_false_iff_ne.2 he
      clear hTV hV0 hok he
      go_upto_if 34 with fail
      go_cut [] from 35 to 82 (fun wx => Hid (Ex w wx))
      case first =>
        go_wp2_with fail
        go_meet
        case rel => exact Lib.hid HX4.out
      case rest =>
        have HXc := Lib.hid hcut.out
        have HPs := Lib.hid (parse_c l wc (HE.out wc HXc.out) (by have := HLn.out; omega))
        clear hcut x0 xl
        go_wp2_with fail
        refine (HPs.out).mono ?_
        rintro e9 v1 ⟨hx, hm⟩
        have HXv := Lib.hid (HXc.out.trans hx)
        clear hx HPs
        cases hpl : parseT l with
        | error x =>
          rw [hpl] at hm
          obtain ⟨xe, xr, xc⟩ := x
          have hpos := parse_pos hpl
          dsimp only at hm hpos
          subst hm
          unfold errV
          have c0 : (xe == 0) = false := beq_eq_false_iff_ne.2 hpos.1
          have c1 : (xe != 0) = true := bne_iff_ne.2 hpos.1
          have hor : (1 ≤ xr ∧ 1 ≤ xc) ∨ xe = 5 := hpos.2
          clear hpl hpos
          by_cases h1 : 1 ≤ xr
          · have d1 : decide (1 ≤ (xr : Int)) = true := decide_eq_true (by omega)
            by_cases h2 : 1 ≤ xc
            · have d2 : decide (1 ≤ (xc : Int)) = true := decide_eq_true (by omega)
              clear h1 h2 hor
              go_wp2_with fail
              go_ret
              exact Ret.mk rfl ((HXv.out.alloc _).alloc _)
            · have d2 : decide (1 ≤ (xc : Int)) = false := decide_eq_false (by omega)
              have h5 : xe = 5 := by rcases hor with h | h; exact absurd h.2 h2; exact h
              subst h5
              clear h1 h2 hor
              go_wp2_with fail
              go_ret
              exact Ret.mk rfl ((HXv.out.alloc _).alloc _)
          · have d1 : decide (1 ≤ (xr : Int)) = false := decide_eq_false (by omega)
            have h5 : xe = 5 := by rcases hor with h | h; exact absurd h.1 h1; exact h
            subst h5
            clear h1 hor
            go_wp2_with fail
            go_ret
            exact Ret.mk rfl ((HXv.out.alloc _).alloc _)
        | ok t2 =>
          rw [hpl] at hm
          obtain ⟨A3, c3, rfl, hT3, hc3⟩ := hm
          obtain ⟨hw3, hf3, hln3⟩ := parse_inv hpl
          have hts3 := valid_tsm hf3
          have hv3 : textV t2 = .tuple #[.string (bs l), .int .i64 0] := by rw [textV_ok hf3 (by rw [hw3]; exact hln3), hw3]
          have hv4 : validB t2 = true := by unfold validB; exact decide_eq_true hf3
          have HTx3 : Hid (∀ w', Ex v1 w' → Calls Tryz.prog 13 #[.agg #[.slice A3 t2.length c3]] w' (Ret w' (.tuple #[.string (bs l), .int .i64 0]))) := fun w' h => by
            have h9 := text_c t2 A3 c3 w' (HE.out w' (HXv.out.trans h)) (hT3.ex h) hts3 hc3
            rw [hv3] at h9
            exact h9
          have HV3 : Hid (∀ w', Ex v1 w' → Calls Tryz.prog 12 #[.agg #[.slice A3 t2.length c3]] w' (Ret w' (.bool true))) := fun w' h => by
            have h9 := rValid_c t2 A3 c3 w' (hT3.ex h) hts3
            rw [hv4] at h9
            exact h9
          have hB5 := (Blk.new v1 24 [.slice A3 t2.length c3]).alloc (.cells #[.int .i64 0, .int .i64 0] 48)
          have hX6 : Ex v1 ((v1.alloc (.cells #[.slice A3 t2.length c3] 24)).alloc (.cells #[.int .i64 0, .int .i64 0] 48)) := ((Ex.refl v1).alloc _).alloc _
          have HX6 := Lib.hid hX6
          have HB5 := Lib.hid hB5
          clear hB5 hX6 hT3 hc3 hpl hw3 hf3 hln3 hts3 hv3 hv4
          go_upto_region 19 with fail
          generalize (v1.alloc (.cells #[.slice A3 t2.length c3] 24)).alloc (.cells #[.int .i64 0, .int .i64 0] 48) = W6 at *
          have x0 := HB5.out.cell 0
          have xl := HB5.out.lt
          go_wp2_with fail
          refine (HTx3.out _ HX6.out).mono ?_
          rintro e9 v2 ⟨rfl, hx⟩
          have HX7 := Lib.hid (HX6.out.trans hx)
          have HB7 := Lib.hid (HB5.out.ex hx)
          clear hx x0 xl
          have x0 := HB7.out.cell 0
          have xl := HB7.out.lt
          go_wp2_with fail
          refine (HV3.out _ HX7.out).mono ?_
          rintro e9 v3 ⟨rfl, hx⟩
          have HX8 := Lib.hid (HX7.out.trans hx)
          clear hx x0 xl
          go_wp2_with fail
          go_ret
          exact Ret.mk rfl (HXv.out.trans HX8.out)
theorem bs_eta (s : ByteArray) : bs s.data.toList = s := by
  rcases s with ⟨⟨l⟩⟩
  rfl
theorem back_lawS (t : List Pr) (A : Option Addr) (c : Nat) (s : ByteArray) (w : World) (hE : Env w) (hT : TcC w A t) (hcap : t.length ≤ c) (htl : t.length ≤ 281474976710656) (hbig : ∀ x, x ∈ t → x.evs.length ≤ 281474976710656) :
    Calls Tryz.prog 7 #[.agg #[.slice A t.length c], .string s] w (Ret w (.bool true)) := by
  have h := back_law t A c s.data.toList w hE hT hcap htl hbig
  rw [bs_eta] at h
  exact h
end
end Go.Proofs.YtpmponafjhnegaaGreatDoor
