/-
  What is written is read again: the lines of events and of processes, plain; what is read of a process was written.
  Conditions: as each theorem says.
-/
import Derived.Test.YtpmponafjhnegaaGreatDoorLc
namespace Go.Proofs.YtpmponafjhnegaaGreatDoor
open Nu
/-- what an event asks so that its line can be read -/
structure EvW (t : List Pr) (vars : List (ByteArray × Int)) (e : Ev) : Prop where
  kind : e.kind = 1 ∨ e.kind = 2 ∨ e.kind = 3
  nm : e.kind ≠ 1 → nameB (bs (nmOf t e.peer)) = true
  msg : -1125899906842624 ≤ e.msg ∧ e.msg ≤ 1125899906842624
  time : -1125899906842624 ≤ e.time ∧ e.time ≤ 1125899906842624
  asg : ∀ a ∈ e.asg, nameB (vNm vars a.1) = true ∧ vIdx (vNm vars a.1) vars = some a.1.toNat ∧ 0 ≤ a.1 ∧ -1125899906842624 ≤ a.2 ∧ a.2 ≤ 1125899906842624
/-- what is read of it -/
def esOf (t : List Pr) (e : Ev) (col : Nat) : ES :=
  if e.kind = 1 then ⟨4, 1, bs [], 0, 0, e.time, e.asg⟩ else ⟨4, e.kind, bs (nmOf t e.peer), col + (kw e.kind).length + 1, e.msg, e.time, e.asg⟩
theorem run_asg {vars : List (ByteArray × Int)} : ∀ (l : List (Int × Int)) (s : ES) (col : Nat), s.k = 4 → (∀ a ∈ l, nameB (vNm vars a.1) = true ∧ vIdx (vNm vars a.1) vars = some a.1.toNat ∧ 0 ≤ a.1 ∧ -1125899906842624 ≤ a.2 ∧ a.2 ≤ 1125899906842624) →
    runW (stepE vars) s (asW vars l) col = .ok { s with asg := s.asg ++ l }
  | [], s, col, _, _ => by simp [asW, runW]
  | a :: l, s, col, hk, h => by
    obtain ⟨h1, h2, h3, h4⟩ := h a (List.mem_cons_self ..)
    have hst : stepE vars s ((vNm vars a.1).data.toList ++ 61 :: Lib.itoa a.2) col = .ok { s with asg := s.asg ++ [a] } := by
      obtain ⟨k, kind, peer, pcol, msg, time, asg⟩ := s
      dsimp only at hk
      subst hk
      unfold stepE
      dsimp only
      rw [asgO_w h1 h4]
      dsimp only
      rw [h2]
      dsimp only
      rw [Int.toNat_of_nonneg h3]
    show runW (stepE vars) s (_ :: asW vars l) col = _
    rw [runW_one hst, run_asg l { s with asg := s.asg ++ [a] } _ hk fun b hb => h b (List.mem_cons_of_mem _ hb)]
    simp
theorem joinS (ws : List (List UInt8)) (w : List UInt8) : joinC 32 (w :: ws) = w ++ ws.flatMap fun v => 32 :: v := by
  induction ws generalizing w with
  | nil => simp [joinC]
  | cons v ws ih => rw [joinC_cons _ _ (by simp), ih v, List.flatMap_cons]; simp
/-- the words of an event's line -/
def evWs (t : List Pr) (vars : List (ByteArray × Int)) (e : Ev) : List (List UInt8) :=
  (if e.kind = 1 then [wLocal] else [kw e.kind, nmOf t e.peer, Lib.itoa e.msg]) ++ (64 :: Lib.itoa e.time) :: asW vars e.asg
theorem wEv_words (t : List Pr) (vars : List (ByteArray × Int)) (e : Ev) : wEv t vars e = joinC 32 (evWs t vars e) := by
  have ha : wAsgs vars e.asg = (asW vars e.asg).flatMap fun v => 32 :: v := by
    unfold wAsgs asW wAsg vNm
    rw [List.flatMap_map]
  unfold wEv evWs wHead
  by_cases hk : e.kind = 1
  · rw [if_pos hk, if_pos hk, List.singleton_append, joinS, ha]
    simp
  · rw [if_neg hk, if_neg hk, List.cons_append, joinS, ha]
    unfold kw
    rw [if_neg hk]
    simp
theorem wKind_no (k : Int) : (32 : UInt8) ∉ kw k ∧ (10 : UInt8) ∉ kw k := by
  unfold kw
  split
  · decide
  · split <;> decide
theorem evWs_no {t : List Pr} {vars : List (ByteArray × Int)} {e : Ev} (h : EvW t vars e) {c : UInt8} (hc : c = 32 ∨ c = 10) : ∀ w ∈ evWs t vars e, c ∉ w := by
  have c1 : c.toNat < 48 := by rcases hc with rfl | rfl <;> decide
  have c2 : c.toNat ≠ 45 := by rcases hc with rfl | rfl <;> decide
  have c3 : c ≠ 64 ∧ c ≠ 61 := by rcases hc with rfl | rfl <;> decide
  have hk : ∀ k, c ∉ kw k := fun k => by rcases hc with rfl | rfl; exact (wKind_no k).1; exact (wKind_no k).2
  intro w hw
  unfold evWs at hw
  rcases List.mem_append.1 hw with hw | hw
  · split at hw
    · rw [List.mem_singleton.1 hw]
      exact hk 1
    · rename_i h1
      simp only [List.mem_cons, List.not_mem_nil, or_false] at hw
      rcases hw with rfl | rfl | rfl
      · exact hk _
      · exact name_no (h.nm h1) (.inl c1)
      · exact itoa_no _ c2 (.inl c1)
  · rcases List.mem_cons.1 hw with rfl | hw
    · intro hm
      rcases List.mem_cons.1 hm with hm | hm
      · exact c3.1 hm
      · exact itoa_no _ c2 (.inl c1) hm
    · unfold asW at hw
      obtain ⟨a, ha, rfl⟩ := List.mem_map.1 hw
      intro hm
      rcases List.mem_append.1 hm with hm | hm
      · exact name_no (h.asg a ha).1 (.inl c1) hm
      · rcases List.mem_cons.1 hm with hm | hm
        · exact c3.2 hm
        · exact itoa_no _ c2 (.inl c1) hm
theorem evWs_ne (t : List Pr) (vars : List (ByteArray × Int)) (e : Ev) : evWs t vars e ≠ [] := by unfold evWs; simp
theorem evL_w {t : List Pr} {vars : List (ByteArray × Int)} {e : Ev} (h : EvW t vars e) (col : Nat) : evL vars (wEv t vars e) col = .ok (esOf t e col) := by
  have hs : spl 32 (wEv t vars e) = evWs t vars e := by
    rw [wEv_words]
    exact spl_join (evWs_ne t vars e) (evWs_no h (.inl rfl))
  have ht : ∀ (s : ES) (c : Nat), s.k = 3 → stepE vars s (64 :: Lib.itoa e.time) c = .ok { s with k := 4, time := e.time } := fun s c hk => by
    obtain ⟨k, kind, peer, pcol, msg, time, asg⟩ := s
    dsimp only at hk
    subst hk
    obtain ⟨h1, h2⟩ := par_itoa e.time h.time
    show (if parE (Lib.itoa e.time) = 0 then Except.ok _ else _) = _
    rw [if_pos h2, h1]
  have hr : runW (stepE vars) es0 (spl 32 (wEv t vars e)) col = .ok (esOf t e col) := by
    rw [hs]
    unfold evWs esOf
    by_cases hk : e.kind = 1
    · rw [if_pos hk, if_pos hk, List.singleton_append, runW_one (s' := ⟨3, 1, bs [], 0, 0, 0, []⟩) rfl, runW_one (ht _ _ rfl), run_asg _ _ _ rfl h.asg]
      rfl
    · have hkw : stepE vars es0 (kw e.kind) col = .ok ⟨1, e.kind, bs [], 0, 0, 0, []⟩ := by
        rcases h.kind with h1 | h1 | h1
        · exact absurd h1 hk
        · rw [h1]; rfl
        · rw [h1]; rfl
      have hnm : ∀ c, stepE vars ⟨1, e.kind, bs [], 0, 0, 0, []⟩ (nmOf t e.peer) c = .ok ⟨2, e.kind, bs (nmOf t e.peer), c, 0, 0, []⟩ := fun c => by
        unfold stepE
        dsimp only
        rw [h.nm hk]
        rfl
      have hms : ∀ (p : ByteArray) (pc c : Nat), stepE vars ⟨2, e.kind, p, pc, 0, 0, []⟩ (Lib.itoa e.msg) c = .ok ⟨3, e.kind, p, pc, e.msg, 0, []⟩ := fun p pc c => by
        obtain ⟨h1, h2⟩ := par_itoa e.msg h.msg
        unfold stepE
        dsimp only
        rw [h1, h2]
        rfl
      rw [if_neg hk, if_neg hk]
      simp only [List.cons_append, List.nil_append]
      rw [runW_one hkw, runW_one (hnm _), runW_one (hms _ _ _), runW_one (ht _ _ rfl), run_asg _ _ _ rfl h.asg]
      rfl
  unfold evL
  rw [hr]
  dsimp only
  rw [if_neg]
  unfold esOf
  split <;> simp
/-- the words of a process -/
def vrW (vars : List (ByteArray × Int)) : List (List UInt8) := vars.map fun v => v.1.data.toList ++ 61 :: Lib.itoa v.2
def psW (s : PS) : List (List UInt8) := match s.k with | 0 => [] | 1 => [wProcess] | _ + 2 => wProcess :: s.name.data.toList :: vrW s.vars
structure PsOk (s : PS) : Prop where
  le : s.k ≤ 2
  none_ : s.k < 2 → s.vars = []
  nm : 2 ≤ s.k → nameB s.name = true
  vars : ∀ v ∈ s.vars, nameB v.1 = true ∧ -1125899906842624 ≤ v.2 ∧ v.2 ≤ 1125899906842624
theorem stepP_inv (s : PS) (w : List UInt8) (col : Nat) (s' : PS) (hi : PsOk s) (h : stepP s w col = .ok s') : PsOk s' ∧ psW s' = psW s ++ [w] := by
  obtain ⟨k, name, vars⟩ := s
  obtain ⟨i1, i2, i3, i4⟩ := hi
  dsimp only at i1 i2 i3 i4
  match k, h with
  | 0, h =>
    have hv := i2 (by decide)
    subst hv
    unfold stepP at h
    dsimp only at h
    split at h
    · rename_i e; cases h; subst e
      exact ⟨⟨by simp, by simp, by simp, by simp⟩, rfl⟩
    · cases h
  | 1, h =>
    have hv := i2 (by decide)
    subst hv
    unfold stepP at h
    dsimp only at h
    split at h
    · rename_i e; cases h
      exact ⟨⟨by simp, by simp, fun _ => e, by simp⟩, rfl⟩
    · cases h
  | k + 2, h =>
    obtain rfl : k = 0 := by omega
    unfold stepP at h
    dsimp only at h
    cases ha : asgO w with
    | error e => rw [ha] at h; cases h
    | ok x =>
      obtain ⟨n, v⟩ := x
      rw [ha] at h
      cases h
      obtain ⟨a1, a2, a3⟩ := asgO_ok ha
      refine ⟨⟨by simp, by simp, fun _ => i3 (by decide), fun u hu => ?_⟩, ?_⟩
      · rcases List.mem_append.1 hu with hu | hu
        · exact i4 u hu
        · rw [List.mem_singleton.1 hu]; exact ⟨a2, a3⟩
      · show wProcess :: name.data.toList :: vrW (vars ++ [(n, v)]) = wProcess :: name.data.toList :: vrW vars ++ [w]
        unfold vrW
        rw [List.map_append, a1]
        rfl
theorem pcL_inv {line : List UInt8} {s : PS} (h : pcL line = .ok s) : s.k = 2 ∧ PsOk s ∧ line = joinC 32 (psW s) := by
  unfold pcL at h
  cases hr : runW stepP ps0 (spl 32 line) 1 with
  | error x => rw [hr] at h; cases h
  | ok s1 =>
    rw [hr] at h
    dsimp only at h
    split at h
    · cases h
    · rename_i hk
      cases h
      obtain ⟨h1, h2⟩ := runW_inv (I := PsOk) (W := psW) stepP_inv _ ps0 s 1 ⟨by simp [ps0], by simp [ps0], by simp [ps0], by simp [ps0]⟩ hr
      have : psW ps0 = [] := rfl
      rw [this, List.nil_append] at h2
      exact ⟨by have := h1.le; omega, h1, by rw [h2, join_spl]⟩
theorem run_vars : ∀ (l : List (ByteArray × Int)) (s : PS) (col : Nat), s.k = 2 → (∀ v ∈ l, nameB v.1 = true ∧ -1125899906842624 ≤ v.2 ∧ v.2 ≤ 1125899906842624) → runW stepP s (vrW l) col = .ok { s with vars := s.vars ++ l }
  | [], s, col, _, _ => by simp [vrW, runW]
  | a :: l, s, col, hk, h => by
    obtain ⟨h1, h2⟩ := h a (List.mem_cons_self ..)
    have hst : stepP s (a.1.data.toList ++ 61 :: Lib.itoa a.2) col = .ok { s with vars := s.vars ++ [a] } := by
      obtain ⟨k, name, vars⟩ := s
      dsimp only at hk
      subst hk
      unfold stepP
      dsimp only
      rw [asgO_w h1 h2]
    show runW stepP s (_ :: vrW l) col = _
    rw [runW_one hst, run_vars l { s with vars := s.vars ++ [a] } _ hk fun b hb => h b (List.mem_cons_of_mem _ hb)]
    simp
def prWs (x : Pr) : List (List UInt8) := wProcess :: x.name.data.toList :: vrW x.vars
theorem wPr_words (x : Pr) : wPr x = joinC 32 (prWs x) := by
  have hv : wVars x.vars = (vrW x.vars).flatMap fun v => 32 :: v := by
    unfold wVars vrW wAsg
    rw [List.flatMap_map]
  unfold wPr prWs
  rw [joinS, List.flatMap_cons, hv]
  simp
structure PrW (x : Pr) : Prop where
  nm : nameB x.name = true
  vars : ∀ v ∈ x.vars, nameB v.1 = true ∧ -1125899906842624 ≤ v.2 ∧ v.2 ≤ 1125899906842624
theorem prWs_no {x : Pr} (h : PrW x) {c : UInt8} (hc : c = 32 ∨ c = 10) : ∀ w ∈ prWs x, c ∉ w := by
  have c1 : c.toNat < 48 := by rcases hc with rfl | rfl <;> decide
  have c2 : c.toNat ≠ 45 := by rcases hc with rfl | rfl <;> decide
  have c3 : c ≠ 61 := by rcases hc with rfl | rfl <;> decide
  intro w hw
  unfold prWs at hw
  rcases List.mem_cons.1 hw with rfl | hw
  · rcases hc with rfl | rfl <;> decide
  · rcases List.mem_cons.1 hw with rfl | hw
    · exact name_no h.nm (.inl c1)
    · unfold vrW at hw
      obtain ⟨a, ha, rfl⟩ := List.mem_map.1 hw
      intro hm
      rcases List.mem_append.1 hm with hm | hm
      · exact name_no (h.vars a ha).1 (.inl c1) hm
      · rcases List.mem_cons.1 hm with hm | hm
        · exact c3 hm
        · exact itoa_no _ c2 (.inl c1) hm
theorem pcL_w {x : Pr} (h : PrW x) : pcL (wPr x) = .ok ⟨2, x.name, x.vars⟩ := by
  have hs : spl 32 (wPr x) = prWs x := by
    rw [wPr_words]
    exact spl_join (by simp [prWs]) (prWs_no h (.inl rfl))
  have hr : runW stepP ps0 (spl 32 (wPr x)) 1 = .ok ⟨2, x.name, x.vars⟩ := by
    have hnm : ∀ c, stepP ⟨1, bs [], []⟩ x.name.data.toList c = .ok ⟨2, x.name, []⟩ := fun c => by
      unfold stepP
      dsimp only
      rw [bs_list, h.nm]
      rfl
    rw [hs]
    unfold prWs
    rw [runW_one (s' := ⟨1, bs [], []⟩) rfl, runW_one (hnm _), run_vars _ _ _ rfl h.vars]
    rfl
  unfold pcL
  rw [hr]
  rfl
end Go.Proofs.YtpmponafjhnegaaGreatDoor
