/-
  What stands behind two blanks, walked; what Parse answers.
  Conditions: as each theorem says.
-/
import Derived.Test.YtpmponafjhnegaaGreatDoorMi
import Derived.Test.YtpmponafjhnegaaGreatDoorLi
import Derived.Test.YtpmponafjhnegaaGreatDoorHt
namespace Go.Proofs.YtpmponafjhnegaaGreatDoor
open Go.RowKit Nu
theorem RdC.cell5 {w : World} {g : Nat} {ws : List (List UInt8)} {cs : List Nat} {en : Nat} {s : Rst} (h : RdC w g ws cs en s) : w.cell? ⟨g, 5, none⟩ = some (.int .i64 (s.c : Int)) := by
  obtain ⟨ba, oa, ca, bc, oc, cc, h1, h2, h3, h4, h5⟩ := h
  exact h3.cell 5
def bodyF (l : List UInt8) : List UInt8 × Bool := match body l with | some b => (b, true) | none => (l, false)
theorem body_two {c d : UInt8} (r : List UInt8) (h : ¬(c = 32 ∧ d = 32)) : body (c :: d :: r) = none := by
  unfold body
  split
  · rename_i b e
    injection e with e1 e2
    injection e2 with e2 e3
    exact absurd ⟨e1, e2⟩ h
  · rfl
theorem body_one (c : UInt8) : body [c] = none := by
  unfold body
  split
  · rename_i b e
    injection e with e1 e2
    cases e2
  · rfl
theorem body_lib (l : List UInt8) : Lib.trimPrefix l [32, 32] = (bodyF l).1 ∧ Lib.hasPrefix l [32, 32] = (bodyF l).2 := by
  unfold Lib.trimPrefix Lib.hasPrefix
  match l with
  | [] => exact ⟨rfl, rfl⟩
  | [c] =>
    have hb : bodyF [c] = ([c], false) := by unfold bodyF; rw [body_one]
    rw [hb]
    by_cases h : c = 32
    · subst h; exact ⟨rfl, rfl⟩
    · have h2 : ([32, 32] : List UInt8).isPrefixOf [c] = false := by simp [List.isPrefixOf]
      rw [h2]
      exact ⟨rfl, rfl⟩
  | c :: d :: r =>
    by_cases h : c = 32 ∧ d = 32
    · obtain ⟨rfl, rfl⟩ := h
      have : bodyF (32 :: 32 :: r) = (r, true) := rfl
      rw [this]
      simp
    · have h2 : ([32, 32] : List UInt8).isPrefixOf (c :: d :: r) = false := by
        simp only [List.isPrefixOf, Bool.and_true]
        by_cases h1 : c = 32
        · subst h1
          simp only [beq_self_eq_true, Bool.true_and]
          exact beq_eq_false_iff_ne.2 fun e => h ⟨rfl, e.symm⟩
        · rw [beq_eq_false_iff_ne.2 fun e => h1 e.symm, Bool.false_and]
      have hb : bodyF (c :: d :: r) = (c :: d :: r, false) := by unfold bodyF; rw [body_two r h]
      rw [h2, hb]
      exact ⟨rfl, rfl⟩
theorem body_c (l : List UInt8) (w : World) : Calls Tryz.prog 53 #[.string (bs l), .string ⟨#[32, 32]⟩] w (Ret w (.tuple #[.string (bs (bodyF l).1), .bool (bodyF l).2])) := by
  refine (Tryz.strings_CutPrefix (bs l) ⟨#[32, 32]⟩ w).mono ?_
  rintro e w' ⟨rfl, rfl⟩
  obtain ⟨h1, h2⟩ := body_lib l
  refine ⟨?_, Ex.refl _⟩
  show Ending.returned (.tuple #[.string ⟨(Lib.trimPrefix l [32, 32]).toArray⟩, .bool (Lib.hasPrefix l [32, 32])]) = _
  rw [h1, h2]
theorem body_len (l : List UInt8) : (bodyF l).1.length ≤ l.length := by
  unfold bodyF
  cases h : body l with
  | none => exact Nat.le_refl _
  | some b => rw [body_some h]; simp only [List.length_cons]; omega
theorem stepE_asg {vars : List (ByteArray × Int)} {s s' : ES} {w : List UInt8} {col : Nat} (h : stepE vars s w col = .ok s') : s'.asg.length ≤ s.asg.length + 1 := by
  unfold stepE at h
  repeat' split at h
  all_goals first
    | (cases h; done)
    | (cases h; simp; done)
    | (cases h; exact Nat.le_succ _)
theorem runE_asg {vars : List (ByteArray × Int)} : ∀ {ws : List (List UInt8)} {s s' : ES} {col : Nat}, runW (stepE vars) s ws col = .ok s' → s'.asg.length ≤ s.asg.length + ws.length
  | [], s, s', col, h => by cases h; exact Nat.le_refl _
  | w :: ws, s, s', col, h => by
    unfold runW at h
    cases hs : stepE vars s w col with
    | error e => rw [hs] at h; cases h
    | ok s2 =>
      rw [hs] at h
      have h1 := stepE_asg hs
      have h2 := runE_asg h
      simp only [List.length_cons]
      omega
theorem evL_asg {vars : List (ByteArray × Int)} {line : List UInt8} {col : Nat} {S : ES} (h : evL vars line col = .ok S) : S.asg.length ≤ line.length + 1 := by
  unfold evL at h
  cases hr : runW (stepE vars) es0 (spl 32 line) col with
  | error x => rw [hr] at h; cases h
  | ok s =>
    rw [hr] at h
    dsimp only at h
    split at h
    · cases h
    · cases h
      have := runE_asg hr
      have := (spl_lens 32 line).1
      simp only [es0, List.length_nil] at *
      omega
theorem pr_ev {m : PM} {p : RP} {x : ME} {re : RE} {E : Option Addr} {ec : Nat} (hm : PM.pr m = RP.pr p) (he : x.e = re.ev) : PM.pr { m with mes := m.mes ++ [x], E := E, ec := ec } = RP.pr { p with evs := p.evs ++ [re] } := by
  have h1 : m.name = p.name := congrArg Pr.name hm
  have h2 : m.vars = p.vars := congrArg Pr.vars hm
  have h3 : m.mes.map (·.e) = p.evs.map (·.ev) := congrArg Pr.evs hm
  show (⟨m.name, m.vars, (m.mes ++ [x]).map (·.e)⟩ : Pr) = ⟨p.name, p.vars, (p.evs ++ [re]).map (·.ev)⟩
  rw [h1, h2, List.map_append, List.map_append, h3]
  simp [he]
theorem row_ev {n : Nat} {xs : List Value} {p : RP} {re : RE} (h : (n, xs) = RP.row p) : (n + 1, xs ++ [.int .i64 (re.line : Int), .int .i64 (re.col : Int), .string re.peer]) = RP.row { p with evs := p.evs ++ [re] } := by
  unfold RP.row at h ⊢
  rw [Prod.mk.injEq] at h
  obtain ⟨h1, h2⟩ := h
  rw [h1, h2]
  unfold plV
  simp
/-- what Parse leaves -/
def ParseR (s : List UInt8) (w : World) (e : Ending) (w' : World) : Prop :=
  Ex w w' ∧ match parseT s with
    | .ok t => ∃ A c, e = .returned (.tuple #[.agg #[.slice A t.length c], .agg #[.int .i64 0, .int .i64 0], .int .i64 0]) ∧ TcC w' A t ∧ t.length ≤ c
    | .error x => e = .returned (errV (x.2.1 : Int) (x.2.2 : Int) x.1)
theorem ParseR.err {s : List UInt8} {w w' : World} {e : Int} {l c : Nat} (h : parseT s = .error (e, l, c)) (hx : Ex w w') : ParseR s w (.returned (errV (l : Int) (c : Int) e)) w' := ⟨hx, by rw [h]⟩
end Go.Proofs.YtpmponafjhnegaaGreatDoor
