/-
  The parser, state by state: what each level makes of a state.
  Conditions: none. Plain, no program in sight.
-/
import Derived.Test.YthjalkonlcjhnaaGreatDoorQc
namespace Go.Proofs.YthjalkonlcjhnaaGreatDoor
open Go.RowKit
def St.tl (s : St) : St := ⟨s.ws.tail, 0, s.p⟩
def pickS (js : List (List UInt8 × Int)) (s : St) : Option Int := (js.find? (fun j => takeB s j.1)).map (·.2)
def countS (s : St) : Tr × St :=
  (nameT 3 (nameV (needS s [40])), needS (nameS (needS s [40])) [41])
def chanS (s : St) : Tr × St :=
  (nameT 4 (nameV (needS s [40]) ++ 44 :: nameV (needS (nameS (needS s [40])) [44])), needS (nameS (needS (nameS (needS s [40])) [44])) [41])
def varS (s : St) : Tr × St :=
  (nameT 2 (nameV s ++ 46 :: nameV (needS (nameS s) [46])), nameS (needS (nameS s) [46]))
def leafS (P : St → Tr × St) (s : St) : Tr × St :=
  if s.e ≠ 0 then (nd 0 [], s)
  else if (hdW s.ws).kind = 1 then (numT (valF 0 (hdW s.ws).text), s.tl)
  else if takeB s [116, 114, 117, 101] then (nd 13 [], s.tl)
  else if takeB s [102, 97, 108, 115, 101] then (nd 14 [], s.tl)
  else if takeB s [40] then ((P s.tl).1, needS (P s.tl).2 [41])
  else if takeB s [99, 111, 117, 110, 116] then countS s.tl
  else if takeB s [99, 104, 97, 110, 110, 101, 108] then chanS s.tl
  else varS s
def lvS : Nat → Nat → Option Tr → St → Tr × St
  | 0, _, none, s => (nd 0 [], s)
  | 0, _, some t, s => (t, s)
  | f + 1, lv, some t, s => match pickS (joints lv) s with
    | some k => lvS f lv (some (nd k [t, (lvS f (lv + 1) none s.tl).1])) (lvS f (lv + 1) none s.tl).2
    | none => (t, s)
  | f + 1, lv, none, s =>
    if lv = 2 then match pickS prefs s with
      | some k => (nd k [(lvS f 2 none s.tl).1], (lvS f 2 none s.tl).2)
      | none => lvS f 3 none s
    else if lv = 3 then match pickS cmp1 (lvS f 4 none s).2 with
      | some k => (nd k [(lvS f 4 none s).1, (lvS f 4 none (lvS f 4 none s).2.tl).1], (lvS f 4 none (lvS f 4 none s).2.tl).2)
      | none => match pickS cmp2 (lvS f 4 none s).2 with
        | some k => (nd k [(lvS f 4 none (lvS f 4 none s).2.tl).1, (lvS f 4 none s).1], (lvS f 4 none (lvS f 4 none s).2.tl).2)
        | none => lvS f 4 none s
    else if lv = 6 then
      if takeB s [45] then (nd 5 [(lvS f 6 none s.tl).1], (lvS f 6 none s.tl).2) else lvS f 7 none s
    else if lv = 7 then leafS (fun r => lvS f 0 none r) s
    else lvS f lv (some (lvS f (lv + 1) none s).1) (lvS f (lv + 1) none s).2
/-- how many words are before a parser that has met no error -/
def mS (s : St) : Nat := if s.e = 0 then s.ws.length else 0
/-- s' is a state behind s -/
def Aft (s s' : St) : Prop := (∃ n, s'.ws = s.ws.drop n) ∧ (s'.e = 0 → s.e = 0)
theorem Aft.refl (s : St) : Aft s s := ⟨⟨0, rfl⟩, id⟩
theorem Aft.trans {a b c : St} (h : Aft a b) (k : Aft b c) : Aft a c := by
  obtain ⟨⟨n, h1⟩, h2⟩ := h
  obtain ⟨⟨m, h3⟩, h4⟩ := k
  exact ⟨⟨n + m, by rw [h3, h1, List.drop_drop]⟩, fun h => h2 (h4 h)⟩
theorem Aft.m {s s' : St} (h : Aft s s') : mS s' ≤ mS s := by
  obtain ⟨⟨n, h1⟩, h2⟩ := h
  unfold mS
  by_cases he : s'.e = 0
  · rw [if_pos he, if_pos (h2 he), h1, List.length_drop]; omega
  · rw [if_neg he]; omega
theorem takeB_live {s : St} {S : List UInt8} (h : takeB s S = true) : s.e = 0 ∧ isT (key (hdW s.ws)) S = true := by
  unfold takeB at h
  simpa using h
theorem isT_len {ws : List Wd} {S : List UInt8} (h : isT (key (hdW ws)) S = true) : 0 < ws.length := by
  cases ws with
  | nil => simp [isT, hdW, key] at h
  | cons x r => simp
theorem isNm_len {ws : List Wd} (h : isNm (key (hdW ws)) = true) : 0 < ws.length := by
  cases ws with
  | nil => simp [isNm, hdW, key] at h
  | cons x r => simp
theorem tl_aft {s : St} (h : s.e = 0) : Aft s s.tl := ⟨⟨1, by unfold St.tl; rw [List.drop_one]⟩, fun _ => h⟩
theorem tl_m {s : St} (h : s.e = 0) (hl : 0 < s.ws.length) : mS s.tl + 1 = mS s := by
  unfold mS St.tl
  rw [if_pos h, if_pos rfl, List.length_tail]; omega
theorem take_m {s : St} {S : List UInt8} (h : takeB s S = true) : mS s.tl + 1 = mS s := tl_m (takeB_live h).1 (isT_len (takeB_live h).2)
theorem pickS_live {js : List (List UInt8 × Int)} {s : St} {k : Int} (h : pickS js s = some k) : s.e = 0 ∧ mS s.tl + 1 = mS s := by
  unfold pickS at h
  cases hf : js.find? (fun j => takeB s j.1) with
  | none => rw [hf] at h; cases h
  | some j =>
    have := List.find?_some (p := fun (j : List UInt8 × Int) => takeB s j.1) hf
    exact ⟨(takeB_live this).1, take_m this⟩
theorem wrong_aft (s : St) : Aft s (wrongS s) := by
  unfold wrongS
  split
  · rename_i h
    exact ⟨⟨0, rfl⟩, fun _ => h⟩
  · exact Aft.refl s
theorem need_aft (s : St) (S : List UInt8) : Aft s (needS s S) := by
  unfold needS
  split
  · rename_i h
    exact tl_aft (takeB_live h).1
  · exact wrong_aft s
theorem name_aft (s : St) : Aft s (nameS s) := by
  unfold nameS
  split
  · rename_i h
    unfold nameB at h
    simp at h
    exact tl_aft h.1
  · exact wrong_aft s
theorem leaf_aft (P : St → Tr × St) (hP : ∀ s, Aft s (P s).2) (s : St) : Aft s (leafS P s).2 := by
  unfold leafS
  split
  · exact Aft.refl s
  rename_i h0
  have he : s.e = 0 := by omega
  split
  · exact tl_aft he
  split
  · exact tl_aft he
  split
  · exact tl_aft he
  split
  · exact ((tl_aft he).trans (hP _)).trans (need_aft _ _)
  split
  · exact (((tl_aft he).trans (need_aft _ _)).trans (name_aft _)).trans (need_aft _ _)
  split
  · exact (((((tl_aft he).trans (need_aft _ _)).trans (name_aft _)).trans (need_aft _ _)).trans (name_aft _)).trans (need_aft _ _)
  · exact ((name_aft _).trans (need_aft _ _)).trans (name_aft _)
theorem lv_aft : ∀ (f lv : Nat) (o : Option Tr) (s : St), Aft s (lvS f lv o s).2 := by
  intro f
  induction f with
  | zero => intro lv o s; cases o <;> exact Aft.refl s
  | succ f ih =>
    intro lv o s
    cases o with
    | some t =>
      unfold lvS
      cases hp : pickS (joints lv) s with
      | none => exact Aft.refl s
      | some k => exact ((tl_aft (pickS_live hp).1).trans (ih _ _ _)).trans (ih _ _ _)
    | none =>
      unfold lvS
      split
      · cases hp : pickS prefs s with
        | none => exact ih _ _ _
        | some k => exact (tl_aft (pickS_live hp).1).trans (ih _ _ _)
      split
      · cases hp : pickS cmp1 (lvS f 4 none s).2 with
        | some k => exact ((ih _ _ _).trans (tl_aft (pickS_live hp).1)).trans (ih _ _ _)
        | none =>
          dsimp only
          cases hp2 : pickS cmp2 (lvS f 4 none s).2 with
          | some k => exact ((ih _ _ _).trans (tl_aft (pickS_live hp2).1)).trans (ih _ _ _)
          | none => exact ih _ _ _
      split
      · split
        · rename_i h
          exact (tl_aft (takeB_live h).1).trans (ih _ _ _)
        · exact ih _ _ _
      split
      · exact leaf_aft _ (fun r => ih _ _ _) s
      · exact (ih _ _ _).trans (ih _ _ _)
end Go.Proofs.YthjalkonlcjhnaaGreatDoor
