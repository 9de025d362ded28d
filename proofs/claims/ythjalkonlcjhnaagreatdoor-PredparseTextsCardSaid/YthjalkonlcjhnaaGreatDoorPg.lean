/-
  What words are: the kind, the length and the error of the first word; the words of a text. Plain.
-/
import Derived.Test.YthjalkonlcjhnaaGreatDoorPf
namespace Go.Proofs.YthjalkonlcjhnaaGreatDoor
open Go.RowKit
/-- kind, length, error of the word that a text begins with -/
def firstL : List UInt8 → Nat × Nat × Nat
  | [] => (4, 0, 0)
  | c :: r =>
    if digB c then (1, spanL digB (c :: r), numE ((c :: r).take (spanL digB (c :: r))))
    else if letB c then (2, spanL partB (c :: r), if spanL partB (c :: r) ≤ 16 then 0 else 13)
    else match signF ⟨(c :: r).toArray⟩ with
      | some t => (3, t.size, 0)
      | none => (3, 0, 3)
structure Wd where
  kind : Nat
  text : List UInt8
  pos : Nat × Nat
def wdVs (x : Wd) : List Value := [.int .i64 (x.kind : Nat), .string ⟨x.text.toArray⟩, .int .i64 (x.pos.1 : Nat), .int .i64 (x.pos.2 : Nat)]
def wdV (x : Wd) : Value := .agg #[.int .i64 (x.kind : Nat), .string ⟨x.text.toArray⟩, .int .i64 (x.pos.1 : Nat), .int .i64 (x.pos.2 : Nat)]
inductive LexR where
  | ok : List Wd → LexR
  | bad : Nat × Nat → Nat → LexR
def LexR.cons (x : Wd) : LexR → LexR
  | .ok l => .ok (x :: l)
  | .bad p e => .bad p e
def LexR.app (out : List Wd) : LexR → LexR
  | .ok l => .ok (out ++ l)
  | .bad p e => .bad p e
theorem LexR.app_cons (out : List Wd) (x : Wd) (r : LexR) : (r.cons x).app out = r.app (out ++ [x]) := by
  cases r <;> simp [LexR.cons, LexR.app]
def blanks (l : List UInt8) : List UInt8 := l.drop (spanL blkB l)
def blankP (l : List UInt8) (p : Nat × Nat) : Nat × Nat := (l.take (spanL blkB l)).foldl posStep p
def lexL (f : Nat) (l : List UInt8) (p : Nat × Nat) : LexR :=
  if (firstL (blanks l)).1 = 4 then .ok [⟨4, [], blankP l p⟩]
  else match f with
    | 0 => .bad (blankP l p) 5
    | f + 1 =>
      if (firstL (blanks l)).2.2 = 0 then
        (lexL f ((blanks l).drop (firstL (blanks l)).2.1) (((blanks l).take (firstL (blanks l)).2.1).foldl posStep (blankP l p))).cons ⟨(firstL (blanks l)).1, (blanks l).take (firstL (blanks l)).2.1, blankP l p⟩
      else .bad (blankP l p) (firstL (blanks l)).2.2
end Go.Proofs.YthjalkonlcjhnaaGreatDoor
