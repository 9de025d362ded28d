/-
  The text of a trace, plain: how a line is read, word by word; how the lines of a text make a trace; and how a trace is written.
  Conditions: as each theorem says.
-/
import Derived.Test.YtpmponafjhnegaaGreatDoorLa
import Derived.Test.YtpmponafjhnegaaGreatDoorNp
import Derived.Test.YtpmponafjhnegaaGreatDoorYa
namespace Go.Proofs.YtpmponafjhnegaaGreatDoor
open Nu
/-- bytes as a string -/
abbrev bs (l : List UInt8) : ByteArray := ⟨l.toArray⟩
/-- the words of a line, one after the other, from a column on: the state at the end, or an error at the column of a word -/
def runW {σ : Type} (step : σ → List UInt8 → Nat → Except Int σ) : σ → List (List UInt8) → Nat → Except (Int × Nat) σ
  | s, [], _ => .ok s
  | s, w :: ws, col => match step s w col with
    | .error e => .error (e, col)
    | .ok s' => runW step s' ws (col + w.length + 1)
/-- a name, the byte =, and a number -/
def asgO (w : List UInt8) : Except Int (ByteArray × Int) :=
  match cutC 61 w with
  | none => .error 3
  | some (n, v) => if nameB (bs n) then (if parE v = 0 then .ok (bs n, parV v) else .error (parE v)) else .error 3
/-- the first variable with a name -/
def vIdx (n : ByteArray) : List (ByteArray × Int) → Option Nat
  | [] => none
  | v :: vs => if v.1 = n then some 0 else (vIdx n vs).map (· + 1)
/-- what has been read of an event: k tells what comes next: the kind, the peer, the number, the time, assignments -/
structure ES where
  k : Nat
  kind : Int
  peer : ByteArray
  pcol : Nat
  msg : Int
  time : Int
  asg : List (Int × Int)
def es0 : ES := ⟨0, 0, bs [], 0, 0, 0, []⟩
def wLocal : List UInt8 := [108, 111, 99, 97, 108]
def wSend : List UInt8 := [115, 101, 110, 100]
def wReceive : List UInt8 := [114, 101, 99, 101, 105, 118, 101]
def wProcess : List UInt8 := [112, 114, 111, 99, 101, 115, 115]
def stepE (vars : List (ByteArray × Int)) (s : ES) (w : List UInt8) (col : Nat) : Except Int ES :=
  match s.k with
  | 0 => if w = wLocal then .ok { s with k := 3, kind := 1 } else if w = wSend then .ok { s with k := 1, kind := 2 } else if w = wReceive then .ok { s with k := 1, kind := 3 } else .error 3
  | 1 => if nameB (bs w) then .ok { s with k := 2, peer := bs w, pcol := col } else .error 3
  | 2 => if parE w = 0 then .ok { s with k := 3, msg := parV w } else .error (parE w)
  | 3 => match w with
    | 64 :: r => if parE r = 0 then .ok { s with k := 4, time := parV r } else .error (parE r)
    | _ => .error 3
  | _ + 4 => match asgO w with
    | .error e => .error e
    | .ok (n, v) => match vIdx n vars with
      | none => .error 13
      | some i => .ok { s with asg := s.asg ++ [((i : Int), v)] }
/-- the line of an event, from a column on -/
def evL (vars : List (ByteArray × Int)) (line : List UInt8) (col : Nat) : Except (Int × Nat) ES :=
  match runW (stepE vars) es0 (spl 32 line) col with
  | .error x => .error x
  | .ok s => if s.k < 4 then .error (3, col + line.length) else .ok s
/-- what has been read of a process: k tells what comes next: the word process, the name, variables -/
structure PS where
  k : Nat
  name : ByteArray
  vars : List (ByteArray × Int)
def ps0 : PS := ⟨0, bs [], []⟩
def stepP (s : PS) (w : List UInt8) (_ : Nat) : Except Int PS :=
  match s.k with
  | 0 => if w = wProcess then .ok { s with k := 1 } else .error 3
  | 1 => if nameB (bs w) then .ok { s with k := 2, name := bs w } else .error 3
  | _ + 2 => match asgO w with
    | .error e => .error e
    | .ok x => .ok { s with vars := s.vars ++ [x] }
def pcL (line : List UInt8) : Except (Int × Nat) PS :=
  match runW stepP ps0 (spl 32 line) 1 with
  | .error x => .error x
  | .ok s => if s.k < 2 then .error (3, 1 + line.length) else .ok s
/-- an event as it was read: its line, the column of its peer, and the peer's name -/
structure RE where
  ev : Ev
  line : Nat
  col : Nat
  peer : ByteArray
structure RP where
  line : Nat
  name : ByteArray
  vars : List (ByteArray × Int)
  evs : List RE
def evOf (s : ES) : Ev := ⟨s.kind, 0, s.msg, s.time, s.asg⟩
def reOf (n : Nat) (s : ES) : RE := ⟨evOf s, n, s.pcol, s.peer⟩
/-- the last process has one event more -/
def addE (ps : List RP) (e : RE) : List RP :=
  match ps with
  | [] => []
  | [p] => [{ p with evs := p.evs ++ [e] }]
  | p :: q :: r => p :: addE (q :: r) e
/-- what stands behind two blanks -/
def body : List UInt8 → Option (List UInt8)
  | 32 :: 32 :: b => some b
  | _ => none
/-- a line -/
def lineX (n : Nat) (ps : List RP) (text : List UInt8) : Except (Int × Nat) (List RP) :=
  match body text with
  | some b => match ps.getLast? with
    | none => .error (3, 1)
    | some p => match evL p.vars b 3 with
      | .error x => .error x
      | .ok s => .ok (addE ps (reOf n s))
  | none => match pcL text with
    | .error x => .error x
    | .ok s => .ok (ps ++ [⟨n, s.name, s.vars, []⟩])
/-- lines; the last piece is what stands behind the last end of a line -/
def linesX : Nat → List RP → List (List UInt8) → Except (Int × Nat × Nat) (List RP)
  | _, ps, [] => .ok ps
  | n, ps, [l] => if l = [] then .ok ps else .error (4, n, l.length + 1)
  | n, ps, l :: m :: r => match lineX n ps l with
    | .error (e, c) => .error (e, n, c)
    | .ok ps' => linesX (n + 1) ps' (m :: r)
/-- the first process with a name -/
def pIdx (n : ByteArray) : List ByteArray → Option Nat
  | [] => none
  | v :: vs => if v = n then some 0 else (pIdx n vs).map (· + 1)
/-- the peer of an event -/
def resE (ns : List ByteArray) (e : RE) : Except (Int × Nat × Nat) Ev :=
  if e.peer.size = 0 then .ok e.ev else match pIdx e.peer ns with
    | none => .error (13, e.line, e.col)
    | some q => .ok { e.ev with peer := (q : Int) }
def resEs (ns : List ByteArray) : List RE → Except (Int × Nat × Nat) (List Ev)
  | [] => .ok []
  | e :: r => match resE ns e with
    | .error x => .error x
    | .ok v => match resEs ns r with
      | .error x => .error x
      | .ok vs => .ok (v :: vs)
def resPs (ns : List ByteArray) : List RP → Except (Int × Nat × Nat) (List Pr)
  | [] => .ok []
  | p :: r => match resEs ns p.evs with
    | .error x => .error x
    | .ok es => match resPs ns r with
      | .error x => .error x
      | .ok ps => .ok (⟨p.name, p.vars, es⟩ :: ps)
/-- where the fault of a trace stands -/
def plcO (ps : List RP) (x : (Nat × Nat) × Nat) : Int × Nat × Nat :=
  if x.2 = 1 then (1, 1, 1)
  else if x.1.2 = 0 then (x.2, ((ps[x.1.1]?).map (·.line)).getD 0, 1)
  else (x.2, (((ps[x.1.1]?).bind fun p => p.evs[x.1.2 - 1]?).map (·.line)).getD 0, 3)
/-- the trace of a text, or the error, the line and the column -/
noncomputable def parseT (s : List UInt8) : Except (Int × Nat × Nat) (List Pr) :=
  if 16384 < s.length then .error (5, 0, 0) else
  match linesX 1 [] (spl 10 s) with
  | .error x => .error x
  | .ok ps => match resPs (ps.map (·.name)) ps with
    | .error x => .error x
    | .ok t => if (faultO t).2 = 0 then .ok t else .error (plcO ps (faultO t))
/-- a variable, or an assignment, written -/
def wAsg (n : ByteArray) (v : Int) : List UInt8 := 32 :: (n.data.toList ++ 61 :: Lib.itoa v)
def wAsgs (vars : List (ByteArray × Int)) (l : List (Int × Int)) : List UInt8 := l.flatMap fun a => wAsg ((vars[a.1.toNat]?).elim (bs []) (·.1)) a.2
def wVars (vars : List (ByteArray × Int)) : List UInt8 := vars.flatMap fun v => wAsg v.1 v.2
def nmOf (t : List Pr) (q : Int) : List UInt8 := ((t[q.toNat]?).elim (bs []) (·.name)).data.toList
/-- the head of an event's line -/
def wHead (t : List Pr) (e : Ev) : List UInt8 :=
  if e.kind = 1 then wLocal else (if e.kind = 2 then wSend else wReceive) ++ 32 :: (nmOf t e.peer ++ 32 :: Lib.itoa e.msg)
/-- the line of an event -/
def wEv (t : List Pr) (vars : List (ByteArray × Int)) (e : Ev) : List UInt8 := wHead t e ++ 32 :: 64 :: (Lib.itoa e.time ++ wAsgs vars e.asg)
def wPr (x : Pr) : List UInt8 := wProcess ++ 32 :: (x.name.data.toList ++ wVars x.vars)
def wEvs (t : List Pr) (vars : List (ByteArray × Int)) (l : List Ev) : List UInt8 := l.flatMap fun e => 32 :: 32 :: (wEv t vars e ++ [10])
/-- the text of a trace -/
def wTr (t : List Pr) : List UInt8 := t.flatMap fun x => wPr x ++ 10 :: wEvs t x.vars x.evs
end Go.Proofs.YtpmponafjhnegaaGreatDoor
