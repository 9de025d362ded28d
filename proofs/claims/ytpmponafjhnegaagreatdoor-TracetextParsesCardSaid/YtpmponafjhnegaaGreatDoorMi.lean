/-
  The memory of Parse's loop: the trace being built, the lines of its processes, the places of its events.
  Conditions: as each theorem says.
-/
import Derived.Test.YtpmponafjhnegaaGreatDoorMh
import Derived.Test.YtpmponafjhnegaaGreatDoorLf
namespace Go.Proofs.YtpmponafjhnegaaGreatDoor
open Go.RowKit Nu
def plV (l : List RE) : List Value := l.flatMap fun r => [.int .i64 (r.line : Int), .int .i64 (r.col : Int), .string r.peer]
def RP.pr (p : RP) : Pr := ⟨p.name, p.vars, p.evs.map (·.ev)⟩
def RP.row (p : RP) : Nat × List Value := (p.evs.length, plV p.evs)
def lnV (l : List Nat) : List Value := l.map fun n : Nat => .int .i64 (n : Int)
structure PX (w : World) (base tb : Nat) (ln : List Nat) (L : Option Addr) (lc : Nat) (Q : Option Addr) (qc : Nat) (A : Option Addr) (ac : Nat) (ms : List PM) (rows : List Sl) : Prop where
  cell : Blk w tb 24 [.slice A ms.length ac]
  tp : TP w base A ac ms
  lines : OwnO w base 3 1 (.slice L ln.length lc) ln.length (lnV ln)
  sd : Sd w base 107 109 3 Q qc rows
section
variable {w w1 : World} {base tb : Nat} {ln : List Nat} {L : Option Addr} {lc : Nat} {Q : Option Addr} {qc : Nat} {A : Option Addr} {ac : Nat} {ms : List PM} {rows : List Sl}
theorem PX.ex (h : PX w base tb ln L lc Q qc A ac ms rows) (hx : Ex w w1) : PX w1 base tb ln L lc Q qc A ac ms rows := ⟨h.cell.ex hx, h.tp.ex hx, h.lines.ex hx, h.sd.ex hx⟩
/-- an event more -/
theorem PX.ev {m0 : List PM} {m : PM} {x : ME} {E' : Option Addr} {ec' ga oa : Nat} (h : PX w base tb ln L lc Q qc (some ⟨ga, oa, none⟩) ac (m0 ++ [m]) rows) (hg : w.grownBy w1 m.evSl.v.ownBlock)
    (ho : OwnO w1 base 38 5 (.slice E' (m.mes.length + 1) ec') (m.mes.length + 1) (evsV m.mes ++ meV x)) (hat : (Value.slice E' (m.mes.length + 1) ec').ownBlock = m.evSl.v.ownBlock ∨ (Value.slice E' (m.mes.length + 1) ec').ownBlock = some w.heap.size) (hx : MeO w base x) :
    PX (w1.setCell ⟨ga, oa + (m0.length * 3 + 2), none⟩ (.slice E' (m.mes.length + 1) ec')) base tb ln L lc Q qc (some ⟨ga, oa, none⟩) ac (m0 ++ [{ m with mes := m.mes ++ [x], E := E', ec := ec' }]) rows := by
  have hm := h.tp.evs m (by simp)
  have hc1 := Chg.of_own hm hg
  have hp1 := h.tp.procs.chg hc1 (by decide)
  have hc2 := Chg.set hp1.rw_ (oa + (m0.length * 3 + 2)) (.slice E' (m.mes.length + 1) ec')
  have e2 : (m0 ++ [m]).length = (m0 ++ [{ m with mes := m.mes ++ [x], E := E', ec := ec' }]).length := by simp
  have hc := (h.cell.chg hc1 (by decide)).chg hc2 (by decide)
  rw [e2] at hc
  exact ⟨hc, h.tp.addEv hg ho hat hx, (h.lines.chg hc1 (by decide)).chg hc2 (by decide), (h.sd.chg hc1 (by decide) (by decide)).chg hc2 (by decide) (by decide)⟩
/-- a place more -/
theorem PX.pl {r0 : List Sl} {r r' : Sl} {gq oq : Nat} (h : PX w base tb ln L lc (some ⟨gq, oq, none⟩) qc A ac ms (r0 ++ [r])) (hg : w.grownBy w1 r.v.ownBlock) (ho : r'.own w1 base 109 3) (hat : r'.v.ownBlock = r.v.ownBlock ∨ r'.v.ownBlock = some w.heap.size) :
    PX (w1.setCell ⟨gq, oq + r0.length, none⟩ r'.v) base tb ln L lc (some ⟨gq, oq, none⟩) qc A ac ms (r0 ++ [r']) := by
  have hc1 := Chg.of_own (h.sd.row r (by simp)) hg
  obtain ⟨hO, hR, hS⟩ := h.sd.grow (by decide) hg ho hat
  have hc2 := Chg.set hO.rw_ (oq + r0.length) r'.v
  exact ⟨(h.cell.chg hc1 (by decide)).chg hc2 (by decide), (h.tp.chg hc1 (by decide) (by decide) (by decide) (by decide)).chg hc2 (by decide) (by decide) (by decide) (by decide), (h.lines.chg hc1 (by decide)).chg hc2 (by decide), Sd.done (by decide) hO hR hS⟩
/-- a process more -/
theorem PX.pr {m : PM} {A' : Option Addr} {ac' : Nat} (h : PX w base tb ln L lc Q qc A ac ms rows) (hg : w.grownBy w1 (Value.slice A ms.length ac).ownBlock)
    (ho : OwnO w1 base 35 3 (.slice A' (ms.length + 1) ac') (ms.length + 1) (ms.flatMap procV ++ procV m)) (hm : m.mes = []) (hE : m.E = none ∧ m.ec = 0) (hv : OwnO w base 71 2 (.slice m.V m.vars.length m.vc) m.vars.length (varV m.vars)) :
    PX (w1.setCell ⟨tb, 0, none⟩ (.slice A' (ms.length + 1) ac')) base tb ln L lc Q qc A' ac' (ms ++ [m]) rows := by
  have hc1 := Chg.of_own h.tp.procs hg
  have hb := h.cell.chg hc1 (by decide)
  have hc2 : Chg 24 w1 (w1.setCell ⟨tb, 0, none⟩ (.slice A' (ms.length + 1) ac')) (some tb) := Chg.set ⟨_, hb⟩ 0 _
  refine ⟨?_, (h.tp.addPr hg ho hm hE hv).chg hc2 (by decide) (by decide) (by decide) (by decide), (h.lines.chg hc1 (by decide)).chg hc2 (by decide), (h.sd.chg hc1 (by decide) (by decide)).chg hc2 (by decide) (by decide)⟩
  have := hb.set_ 0 (.slice A' (ms.length + 1) ac')
  simpa using this
/-- a line more -/
theorem PX.line_ {n : Nat} {L' : Option Addr} {lc' : Nat} (h : PX w base tb ln L lc Q qc A ac ms rows) (hg : w.grownBy w1 (Value.slice L ln.length lc).ownBlock) (ho : OwnO w1 base 3 1 (.slice L' (ln.length + 1) lc') (ln.length + 1) (lnV ln ++ [.int .i64 (n : Int)])) :
    PX w1 base tb (ln ++ [n]) L' lc' Q qc A ac ms rows := by
  have hc := Chg.of_own h.lines hg
  refine ⟨h.cell.chg hc (by decide), h.tp.chg hc (by decide) (by decide) (by decide) (by decide), ?_, h.sd.chg hc (by decide) (by decide)⟩
  have e : (ln ++ [n]).length = ln.length + 1 := by simp
  rw [e]
  unfold lnV at ho ⊢
  rw [List.map_append]
  exact ho
/-- a row of places more -/
theorem PX.rw_ {Q' : Option Addr} {qc' : Nat} (h : PX w base tb ln L lc Q qc A ac ms rows) (hg : w.grownBy w1 (Value.slice Q rows.length qc).ownBlock) (ho : OwnO w1 base 107 1 (.slice Q' (rows.length + 1) qc') (rows.length + 1) (rows.map (·.v) ++ [.slice none 0 0])) :
    PX w1 base tb ln L lc Q' qc' A ac ms (rows ++ [⟨.slice none 0 0, 0, []⟩]) := by
  have hc := Chg.of_own h.sd.outer hg
  exact ⟨h.cell.chg hc (by decide), h.tp.chg hc (by decide) (by decide) (by decide) (by decide), h.lines.chg hc (by decide), h.sd.snoc (by decide) hg ho⟩
/-- the last process in memory -/
theorem PX.last {m0 : List PM} {m : PM} (h : PX w base tb ln L lc Q qc A ac (m0 ++ [m]) rows) : ∃ ga oa, A = some ⟨ga, oa, none⟩ ∧ ga < w.heap.size ∧ base ≤ ga ∧ m0.length + 1 ≤ ac ∧ ac ≤ maxLen ∧
    w.cell? ⟨ga, oa + m0.length * 3, none⟩ = some (.string m.name) ∧ w.cell? ⟨ga, oa + m0.length * 3 + 1, none⟩ = some (.slice m.V m.vars.length m.vc) ∧ w.cell? ⟨ga, oa + m0.length * 3 + 2, none⟩ = some (.slice m.E m.mes.length m.ec) ∧ (∀ j, w.frozen? ⟨ga, j, none⟩ = false) ∧ ga ≠ tb := by
  obtain ⟨ga, oa, cap, he, hnc, hcm, hb, hl, hc⟩ := h.tp.procs.open_ (by simp)
  cases he
  have hget := procs_get (m0 ++ [m]) m0.length m (by simp)
  refine ⟨ga, oa, rfl, hl, hb, by simpa using hnc, hcm, ?_, ?_, ?_, fun j => h.tp.procs.froze j, fun e => ?_⟩
  · exact hc (m0.length * 3 + 0) _ (by rw [hget 0 (by omega)]; rfl)
  · have := hc (m0.length * 3 + 1) _ (by rw [hget 1 (by omega)]; rfl)
    rw [← Nat.add_assoc] at this
    exact this
  · have := hc (m0.length * 3 + 2) _ (by rw [hget 2 (by omega)]; rfl)
    rw [← Nat.add_assoc] at this
    exact this
  · subst e
    exact OwnO.ne h.tp.procs h.cell (by decide) rfl
/-- the last row of places in memory -/
theorem PX.lastRow {r0 : List Sl} {r : Sl} (h : PX w base tb ln L lc Q qc A ac ms (r0 ++ [r])) : ∃ gq oq, Q = some ⟨gq, oq, none⟩ ∧ gq < w.heap.size ∧ base ≤ gq ∧ r0.length + 1 ≤ qc ∧ qc ≤ maxLen ∧
    w.cell? ⟨gq, oq + r0.length, none⟩ = some r.v ∧ (∀ j, w.frozen? ⟨gq, j, none⟩ = false) := by
  obtain ⟨gq, oq, cap, he, hnc, hcm, hb, hl, hc⟩ := h.sd.outer.open_ (by simp)
  cases he
  exact ⟨gq, oq, rfl, hl, hb, by simpa using hnc, hcm, hc r0.length _ (by simp), fun j => h.sd.outer.froze j⟩
end
/-- the memory of a round of Parse's loop -/
structure PW (w : World) (rb pb tb : Nat) (ln : List Nat) (L : Option Addr) (lc : Nat) (Q : Option Addr) (qc : Nat) (wr : World) (A : Option Addr) (ac : Nat) (ms : List PM) (rows : List Sl) : Prop where
  px : PX wr rb tb ln L lc Q qc A ac ms rows
  res : Blk wr rb 24 [.slice none 0 0]
  pos : Blk wr pb 48 [.int .i64 0, .int .i64 0]
  ex : Ex w wr
  le : w.heap.size ≤ rb
  ne : rb ≠ tb
  let_ : w.heap.size ≤ tb
section
variable {w wr w1 : World} {rb pb tb : Nat} {ln : List Nat} {L : Option Addr} {lc : Nat} {Q : Option Addr} {qc : Nat} {A : Option Addr} {ac : Nat} {ms : List PM} {rows : List Sl}
theorem PW.exx (h : PW w rb pb tb ln L lc Q qc wr A ac ms rows) (hx : Ex wr w1) : PW w rb pb tb ln L lc Q qc w1 A ac ms rows := ⟨h.px.ex hx, h.res.ex hx, h.pos.ex hx, h.ex.trans hx, h.le, h.ne, h.let_⟩
theorem PW.ev {m0 : List PM} {m : PM} {x : ME} {E' : Option Addr} {ec' ga oa : Nat} (h : PW w rb pb tb ln L lc Q qc wr (some ⟨ga, oa, none⟩) ac (m0 ++ [m]) rows) (hg : wr.grownBy w1 m.evSl.v.ownBlock)
    (ho : OwnO w1 rb 38 5 (.slice E' (m.mes.length + 1) ec') (m.mes.length + 1) (evsV m.mes ++ meV x)) (hat : (Value.slice E' (m.mes.length + 1) ec').ownBlock = m.evSl.v.ownBlock ∨ (Value.slice E' (m.mes.length + 1) ec').ownBlock = some wr.heap.size) (hx : MeO wr rb x) :
    PW w rb pb tb ln L lc Q qc (w1.setCell ⟨ga, oa + (m0.length * 3 + 2), none⟩ (.slice E' (m.mes.length + 1) ec')) (some ⟨ga, oa, none⟩) ac (m0 ++ [{ m with mes := m.mes ++ [x], E := E', ec := ec' }]) rows := by
  have hm := h.px.tp.evs m (by simp)
  have hc1 := Chg.of_own hm hg
  have hp1 := h.px.tp.procs.chg hc1 (by decide)
  have hc2 := Chg.set hp1.rw_ (oa + (m0.length * 3 + 2)) (.slice E' (m.mes.length + 1) ec')
  exact ⟨h.px.ev hg ho hat hx, (h.res.chg hc1 (by decide)).chg hc2 (by decide), (h.pos.chg hc1 (by decide)).chg hc2 (by decide), (h.ex.grown hg fun k hk => Nat.le_trans h.le (OwnO.lt hm k hk).1).setCell (p := ⟨ga, oa + (m0.length * 3 + 2), none⟩) (Nat.le_trans h.le (hp1.lt ga rfl).1) _, h.le, h.ne, h.let_⟩
/-- where the event is written -/
theorem PW.evAt {m0 : List PM} {m : PM} {ga oa : Nat} (h : PW w rb pb tb ln L lc Q qc wr (some ⟨ga, oa, none⟩) ac (m0 ++ [m]) rows) (hg : wr.grownBy w1 m.evSl.v.ownBlock) :
    w1.cell? ⟨ga, oa + m0.length * 3 + 2, none⟩ = some (.slice m.E m.mes.length m.ec) ∧ (∀ j, w1.frozen? ⟨ga, j, none⟩ = false) ∧ ga < w1.heap.size ∧ w1.cell? ⟨tb, 0, none⟩ = some (.slice (some ⟨ga, oa, none⟩) (m0 ++ [m]).length ac) ∧ tb < w1.heap.size := by
  have hp1 := h.px.tp.procs.chg (Chg.of_own (h.px.tp.evs m (by simp)) hg) (by decide)
  have hc1 := h.px.cell.chg (Chg.of_own (h.px.tp.evs m (by simp)) hg) (by decide)
  have hget := procs_get (m0 ++ [m]) m0.length m (by simp)
  refine ⟨?_, fun j => hp1.froze j, (hp1.lt ga rfl).2, hc1.cell 0, hc1.lt⟩
  have := hp1.at_ (j := m0.length * 3 + 2) (u := .slice m.E m.mes.length m.ec) (by rw [hget 2 (by omega)]; rfl)
  rw [← Nat.add_assoc] at this
  exact this
theorem PW.pl {r0 : List Sl} {r r' : Sl} {gq oq : Nat} (h : PW w rb pb tb ln L lc (some ⟨gq, oq, none⟩) qc wr A ac ms (r0 ++ [r])) (hg : wr.grownBy w1 r.v.ownBlock) (ho : r'.own w1 rb 109 3) (hat : r'.v.ownBlock = r.v.ownBlock ∨ r'.v.ownBlock = some wr.heap.size) :
    PW w rb pb tb ln L lc (some ⟨gq, oq, none⟩) qc (w1.setCell ⟨gq, oq + r0.length, none⟩ r'.v) A ac ms (r0 ++ [r']) := by
  have hr := h.px.sd.row r (by simp)
  have hc1 := Chg.of_own hr hg
  obtain ⟨hO, hR, hS⟩ := h.px.sd.grow (by decide) hg ho hat
  have hc2 := Chg.set hO.rw_ (oq + r0.length) r'.v
  exact ⟨h.px.pl hg ho hat, (h.res.chg hc1 (by decide)).chg hc2 (by decide), (h.pos.chg hc1 (by decide)).chg hc2 (by decide), (h.ex.grown hg fun k hk => Nat.le_trans h.le (OwnO.lt hr k hk).1).setCell (p := ⟨gq, oq + r0.length, none⟩) (Nat.le_trans h.le (hO.lt gq rfl).1) _, h.le, h.ne, h.let_⟩
/-- where the place is written -/
theorem PW.plAt {r0 : List Sl} {r : Sl} {gq oq : Nat} (h : PW w rb pb tb ln L lc (some ⟨gq, oq, none⟩) qc wr A ac ms (r0 ++ [r])) (hg : wr.grownBy w1 r.v.ownBlock) :
    w1.cell? ⟨gq, oq + r0.length, none⟩ = some r.v ∧ (∀ j, w1.frozen? ⟨gq, j, none⟩ = false) ∧ gq < w1.heap.size := by
  have hO := h.px.sd.outer.chg (Chg.of_own (h.px.sd.row r (by simp)) hg) (by decide)
  exact ⟨hO.at_ (j := r0.length) (by simp), fun j => hO.froze j, (hO.lt gq rfl).2⟩
theorem PW.pr {m : PM} {A' : Option Addr} {ac' : Nat} (h : PW w rb pb tb ln L lc Q qc wr A ac ms rows) (hg : wr.grownBy w1 (Value.slice A ms.length ac).ownBlock)
    (ho : OwnO w1 rb 35 3 (.slice A' (ms.length + 1) ac') (ms.length + 1) (ms.flatMap procV ++ procV m)) (hm : m.mes = []) (hE : m.E = none ∧ m.ec = 0) (hv : OwnO wr rb 71 2 (.slice m.V m.vars.length m.vc) m.vars.length (varV m.vars)) :
    PW w rb pb tb ln L lc Q qc (w1.setCell ⟨tb, 0, none⟩ (.slice A' (ms.length + 1) ac')) A' ac' (ms ++ [m]) rows := by
  have hc1 := Chg.of_own h.px.tp.procs hg
  exact ⟨h.px.pr hg ho hm hE hv, (h.res.chg hc1 (by decide)).far (p := ⟨tb, 0, none⟩) h.ne _, (h.pos.chg hc1 (by decide)).chg (T := 24) (Chg.set ⟨_, h.px.cell.chg hc1 (by decide)⟩ 0 _) (by decide), (h.ex.grown hg fun k hk => Nat.le_trans h.le (h.px.tp.procs.lt k hk).1).setCell (p := ⟨tb, 0, none⟩) h.let_ _, h.le, h.ne, h.let_⟩
theorem PW.line_ {n : Nat} {L' : Option Addr} {lc' : Nat} (h : PW w rb pb tb ln L lc Q qc wr A ac ms rows) (hg : wr.grownBy w1 (Value.slice L ln.length lc).ownBlock) (ho : OwnO w1 rb 3 1 (.slice L' (ln.length + 1) lc') (ln.length + 1) (lnV ln ++ [.int .i64 (n : Int)])) :
    PW w rb pb tb (ln ++ [n]) L' lc' Q qc w1 A ac ms rows := by
  have hc := Chg.of_own h.px.lines hg
  exact ⟨h.px.line_ hg ho, h.res.chg hc (by decide), h.pos.chg hc (by decide), h.ex.grown hg fun k hk => Nat.le_trans h.le (h.px.lines.lt k hk).1, h.le, h.ne, h.let_⟩
theorem PW.rw_ {Q' : Option Addr} {qc' : Nat} (h : PW w rb pb tb ln L lc Q qc wr A ac ms rows) (hg : wr.grownBy w1 (Value.slice Q rows.length qc).ownBlock) (ho : OwnO w1 rb 107 1 (.slice Q' (rows.length + 1) qc') (rows.length + 1) (rows.map (·.v) ++ [.slice none 0 0])) :
    PW w rb pb tb ln L lc Q' qc' w1 A ac ms (rows ++ [⟨.slice none 0 0, 0, []⟩]) := by
  have hc := Chg.of_own h.px.sd.outer hg
  exact ⟨h.px.rw_ hg ho, h.res.chg hc (by decide), h.pos.chg hc (by decide), h.ex.grown hg fun k hk => Nat.le_trans h.le (h.px.sd.outer.lt k hk).1, h.le, h.ne, h.let_⟩
end
theorem map_snoc_inv {α β γ : Type} {f : α → γ} {g : β → γ} {l : List α} {a : List β} {b : β} (h : l.map f = (a ++ [b]).map g) : ∃ l0 x, l = l0 ++ [x] ∧ l0.map f = a.map g ∧ f x = g b := by
  rcases List.eq_nil_or_concat l with rfl | ⟨l0, x, rfl⟩
  · simp at h
  · rw [List.concat_eq_append] at h ⊢
    rw [List.map_append, List.map_append] at h
    obtain ⟨h1, h2⟩ := List.append_inj' h rfl
    exact ⟨l0, x, rfl, h1, by simpa using h2⟩
/-- the text's rest, line by line -/
theorem linesX_nil (n : Nat) (ps : List RP) : linesX n ps (spl 10 []) = .ok ps := rfl
theorem linesX_none (n : Nat) (ps : List RP) {R : List UInt8} (h : cutC 10 R = none) (hR : R ≠ []) : linesX n ps (spl 10 R) = .error (4, n, R.length + 1) := by
  rw [spl_none (cutC_none.1 h)]
  unfold linesX
  rw [if_neg hR]
theorem linesX_some (n : Nat) (ps : List RP) {R a b : List UInt8} (h : cutC 10 R = some (a, b)) : linesX n ps (spl 10 R) = match lineX n ps a with
    | .error x => .error (x.1, n, x.2)
    | .ok ps' => linesX (n + 1) ps' (spl 10 b) := by
  obtain ⟨e, hn⟩ := cutC_some h
  rw [e, spl_app b hn]
  obtain ⟨v, vs, hv⟩ := spl_cons 10 b
  rw [hv]
  show (match lineX n ps a with | .error (e, c) => _ | .ok ps' => _) = _
  cases lineX n ps a <;> rfl
theorem addE_pr (ps : List RP) (p : RP) (e : RE) : addE (ps ++ [p]) e = ps ++ [{ p with evs := p.evs ++ [e] }] := addE_snoc e p ps
/-- resolving, in parts -/
theorem resEs_cons (ns : List ByteArray) (e : RE) (r : List RE) : resEs ns (e :: r) = match resE ns e with | .error x => .error x | .ok v => match resEs ns r with | .error x => .error x | .ok vs => .ok (v :: vs) := rfl
theorem resPs_cons (ns : List ByteArray) (p : RP) (r : List RP) : resPs ns (p :: r) = match resEs ns p.evs with | .error x => .error x | .ok es => match resPs ns r with | .error x => .error x | .ok ps => .ok (⟨p.name, p.vars, es⟩ :: ps) := rfl
theorem resEs_app (ns : List ByteArray) : ∀ a b : List RE, resEs ns (a ++ b) = match resEs ns a with | .error x => .error x | .ok u => match resEs ns b with | .error x => .error x | .ok v => .ok (u ++ v)
  | [], b => by
    show resEs ns b = _
    cases resEs ns b with
    | error x => rfl
    | ok v => rfl
  | e :: a, b => by
    rw [List.cons_append, resEs_cons, resEs_cons]
    cases resE ns e with
    | error x => rfl
    | ok v =>
      dsimp only
      rw [resEs_app ns a b]
      cases resEs ns a with
      | error x => rfl
      | ok u =>
        dsimp only
        cases resEs ns b <;> rfl
theorem resPs_app (ns : List ByteArray) : ∀ a b : List RP, resPs ns (a ++ b) = match resPs ns a with | .error x => .error x | .ok u => match resPs ns b with | .error x => .error x | .ok v => .ok (u ++ v)
  | [], b => by
    show resPs ns b = _
    cases resPs ns b with
    | error x => rfl
    | ok v => rfl
  | e :: a, b => by
    rw [List.cons_append, resPs_cons, resPs_cons]
    cases resEs ns e.evs with
    | error x => rfl
    | ok v =>
      dsimp only
      rw [resPs_app ns a b]
      cases resPs ns a with
      | error x => rfl
      | ok u =>
        dsimp only
        cases resPs ns b <;> rfl
end Go.Proofs.YtpmponafjhnegaaGreatDoor
