/-
  Memory of a trace that is being built: processes, their events and variables; side tables of rows; plain.
  Conditions: none.
-/
import Derived.Test.YtpmponafjhnegaaGreatDoorMf
namespace Go.Proofs.YtpmponafjhnegaaGreatDoor
open Go.RowKit
section
variable {w w' : World} {base : Nat} {e : TypeId} {size n cap g o : Nat} {xs : List Value}
/-- one cell of a row is written -/
theorem OwnO.puts (h : OwnO w base e size (.slice (some ⟨g, o, none⟩) n cap) n xs) (j : Nat) (u : Value) : OwnO (w.setCell ⟨g, o + j, none⟩ u) base e size (.slice (some ⟨g, o, none⟩) n cap) n (xs.set j u) := by
  refine ⟨by rw [List.length_set]; exact h.1, ?_⟩
  rcases h.2 with ⟨h0, _⟩ | ⟨g', o', cap', cur, he, hb, hgg, h1, h2, h3, h4⟩
  · cases h0
  · cases he
    have hB : Blk w g e cur.toList := by unfold Blk; simpa using hgg
    have hS := hB.set_ (o + j) u
    unfold Blk at hS
    refine .inr ⟨g, o, cap, (cur.toList.set (o + j) u).toArray, rfl, hb, hS, h1, h2, by simpa using h3, ?_⟩
    rw [List.toList_toArray, List.drop_set, if_neg (by omega), List.take_set, h4]
    congr 1
    omega
theorem OwnO.froze (h : OwnO w base e size (.slice (some ⟨g, o, none⟩) n cap) n xs) (j : Nat) : w.frozen? ⟨g, j, none⟩ = false := by
  rcases h.2 with ⟨h0, -⟩ | ⟨g', o', cap', cur, he, hb, hgg, -⟩
  · cases h0
  · cases he
    have hB : Blk w g e cur.toList := by unfold Blk; simpa using hgg
    exact hB.frozen j
theorem OwnO.at_ (h : OwnO w base e size (.slice (some ⟨g, o, none⟩) n cap) n xs) {j : Nat} {u : Value} (hj : xs[j]? = some u) : w.cell? ⟨g, o + j, none⟩ = some u := by
  have hn : 0 < n := by
    rcases Nat.eq_zero_or_pos n with hz | hp
    · have := h.1
      rw [hz, Nat.zero_mul] at this
      have := List.length_eq_zero_iff.1 this
      subst this
      simp at hj
    · exact hp
  obtain ⟨g', o', cap', he, -, -, -, -, hc⟩ := h.open_ hn
  cases he
  exact hc j u hj
theorem OwnO.rw_ (h : OwnO w base e size (.slice (some ⟨g, o, none⟩) n cap) n xs) : ∃ cur, w.heap[g]? = some (.cells cur e (0, 0)) := by
  rcases h.2 with ⟨h0, -⟩ | ⟨g', o', cap', cur, he, hb, hgg, -⟩
  · cases h0
  · cases he; exact ⟨cur, hgg⟩
theorem OwnO.row' {D : Option Addr} (h : OwnO w base e size (.slice D n cap) n xs) : Row w D xs := by
  rcases Nat.eq_zero_or_pos n with hz | hp
  · left
    have := h.1
    rw [hz, Nat.zero_mul] at this
    exact List.length_eq_zero_iff.1 this
  · right
    obtain ⟨g', o', cap', he, -, -, -, hl, hc⟩ := h.open_ hp
    cases he
    exact ⟨g', o', rfl, hl, hc⟩
end
/-- a change of one block of a type, and new blocks -/
def Chg (T : TypeId) (w w' : World) (row : Option Nat) : Prop := w.grownBy w' row ∧ ∀ k, row = some k → ∃ cur, w.heap[k]? = some (.cells cur T (0, 0))
theorem setCell_grown (w : World) (b o : Nat) (u : Value) : w.grownBy (w.setCell ⟨b, o, none⟩ u) (some b) :=
  ⟨rfl, rfl, rfl, by simp [World.setCell], fun k _ hk => Below.heap_setCell w ⟨b, o, none⟩ u k (fun e => hk (by rw [e]))⟩
theorem Chg.of_own {w w' : World} {base : Nat} {T : TypeId} {size : Nat} {v : Value} {n : Nat} {xs : List Value} (h : OwnO w base T size v n xs) (hg : w.grownBy w' v.ownBlock) : Chg T w w' v.ownBlock := by
  refine ⟨hg, fun k hk => ?_⟩
  rcases h.2 with ⟨rfl, -⟩ | ⟨g, o, cap, cur, rfl, -, hgg, -⟩
  · simp [Value.ownBlock] at hk
  · simp only [Value.ownBlock, Option.some.injEq] at hk
    subst hk
    exact ⟨cur, hgg⟩
theorem Chg.set {w : World} {T : TypeId} {b : Nat} (h : ∃ cur, w.heap[b]? = some (.cells cur T (0, 0))) (o : Nat) (u : Value) : Chg T w (w.setCell ⟨b, o, none⟩ u) (some b) :=
  ⟨setCell_grown w b o u, fun k hk => by cases hk; exact h⟩
theorem Chg.ne {w w' : World} {T : TypeId} {row : Option Nat} (h : Chg T w w' row) {k : Nat} {t : TypeId} {cur : Array Value} (hk : w.heap[k]? = some (.cells cur t (0, 0))) (hne : t ≠ T) : some k ≠ row := fun e => by
  obtain ⟨cur', h'⟩ := h.2 k e.symm
  rw [hk] at h'
  injection h' with h'
  injection h' with _ ht
  exact hne ht
theorem OwnO.chg {w w' : World} {base : Nat} {t T : TypeId} {size : Nat} {v : Value} {n : Nat} {xs : List Value} {row : Option Nat} (h : OwnO w base t size v n xs) (hc : Chg T w w' row) (hne : t ≠ T) : OwnO w' base t size v n xs := by
  refine h.kept hc.1 ?_
  rcases h.2 with ⟨rfl, -⟩ | ⟨g, o, cap, cur, rfl, -, hgg, -⟩
  · exact .inl rfl
  · exact .inr (hc.ne hgg hne)
theorem Blk.chg {w w' : World} {g : Nat} {t T : TypeId} {cs : List Value} {row : Option Nat} (h : Blk w g t cs) (hc : Chg T w w' row) (hne : t ≠ T) : Blk w' g t cs := h.grown hc.1 (hc.ne h hne)
/-- a slice's value, its length and its cells -/
structure Sl where
  v : Value
  n : Nat
  xs : List Value
def Sl.own (s : Sl) (w : World) (base : Nat) (e : TypeId) (size : Nat) : Prop := OwnO w base e size s.v s.n s.xs
/-- rows in blocks of their own -/
def Apart (a b : Sl) : Prop := ∀ g, a.v.ownBlock = some g → b.v.ownBlock ≠ some g
theorem Apart.symm {a b : Sl} (h : Apart a b) : Apart b a := fun g h1 h2 => h g h2 h1
theorem Apart.row {a b : Sl} (h : Apart a b) : a.v.ownBlock = none ∨ a.v.ownBlock ≠ b.v.ownBlock := by
  cases ha : a.v.ownBlock with
  | none => exact .inl rfl
  | some g => exact .inr fun e => h g ha e.symm
theorem Apart.push {a b b' : Sl} {w : World} {base : Nat} {e : TypeId} {size : Nat} (h : Apart a b) (ha : a.own w base e size) (hat : b'.v.ownBlock = b.v.ownBlock ∨ b'.v.ownBlock = some w.heap.size) : Apart a b' := fun g h1 h2 => by
  rcases hat with h' | h'
  · exact h g h1 (h'.symm.trans h2)
  · have := (OwnO.lt ha g h1).2
    rw [h'] at h2
    injection h2 with h2
    omega
theorem Apart.nil (a : Sl) : Apart a ⟨.slice none 0 0, 0, []⟩ := fun g _ h2 => by simp [Value.ownBlock] at h2
/-- a table of rows beside the trace -/
structure Sd (w : World) (base : Nat) (tq ti : TypeId) (sz : Nat) (Q : Option Addr) (qc : Nat) (rows : List Sl) : Prop where
  outer : OwnO w base tq 1 (.slice Q rows.length qc) rows.length (rows.map (·.v))
  row : ∀ r ∈ rows, r.own w base ti sz
  sep : rows.Pairwise Apart
section
variable {w w1 : World} {base : Nat} {tq ti T : TypeId} {sz : Nat} {Q : Option Addr} {qc : Nat} {rows : List Sl}
theorem Sd.nil (w : World) (base : Nat) (tq ti : TypeId) (sz : Nat) : Sd w base tq ti sz none 0 [] := ⟨OwnO.nil _ _ _ _, fun _ hr => absurd hr List.not_mem_nil, List.Pairwise.nil⟩
theorem Sd.ex (h : Sd w base tq ti sz Q qc rows) (hx : Ex w w1) : Sd w1 base tq ti sz Q qc rows := ⟨h.outer.ex hx, fun r hr => OwnO.ex (h.row r hr) hx, h.sep⟩
theorem Sd.chg {r9 : Option Nat} (h : Sd w base tq ti sz Q qc rows) (hc : Chg T w w1 r9) (h1 : tq ≠ T) (h2 : ti ≠ T) : Sd w1 base tq ti sz Q qc rows := ⟨h.outer.chg hc h1, fun r hr => OwnO.chg (h.row r hr) hc h2, h.sep⟩
/-- the last row grows; the table's cell is still to be written -/
theorem Sd.grow {r0 : List Sl} {r r' : Sl} (h : Sd w base tq ti sz Q qc (r0 ++ [r])) (ht : tq ≠ ti) (hg : w.grownBy w1 r.v.ownBlock) (ho : r'.own w1 base ti sz) (hat : r'.v.ownBlock = r.v.ownBlock ∨ r'.v.ownBlock = some w.heap.size) :
    OwnO w1 base tq 1 (.slice Q (r0 ++ [r]).length qc) (r0 ++ [r]).length ((r0 ++ [r]).map (·.v)) ∧ (∀ x ∈ r0 ++ [r'], x.own w1 base ti sz) ∧ (r0 ++ [r']).Pairwise Apart := by
  have hr := h.row r (by simp)
  have hsep := List.pairwise_append.1 h.sep
  have hap : ∀ x ∈ r0, Apart x r := fun x hx => hsep.2.2 x hx r (by simp)
  refine ⟨h.outer.chg (Chg.of_own hr hg) ht, fun x hx => ?_, ?_⟩
  · rcases List.mem_append.1 hx with hx | hx
    · exact OwnO.kept (h.row x (List.mem_append_left _ hx)) hg (hap x hx).row
    · rw [List.mem_singleton.1 hx]; exact ho
  · refine List.pairwise_append.2 ⟨hsep.1, List.pairwise_singleton _ _, fun x hx y hy => ?_⟩
    rw [List.mem_singleton.1 hy]
    exact (hap x hx).push (h.row x (List.mem_append_left _ hx)) hat
theorem Sd.done {r0 : List Sl} {r r' : Sl} {gq oq : Nat} (ht : ti ≠ tq) (hO : OwnO w1 base tq 1 (.slice (some ⟨gq, oq, none⟩) (r0 ++ [r]).length qc) (r0 ++ [r]).length ((r0 ++ [r]).map (·.v))) (hR : ∀ x ∈ r0 ++ [r'], x.own w1 base ti sz) (hS : (r0 ++ [r']).Pairwise Apart) :
    Sd (w1.setCell ⟨gq, oq + r0.length, none⟩ r'.v) base tq ti sz (some ⟨gq, oq, none⟩) qc (r0 ++ [r']) := by
  have hc := Chg.set hO.rw_ (oq + r0.length) r'.v
  refine ⟨?_, fun x hx => OwnO.chg (hR x hx) hc ht, hS⟩
  have := hO.puts r0.length r'.v
  have e1 : ((r0 ++ [r]).map (·.v)).set r0.length r'.v = (r0 ++ [r']).map (·.v) := by
    rw [List.map_append, List.map_append, List.set_append_right _ _ (by simp)]
    simp
  have e2 : (r0 ++ [r]).length = (r0 ++ [r']).length := by simp
  rw [e1, e2] at this
  exact this
/-- one more row, empty -/
theorem Sd.snoc {Q' : Option Addr} {qc' : Nat} (h : Sd w base tq ti sz Q qc rows) (ht : ti ≠ tq) (hg : w.grownBy w1 (Value.slice Q rows.length qc).ownBlock) (ho : OwnO w1 base tq 1 (.slice Q' (rows.length + 1) qc') (rows.length + 1) (rows.map (·.v) ++ [.slice none 0 0])) :
    Sd w1 base tq ti sz Q' qc' (rows ++ [⟨.slice none 0 0, 0, []⟩]) := by
  refine ⟨?_, fun x hx => ?_, ?_⟩
  · have e : (rows ++ [(⟨.slice none 0 0, 0, []⟩ : Sl)]).length = rows.length + 1 := by simp
    rw [e, List.map_append]
    exact ho
  · rcases List.mem_append.1 hx with hx | hx
    · exact OwnO.chg (h.row x hx) (Chg.of_own h.outer hg) ht
    · rw [List.mem_singleton.1 hx]; exact OwnO.nil _ _ _ _
  · exact List.pairwise_append.2 ⟨h.sep, List.pairwise_singleton _ _, fun x _ y hy => by rw [List.mem_singleton.1 hy]; exact Apart.nil x⟩
end
/-- an event in memory -/
structure ME where
  e : Ev
  B : Option Addr
  c : Nat
/-- a process in memory -/
structure PM where
  name : ByteArray
  vars : List (ByteArray × Int)
  mes : List ME
  V : Option Addr
  vc : Nat
  E : Option Addr
  ec : Nat
def meV (x : ME) : List Value := evCs x.e x.B x.c
def evsV (l : List ME) : List Value := l.flatMap meV
def procV (m : PM) : List Value := [.string m.name, .slice m.V m.vars.length m.vc, .slice m.E m.mes.length m.ec]
def PM.evSl (m : PM) : Sl := ⟨.slice m.E m.mes.length m.ec, m.mes.length, evsV m.mes⟩
def PM.pr (m : PM) : Pr := ⟨m.name, m.vars, m.mes.map (·.e)⟩
def MeO (w : World) (base : Nat) (x : ME) : Prop := OwnO w base 102 2 (.slice x.B x.e.asg.length x.c) x.e.asg.length (asgV x.e.asg)
/-- the trace in memory -/
structure TP (w : World) (base : Nat) (A : Option Addr) (ac : Nat) (ms : List PM) : Prop where
  procs : OwnO w base 35 3 (.slice A ms.length ac) ms.length (ms.flatMap procV)
  vars : ∀ m ∈ ms, OwnO w base 71 2 (.slice m.V m.vars.length m.vc) m.vars.length (varV m.vars)
  evs : ∀ m ∈ ms, m.evSl.own w base 38 5
  asg : ∀ m ∈ ms, ∀ x ∈ m.mes, MeO w base x
  sep : ms.Pairwise fun a b => Apart a.evSl b.evSl
section
variable {w w1 : World} {base : Nat} {A : Option Addr} {ac : Nat} {ms : List PM}
theorem TP.nil (w : World) (base : Nat) : TP w base none 0 [] := ⟨OwnO.nil _ _ _ _, fun _ hm => absurd hm List.not_mem_nil, fun _ hm => absurd hm List.not_mem_nil, fun _ hm => absurd hm List.not_mem_nil, List.Pairwise.nil⟩
theorem TP.ex (h : TP w base A ac ms) (hx : Ex w w1) : TP w1 base A ac ms := ⟨h.procs.ex hx, fun m hm => (h.vars m hm).ex hx, fun m hm => OwnO.ex (h.evs m hm) hx, fun m hm x hx' => OwnO.ex (h.asg m hm x hx') hx, h.sep⟩
theorem TP.chg {T : TypeId} {r9 : Option Nat} (h : TP w base A ac ms) (hc : Chg T w w1 r9) (h1 : 35 ≠ T) (h2 : 71 ≠ T) (h3 : 38 ≠ T) (h4 : 102 ≠ T) : TP w1 base A ac ms :=
  ⟨h.procs.chg hc h1, fun m hm => (h.vars m hm).chg hc h2, fun m hm => OwnO.chg (h.evs m hm) hc h3, fun m hm x hx' => OwnO.chg (h.asg m hm x hx') hc h4, h.sep⟩
theorem procs_get : ∀ (l : List PM) (i : Nat) (m : PM), l[i]? = some m → ∀ j, j < 3 → (l.flatMap procV)[i * 3 + j]? = (procV m)[j]?
  | [], i, m, h, _, _ => by simp at h
  | x :: l, 0, m, h, j, hj => by
    cases h
    rw [List.flatMap_cons, Nat.zero_mul, Nat.zero_add, List.getElem?_append_left (by show j < 3; exact hj)]
  | x :: l, i + 1, m, h, j, hj => by
    rw [List.flatMap_cons, List.getElem?_append_right (by show 3 ≤ _; omega), show (i + 1) * 3 + j - (procV x).length = i * 3 + j by show (i + 1) * 3 + j - 3 = _; omega]
    exact procs_get l i m (by simpa using h) j hj
theorem evsV_get : ∀ (l : List ME) (i : Nat) (m : ME), l[i]? = some m → ∀ j, j < 5 → (evsV l)[i * 5 + j]? = (meV m)[j]?
  | [], i, m, h, _, _ => by simp at h
  | x :: l, 0, m, h, j, hj => by
    cases h
    unfold evsV
    rw [List.flatMap_cons, Nat.zero_mul, Nat.zero_add, List.getElem?_append_left (by show j < 5; exact hj)]
  | x :: l, i + 1, m, h, j, hj => by
    unfold evsV
    rw [List.flatMap_cons, List.getElem?_append_right (by show 5 ≤ _; omega), show (i + 1) * 5 + j - (meV x).length = i * 5 + j by show (i + 1) * 5 + j - 5 = _; omega]
    exact evsV_get l i m (by simpa using h) j hj
theorem procs_len : ∀ l : List PM, (l.flatMap procV).length = l.length * 3
  | [] => rfl
  | x :: l => by rw [List.flatMap_cons, List.length_append, procs_len l, List.length_cons]; show 3 + _ = _; omega
/-- the last process has one event more -/
theorem TP.addEv {m0 : List PM} {m : PM} {x : ME} {E' : Option Addr} {ec' ga oa : Nat} (h : TP w base (some ⟨ga, oa, none⟩) ac (m0 ++ [m])) (hg : w.grownBy w1 m.evSl.v.ownBlock)
    (ho : OwnO w1 base 38 5 (.slice E' (m.mes.length + 1) ec') (m.mes.length + 1) (evsV m.mes ++ meV x)) (hat : (Value.slice E' (m.mes.length + 1) ec').ownBlock = m.evSl.v.ownBlock ∨ (Value.slice E' (m.mes.length + 1) ec').ownBlock = some w.heap.size) (hx : MeO w base x) :
    TP (w1.setCell ⟨ga, oa + (m0.length * 3 + 2), none⟩ (.slice E' (m.mes.length + 1) ec')) base (some ⟨ga, oa, none⟩) ac (m0 ++ [{ m with mes := m.mes ++ [x], E := E', ec := ec' }]) := by
  have hm := h.evs m (by simp)
  have hc1 := Chg.of_own hm hg
  have hp1 := h.procs.chg hc1 (by decide)
  have hc2 := Chg.set hp1.rw_ (oa + (m0.length * 3 + 2)) (.slice E' (m.mes.length + 1) ec')
  have hsep := List.pairwise_append.1 h.sep
  have hap : ∀ y ∈ m0, Apart y.evSl m.evSl := fun y hy => hsep.2.2 y hy m (by simp)
  have hnew : PM.evSl { m with mes := m.mes ++ [x], E := E', ec := ec' } = ⟨.slice E' (m.mes.length + 1) ec', m.mes.length + 1, evsV m.mes ++ meV x⟩ := by
    unfold PM.evSl evsV
    simp
  refine ⟨?_, fun y hy => ?_, fun y hy => ?_, fun y hy z hz => ?_, ?_⟩
  · have := hp1.puts (m0.length * 3 + 2) (.slice E' (m.mes.length + 1) ec')
    have e1 : ((m0 ++ [m]).flatMap procV).set (m0.length * 3 + 2) (.slice E' (m.mes.length + 1) ec') = (m0 ++ [{ m with mes := m.mes ++ [x], E := E', ec := ec' }]).flatMap procV := by
      rw [List.flatMap_append, List.flatMap_append, List.set_append_right _ _ (by rw [procs_len]; omega), procs_len, Nat.add_sub_cancel_left]
      simp [procV]
    have e2 : (m0 ++ [m]).length = (m0 ++ [{ m with mes := m.mes ++ [x], E := E', ec := ec' }]).length := by simp
    rw [e1, e2] at this
    exact this
  · have hv : ∀ y ∈ m0 ++ [m], OwnO (w1.setCell ⟨ga, oa + (m0.length * 3 + 2), none⟩ (.slice E' (m.mes.length + 1) ec')) base 71 2 (.slice y.V y.vars.length y.vc) y.vars.length (varV y.vars) := fun y hy => ((h.vars y hy).chg hc1 (by decide)).chg hc2 (by decide)
    rcases List.mem_append.1 hy with hy | hy
    · exact hv y (List.mem_append_left _ hy)
    · rw [List.mem_singleton.1 hy]; exact hv m (by simp)
  · rcases List.mem_append.1 hy with hy | hy
    · exact OwnO.chg (OwnO.kept (h.evs y (List.mem_append_left _ hy)) hg (hap y hy).row) hc2 (by decide)
    · rw [List.mem_singleton.1 hy, hnew]; exact OwnO.chg ho hc2 (by decide)
  · have ha : ∀ z, MeO w base z → MeO (w1.setCell ⟨ga, oa + (m0.length * 3 + 2), none⟩ (.slice E' (m.mes.length + 1) ec')) base z := fun z hz => (OwnO.chg hz hc1 (by decide)).chg hc2 (by decide)
    rcases List.mem_append.1 hy with hy | hy
    · exact ha z (h.asg y (List.mem_append_left _ hy) z hz)
    · rw [List.mem_singleton.1 hy] at hz
      rcases List.mem_append.1 hz with hz | hz
      · exact ha z (h.asg m (by simp) z hz)
      · rw [List.mem_singleton.1 hz]; exact ha x hx
  · refine List.pairwise_append.2 ⟨hsep.1, List.pairwise_singleton _ _, fun y hy z hz => ?_⟩
    rw [List.mem_singleton.1 hz, hnew]
    exact (hap y hy).push (h.evs y (List.mem_append_left _ hy)) hat
/-- one process more -/
theorem TP.addPr {m : PM} {A' : Option Addr} {ac' : Nat} (h : TP w base A ac ms) (hg : w.grownBy w1 (Value.slice A ms.length ac).ownBlock)
    (ho : OwnO w1 base 35 3 (.slice A' (ms.length + 1) ac') (ms.length + 1) (ms.flatMap procV ++ procV m)) (hm : m.mes = []) (hE : m.E = none ∧ m.ec = 0) (hv : OwnO w base 71 2 (.slice m.V m.vars.length m.vc) m.vars.length (varV m.vars)) : TP w1 base A' ac' (ms ++ [m]) := by
  have hc := Chg.of_own h.procs hg
  have hsl : m.evSl = ⟨.slice none 0 0, 0, []⟩ := by unfold PM.evSl evsV; rw [hm, hE.1, hE.2]; rfl
  refine ⟨?_, fun y hy => ?_, fun y hy => ?_, fun y hy z hz => ?_, ?_⟩
  · have e : (ms ++ [m]).length = ms.length + 1 := by simp
    rw [e, List.flatMap_append]
    simpa using ho
  · rcases List.mem_append.1 hy with hy | hy
    · exact (h.vars y hy).chg hc (by decide)
    · rw [List.mem_singleton.1 hy]; exact hv.chg hc (by decide)
  · rcases List.mem_append.1 hy with hy | hy
    · exact OwnO.chg (h.evs y hy) hc (by decide)
    · rw [List.mem_singleton.1 hy, hsl]; exact OwnO.nil _ _ _ _
  · rcases List.mem_append.1 hy with hy | hy
    · exact OwnO.chg (h.asg y hy z hz) hc (by decide)
    · rw [List.mem_singleton.1 hy, hm] at hz; exact absurd hz List.not_mem_nil
  · exact List.pairwise_append.2 ⟨h.sep, List.pairwise_singleton _ _, fun x _ y hy => by rw [List.mem_singleton.1 hy, hsl]; exact Apart.nil _⟩
def ME.tq (x : ME) (q : Int) : ME := { x with e := { x.e with peer := q } }
theorem evsV_set : ∀ (l : List ME) (i : Nat) (x : ME) (q : Int), l[i]? = some x → (evsV l).set (i * 5 + 1) (.int .i64 q) = evsV (l.set i (x.tq q))
  | [], i, x, q, h => by simp at h
  | y :: l, 0, x, q, h => by
    cases h
    rfl
  | y :: l, i + 1, x, q, h => by
    have ih := evsV_set l i x q (by simpa using h)
    unfold evsV at ih ⊢
    rw [List.set_cons_succ, List.flatMap_cons, List.flatMap_cons, ← ih, List.set_append_right _ _ (by show 5 ≤ _; omega), show (i + 1) * 5 + 1 - (meV y).length = i * 5 + 1 by show (i + 1) * 5 + 1 - 5 = _; omega]
/-- the peer of an event is written -/
theorem TP.setPeer {p i : Nat} {m : PM} {x : ME} {ge oe : Nat} (q : Int) (h : TP w base A ac ms) (hp : ms[p]? = some m) (hi : m.mes[i]? = some x) (hE : m.E = some ⟨ge, oe, none⟩) :
    TP (w.setCell ⟨ge, oe + (i * 5 + 1), none⟩ (.int .i64 q)) base A ac (ms.set p { m with mes := m.mes.set i (x.tq q) }) := by
  have hpl := (List.getElem?_eq_some_iff.1 hp).1
  have hmem := List.mem_of_getElem? hp
  have hm : OwnO w base 38 5 (.slice (some ⟨ge, oe, none⟩) m.mes.length m.ec) m.mes.length (evsV m.mes) := by
    have := h.evs m hmem
    unfold Sl.own PM.evSl at this
    rw [hE] at this
    exact this
  have hc := Chg.set hm.rw_ (oe + (i * 5 + 1)) (.int .i64 q)
  have hproc : ∀ (l : List PM) (p : Nat), l[p]? = some m → (l.set p { m with mes := m.mes.set i (x.tq q) }).flatMap procV = l.flatMap procV := by
    intro l
    induction l with
    | nil => intro p h; simp at h
    | cons y l ih =>
      intro p h
      cases p with
      | zero =>
        cases h
        rw [List.set_cons_zero, List.flatMap_cons, List.flatMap_cons]
        congr 1
        simp [procV]
      | succ p => rw [List.set_cons_succ, List.flatMap_cons, List.flatMap_cons, ih p (by simpa using h)]
  have hin : ∀ y ∈ ms.set p { m with mes := m.mes.set i (x.tq q) }, y ∈ ms ∨ y = { m with mes := m.mes.set i (x.tq q) } := fun y hy => List.mem_or_eq_of_mem_set hy
  refine ⟨?_, fun y hy => ?_, fun y hy => ?_, fun y hy z hz => ?_, ?_⟩
  · rw [hproc ms p hp, List.length_set]
    exact h.procs.chg hc (by decide)
  · rcases hin y hy with hy | rfl
    · exact (h.vars y hy).chg hc (by decide)
    · exact (h.vars m hmem).chg hc (by decide)
  · obtain ⟨k, hk⟩ := List.mem_iff_getElem?.1 hy
    by_cases hkp : k = p
    · subst hkp
      rw [List.getElem?_set_self hpl] at hk
      cases hk
      unfold Sl.own PM.evSl
      dsimp only
      rw [hE, List.length_set, ← evsV_set m.mes i x q hi]
      exact hm.puts (i * 5 + 1) _
    · rw [List.getElem?_set_ne (fun e => hkp e.symm)] at hk
      have hym := List.mem_of_getElem? hk
      refine OwnO.kept (h.evs y hym) hc.1 ?_
      have hap : Apart y.evSl m.evSl := by
        obtain ⟨hkl, rfl⟩ := List.getElem?_eq_some_iff.1 hk
        obtain ⟨_, rfl⟩ := List.getElem?_eq_some_iff.1 hp
        rcases Nat.lt_or_ge k p with hlt | hge
        · exact List.pairwise_iff_getElem.1 h.sep k p hkl hpl hlt
        · exact (List.pairwise_iff_getElem.1 h.sep p k hpl hkl (by omega)).symm
      have hob : m.evSl.v.ownBlock = some ge := by unfold PM.evSl; rw [hE]; rfl
      rw [← hob]
      exact hap.row
  · have ha : ∀ z, MeO w base z → MeO (w.setCell ⟨ge, oe + (i * 5 + 1), none⟩ (.int .i64 q)) base z := fun z hz => OwnO.chg hz hc (by decide)
    rcases hin y hy with hy | rfl
    · exact ha z (h.asg y hy z hz)
    · rcases List.mem_or_eq_of_mem_set hz with hz | rfl
      · exact ha z (h.asg m hmem z hz)
      · have := ha x (h.asg m hmem x (List.mem_of_getElem? hi))
        exact this
  · have hv : ∀ y : PM, y = { m with mes := m.mes.set i (x.tq q) } → y.evSl.v = m.evSl.v := fun y hy => by rw [hy]; unfold PM.evSl; simp
    have : ∀ a b : PM, Apart a.evSl b.evSl ↔ ∀ g, a.evSl.v.ownBlock = some g → b.evSl.v.ownBlock ≠ some g := fun a b => Iff.rfl
    rw [List.pairwise_iff_getElem]
    intro a b ha hb hab
    rw [List.length_set] at ha hb
    have hg : ∀ (c : Nat) (hc : c < (ms.set p { m with mes := m.mes.set i (x.tq q) }).length), ((ms.set p { m with mes := m.mes.set i (x.tq q) })[c]).evSl.v = (ms[c]'(by simpa using hc)).evSl.v := fun c hc => by
      rw [List.getElem_set]
      split
      · rename_i e
        subst e
        obtain ⟨_, e2⟩ := List.getElem?_eq_some_iff.1 hp
        rw [e2]
        exact hv _ rfl
      · rfl
    have h0 := List.pairwise_iff_getElem.1 h.sep a b ha hb hab
    unfold Apart at h0 ⊢
    rw [hg, hg]
    exact h0
theorem TP.tc (h : TP w base A ac ms) : TcC w A (ms.map PM.pr) := fun p x hx => by
  rw [List.getElem?_map] at hx
  cases hm : ms[p]? with
  | none => rw [hm] at hx; cases hx
  | some m =>
    rw [hm] at hx
    cases hx
    have hmem := List.mem_of_getElem? hm
    have hpos : 0 < ms.length := by have := (List.getElem?_eq_some_iff.1 hm).1; omega
    obtain ⟨ga, oa, cap, he, -, -, -, hl, hc⟩ := h.procs.open_ hpos
    cases he
    have hget := procs_get ms p m hm
    obtain ⟨V', vc', hV, hVc, -⟩ := (h.vars m hmem).len
    cases hV
    obtain ⟨E', ec', hEe, hEc, -⟩ := OwnO.len (h.evs m hmem)
    cases hEe
    refine ⟨ga, oa, rfl, hl, m.V, m.vc, m.E, m.ec, hc _ _ (hget 0 (by decide)), ?_, ?_, ⟨(h.vars m hmem).row', hVc, ?_⟩, fun i e hi => ?_⟩
    · rw [Nat.add_assoc]; exact hc _ _ (hget 1 (by decide))
    · rw [Nat.add_assoc]
      have := hc _ _ (hget 2 (by decide))
      unfold PM.pr
      rw [List.length_map]
      exact this
    · unfold PM.pr
      rw [List.length_map]
      exact hEc
    · unfold PM.pr at hi
      dsimp only at hi
      rw [List.getElem?_map] at hi
      cases hz : m.mes[i]? with
      | none => rw [hz] at hi; cases hi
      | some z =>
        rw [hz] at hi
        cases hi
        have hzpos : 0 < m.mes.length := by have := (List.getElem?_eq_some_iff.1 hz).1; omega
        obtain ⟨ge, oe, cap2, he2, -, -, -, hl2, hc2⟩ := OwnO.open_ (h.evs m hmem) hzpos
        have he3 : m.E = some ⟨ge, oe, none⟩ := by
          unfold PM.evSl at he2
          injection he2
        have hg2 := evsV_get m.mes i z hz
        have hao := h.asg m hmem z (List.mem_of_getElem? hz)
        obtain ⟨B', c', hB, hBc, -⟩ := OwnO.len hao
        cases hB
        refine ⟨ge, oe, he3, hl2, z.B, z.c, hc2 _ _ (hg2 0 (by decide)), ?_, ?_, ?_, ?_, hao.row', hBc⟩
        · rw [Nat.add_assoc]; exact hc2 _ _ (hg2 1 (by decide))
        · rw [Nat.add_assoc]; exact hc2 _ _ (hg2 2 (by decide))
        · rw [Nat.add_assoc]; exact hc2 _ _ (hg2 3 (by decide))
        · rw [Nat.add_assoc]; exact hc2 _ _ (hg2 4 (by decide))
end
end Go.Proofs.YtpmponafjhnegaaGreatDoor
