/-
  Memory of the law Domino: two rows of events and two rows of states, and the trace made of them.
  Conditions: as each theorem says.
-/
import Derived.Test.YtdenojfbdkdpiaaDa
import Derived.Test.YtdenojfbdkdpiaaRm
namespace Go.Proofs.Ytdenojfbdkdpiaa
open Go.RowKit Go.Shelf
theorem flat_get {α β : Type} (f : α → List β) (k : Nat) (hk : ∀ a, (f a).length = k) : ∀ (l : List α) (i : Nat) (a : α), l[i]? = some a → ∀ j, j < k → (l.flatMap f)[i * k + j]? = (f a)[j]?
  | [], i, a, h, _, _ => by simp at h
  | x :: l, 0, a, h, j, hj => by
    cases h
    rw [List.flatMap_cons, Nat.zero_mul, Nat.zero_add, List.getElem?_append_left (by rw [hk]; exact hj)]
  | x :: l, i + 1, a, h, j, hj => by
    rw [List.flatMap_cons, List.getElem?_append_right (by rw [hk, Nat.succ_mul]; omega), hk, show (i + 1) * k + j - k = i * k + j by rw [Nat.succ_mul]; omega]
    exact flat_get f k hk l i a (by simpa using h) j hj
/-- a slice's value, its length and its cells -/
structure Sl where
  v : Value
  n : Nat
  xs : List Value
def Sl.own (s : Sl) (w : World) (base : Nat) (e : TypeId) (size : Nat) : Prop := OwnO w base e size s.v s.n s.xs
/-- rows in blocks of their own -/
def Apart (a b : Sl) : Prop := ∀ g, a.v.ownBlock = some g → b.v.ownBlock ≠ some g
theorem Apart.symm {a b : Sl} (h : Apart a b) : Apart b a := fun g h1 h2 => h g h2 h1
theorem Apart.row {a b : Sl} (h : Apart a b) : b.v.ownBlock = none ∨ b.v.ownBlock ≠ a.v.ownBlock := by
  cases hb : b.v.ownBlock with
  | none => exact .inl rfl
  | some g => exact .inr fun e => h g e.symm hb
theorem Apart.push {a b a' : Sl} {w : World} {base : Nat} {e : TypeId} {size : Nat} (h : Apart a b) (hb : b.own w base e size) (hat : a'.v.ownBlock = a.v.ownBlock ∨ a'.v.ownBlock = some w.heap.size) : Apart a' b := fun g h1 h2 => by
  rcases hat with h' | h'
  · exact h g (h'.symm.trans h1) h2
  · have := (OwnO.lt hb g h2).2
    rw [h'] at h1
    injection h1 with h1
    omega
/-- what the law's first part holds: two rows of events, and a block of two rows of states -/
structure Dm (w : World) (base nb : Nat) (a b p q : Sl) : Prop where
  oa : a.own w base 61 5
  ob : b.own w base 61 5
  op : p.own w base 3 1
  oq : q.own w base 3 1
  ab : Apart a b
  pq : Apart p q
  blk : Blk w nb 39 [p.v, q.v]
theorem infoEv : (Try.prog.info? 61).map (fun i => (i.zero, i.size, i.bytes)) = some (some (.agg #[.int .i64 0, .int .i64 0, .int .i64 0, .int .i64 0, .slice none 0 0]), 5, 56) := by kernel_rfl
theorem evInt : 3 ≠ 61 := by decide
theorem rowEv : 39 ≠ 61 := by decide
theorem rowInt : 39 ≠ 3 := by decide
section
variable {w w' : World} {base nb : Nat} {a b p q : Sl}
theorem Dm.ex (h : Dm w base nb a b p q) (hx : Ex w w') : Dm w' base nb a b p q := ⟨OwnO.ex h.oa hx, OwnO.ex h.ob hx, OwnO.ex h.op hx, OwnO.ex h.oq hx, h.ab, h.pq, h.blk.ex hx⟩
theorem Dm.setA {a' : Sl} (h : Dm w base nb a b p q) (hg : w.grownBy w' a.v.ownBlock) (ho : a'.own w' base 61 5) (hat : a'.v.ownBlock = a.v.ownBlock ∨ a'.v.ownBlock = some w.heap.size) : Dm w' base nb a' b p q :=
  ⟨ho, OwnO.kept h.ob hg h.ab.row, OwnO.kept h.op hg (OwnO.ne2 h.op h.oa evInt), OwnO.kept h.oq hg (OwnO.ne2 h.oq h.oa evInt), h.ab.push h.ob hat, h.pq, h.blk.grown hg (OwnO.ne h.oa h.blk rowEv)⟩
theorem Dm.setB {b' : Sl} (h : Dm w base nb a b p q) (hg : w.grownBy w' b.v.ownBlock) (ho : b'.own w' base 61 5) (hat : b'.v.ownBlock = b.v.ownBlock ∨ b'.v.ownBlock = some w.heap.size) : Dm w' base nb a b' p q :=
  ⟨OwnO.kept h.oa hg h.ab.symm.row, ho, OwnO.kept h.op hg (OwnO.ne2 h.op h.ob evInt), OwnO.kept h.oq hg (OwnO.ne2 h.oq h.ob evInt), (h.ab.symm.push h.oa hat).symm, h.pq, h.blk.grown hg (OwnO.ne h.ob h.blk rowEv)⟩
theorem own_far {s : Sl} {e : TypeId} {size : Nat} (h : s.own w base e size) (hB : Blk w nb 39 [p.v, q.v]) (he : 39 ≠ e) (o : Nat) (u : Value) : s.own (w.setCell ⟨nb, o, none⟩ u) base e size :=
  OwnO.set_ h (fun e' => OwnO.ne h hB he e'.symm) u
theorem Dm.setP {p' : Sl} (h : Dm w base nb a b p q) (hg : w.grownBy w' p.v.ownBlock) (ho : p'.own w' base 3 1) (hat : p'.v.ownBlock = p.v.ownBlock ∨ p'.v.ownBlock = some w.heap.size) : Dm (w'.setCell ⟨nb, 0, none⟩ p'.v) base nb a b p' q := by
  have hB := h.blk.grown hg (OwnO.ne h.op h.blk rowInt)
  have ha : a.own w' base 61 5 := OwnO.kept h.oa hg (OwnO.ne2 h.oa h.op evInt.symm)
  have hb : b.own w' base 61 5 := OwnO.kept h.ob hg (OwnO.ne2 h.ob h.op evInt.symm)
  have hq : q.own w' base 3 1 := OwnO.kept h.oq hg h.pq.row
  exact ⟨own_far ha hB rowEv _ _, own_far hb hB rowEv _ _, own_far ho hB rowInt _ _, own_far hq hB rowInt _ _, h.ab, h.pq.push h.oq hat, hB.set_ 0 _⟩
theorem Dm.setQ {q' : Sl} (h : Dm w base nb a b p q) (hg : w.grownBy w' q.v.ownBlock) (ho : q'.own w' base 3 1) (hat : q'.v.ownBlock = q.v.ownBlock ∨ q'.v.ownBlock = some w.heap.size) : Dm (w'.setCell ⟨nb, 1, none⟩ q'.v) base nb a b p q' := by
  have hB := h.blk.grown hg (OwnO.ne h.oq h.blk rowInt)
  have ha : a.own w' base 61 5 := OwnO.kept h.oa hg (OwnO.ne2 h.oa h.oq evInt.symm)
  have hb : b.own w' base 61 5 := OwnO.kept h.ob hg (OwnO.ne2 h.ob h.oq evInt.symm)
  have hp : p.own w' base 3 1 := OwnO.kept h.op hg h.pq.symm.row
  exact ⟨own_far ha hB rowEv _ _, own_far hb hB rowEv _ _, own_far hp hB rowInt _ _, own_far ho hB rowInt _ _, h.ab, (h.pq.symm.push h.op hat).symm, hB.set_ 1 _⟩
end
theorem own_blk {w : World} {base g n size : Nat} {e : TypeId} {cs : List Value} (h : Blk w g e cs) (hb : base ≤ g) (hl : cs.length = n * size) (hn : n ≤ maxLen) : OwnO w base e size (.slice (some ⟨g, 0, none⟩) n n) n cs :=
  ⟨hl, .inr ⟨g, 0, n, cs.toArray, rfl, hb, h, Nat.le_refl _, hn, by simp [hl], by simp [← hl]⟩⟩
theorem blk_row {w : World} {g t : Nat} {cs : List Value} (h : Blk w g t cs) : Row w (some ⟨g, 0, none⟩) cs := .inr ⟨g, 0, rfl, h.lt, fun j u hj => by rw [Nat.zero_add, h.cell]; exact hj⟩
/-- more elements, which lie in a block of their own -/
theorem wpList_append_m {P : Program} (w : World) {ops : Array Oper} {rest : List Oper} {o : Oper} {a : Act} {Q : Exit → Act → World → Prop} (hgd : o.guard = none) (s x : Operand) (t : TypeId)
    (ho : o.op = .call { callee := .builtin .append, args := #[s, x], argTypes := #[t, t] })
    (base : Nat) (e : TypeId) (i : TypeInfo) (z : Value) (size bytes : Nat) (ht : P.underlying t = some (.slice e)) (hi : P.info? e = some i) (hz : i.zero = some z)
    (hsize : i.size = size) (hby : i.bytes = bytes) (hzs : z.cells.size = size)
    (v : Value) (n : Nat) (xs : List Value) (hs : a.eval s = v) (hown : OwnO w base e size v n xs)
    (m c0 nb : Nat) (news : List Value) (hx : a.eval x = .slice (some ⟨nb, 0, none⟩) m c0) (hl : news.length = m * size) (hnews : ∀ j u, news[j]? = some u → w.cell? ⟨nb, j, none⟩ = some u) (h1 : ∀ u ∈ news, u.oneCell' = true)
    (h63 : n + m ≤ 1000000000) (hb100 : bytes ≤ 1000) (hbase : base ≤ w.heap.size)
    (h : ∀ A c w', OwnO w' base e size (.slice A (n + m) c) (n + m) (xs ++ news) → w.grownBy w' v.ownBlock → ((Value.slice A (n + m) c).ownBlock = v.ownBlock ∨ (Value.slice A (n + m) c).ownBlock = some w.heap.size) → (∀ a0, Ex a0 w → a0.heap.size ≤ base → Ex a0 w') → wpList P ops Q rest (a.put o.dst (.slice A (n + m) c)) w') : wpList P ops Q (o :: rest) a w := by
  refine wpList_append_ownO w hgd s x t ho base e i z size bytes ht hi hz hsize hby hzs v n xs hs hown ⟨nb, 0, none⟩ m c0 news hx hl (fun j u hj => ?_) h1 (by unfold maxLen; omega) ?_ hbase fun v' w' h2 h3 h4 => ?_
  · have hadd : (⟨nb, 0, none⟩ : Addr).add j = ⟨nb, j, none⟩ := by
      unfold Addr.add; split
      · rename_i h0; rw [h0]
      · simp
    rw [hadd]
    exact hnews j u hj
  · have := Nat.mul_le_mul (show n + m ≤ 1000000000 by omega) hb100
    omega
  · obtain ⟨A, c, rfl, -, -⟩ := h2.len
    exact h A c w' h2 h3 h4 fun a0 hx0 hb0 => hx0.grown h3 fun k hk => Nat.le_trans hb0 (hown.lt k hk).1
/-- two rows of states, and a block that held two values -/
structure Dn (w : World) (base nb : Nat) (p q : Sl) (cs : List Value) : Prop where
  op : p.own w base 3 1
  oq : q.own w base 3 1
  pq : Apart p q
  blk : Blk w nb 39 cs
section
variable {w w' : World} {base nb : Nat} {p q : Sl} {cs : List Value}
theorem Dm.dn {a b : Sl} (h : Dm w base nb a b p q) : Dn w base nb p q [p.v, q.v] := ⟨h.op, h.oq, h.pq, h.blk⟩
theorem Dn.ex (h : Dn w base nb p q cs) (hx : Ex w w') : Dn w' base nb p q cs := ⟨OwnO.ex h.op hx, OwnO.ex h.oq hx, h.pq, h.blk.ex hx⟩
theorem Dn.setP {p' : Sl} (h : Dn w base nb p q cs) (hg : w.grownBy w' p.v.ownBlock) (ho : p'.own w' base 3 1) (hat : p'.v.ownBlock = p.v.ownBlock ∨ p'.v.ownBlock = some w.heap.size) : Dn w' base nb p' q cs :=
  ⟨ho, OwnO.kept h.oq hg h.pq.row, h.pq.push h.oq hat, h.blk.grown hg (OwnO.ne h.op h.blk rowInt)⟩
theorem Dn.setQ {q' : Sl} (h : Dn w base nb p q cs) (hg : w.grownBy w' q.v.ownBlock) (ho : q'.own w' base 3 1) (hat : q'.v.ownBlock = q.v.ownBlock ∨ q'.v.ownBlock = some w.heap.size) : Dn w' base nb p q' cs :=
  ⟨OwnO.kept h.op hg h.pq.symm.row, ho, (h.pq.symm.push h.op hat).symm, h.blk.grown hg (OwnO.ne h.oq h.blk rowInt)⟩
theorem own_far2 {s : Sl} {e : TypeId} {size : Nat} (h : s.own w base e size) (hB : Blk w nb 39 cs) (he : 39 ≠ e) (o : Nat) (u : Value) : s.own (w.setCell ⟨nb, o, none⟩ u) base e size :=
  OwnO.set_ h (fun e' => OwnO.ne h hB he e'.symm) u
theorem Dn.done {x y : Value} (h : Dn w base nb p q [x, y]) : Dm ((w.setCell ⟨nb, 0, none⟩ p.v).setCell ⟨nb, 1, none⟩ q.v) base nb ⟨.slice none 0 0, 0, []⟩ ⟨.slice none 0 0, 0, []⟩ p q := by
  have hB := h.blk.set_ 0 p.v
  exact ⟨OwnO.nil _ _ _ _, OwnO.nil _ _ _ _, own_far2 (own_far2 h.op h.blk rowInt 0 _) hB rowInt 1 _, own_far2 (own_far2 h.oq h.blk rowInt 0 _) hB rowInt 1 _, fun g h1 => by simp [Value.ownBlock] at h1, h.pq, hB.set_ 1 q.v⟩
theorem Blk.new' (X : World) {g : Nat} (hg : g = X.heap.size) (t : Nat) (cs : List Value) : Blk (X.alloc (.cells cs.toArray t)) g t cs := by rw [hg]; exact Blk.new X t cs
/-- a row laid behind a row of the call's own is not touched by an append to that -/
theorem Blk.past {g : Nat} {t : TypeId} {xs : List Value} {v : Value} {w0 : World} (h : Blk w g t xs) (hg : w.grownBy w' v.ownBlock) (hl : ∀ k, v.ownBlock = some k → k < w0.heap.size) (hge : w0.heap.size ≤ g) : Blk w' g t xs :=
  h.grown hg fun e => by have := hl g e.symm; omega
end
/-- two rows of one state each, made anew -/
theorem dom_new (w : World) : Dm (((w.alloc (.cells #[.int .i64 0] 3)).alloc (.cells #[.int .i64 0] 3)).alloc (.cells #[.slice (some ⟨w.heap.size, 0, none⟩) 1 1, .slice (some ⟨w.heap.size + 1, 0, none⟩) 1 1] 39)) w.heap.size (w.heap.size + 1 + 1)
      ⟨.slice none 0 0, 0, []⟩ ⟨.slice none 0 0, 0, []⟩ ⟨.slice (some ⟨w.heap.size, 0, none⟩) 1 1, 1, [.int .i64 0]⟩ ⟨.slice (some ⟨w.heap.size + 1, 0, none⟩) 1 1, 1, [.int .i64 0]⟩ := by
  have b1 : Blk (((w.alloc (.cells #[.int .i64 0] 3)).alloc (.cells #[.int .i64 0] 3)).alloc (.cells #[.slice (some ⟨w.heap.size, 0, none⟩) 1 1, .slice (some ⟨w.heap.size + 1, 0, none⟩) 1 1] 39)) w.heap.size 3 [.int .i64 0] := ((Blk.new w 3 [.int .i64 0]).alloc _).alloc _
  have e1 : (w.alloc (.cells #[.int .i64 0] 3)).heap.size = w.heap.size + 1 := by simp
  have b2 := (Blk.new (w.alloc (.cells #[.int .i64 0] 3)) 3 [.int .i64 0]).alloc (.cells #[.slice (some ⟨w.heap.size, 0, none⟩) 1 1, .slice (some ⟨w.heap.size + 1, 0, none⟩) 1 1] 39)
  rw [e1] at b2
  have b3 := Blk.new ((w.alloc (.cells #[.int .i64 0] 3)).alloc (.cells #[.int .i64 0] 3)) 39 [.slice (some ⟨w.heap.size, 0, none⟩) 1 1, .slice (some ⟨w.heap.size + 1, 0, none⟩) 1 1]
  have e2 : ((w.alloc (.cells #[.int .i64 0] 3)).alloc (.cells #[.int .i64 0] 3)).heap.size = w.heap.size + 1 + 1 := by simp
  rw [e2] at b3
  exact ⟨OwnO.nil _ _ _ _, OwnO.nil _ _ _ _, own_blk b1 (Nat.le_refl _) rfl (by unfold maxLen; omega), own_blk b2 (by omega) rfl (by unfold maxLen; omega), fun g h => by simp [Value.ownBlock] at h, fun g h1 h2 => by simp [Value.ownBlock] at h1 h2; omega, b3⟩
/-- the events of a process as cells -/
def evV0 (e : Ev) : List Value := evCs e none 0
def devs (p m : Nat) : List Value := (dEs p m).flatMap evV0
theorem devs_len (p m : Nat) : (devs p m).length = m * 5 := by
  unfold devs
  have : ∀ l : List Ev, (l.flatMap evV0).length = l.length * 5 := fun l => by
    induction l with
    | nil => rfl
    | cons e l ih => rw [List.flatMap_cons, List.length_append, ih, List.length_cons, Nat.succ_mul]; show 5 + _ = _; omega
  rw [this, dEs_len]
theorem devs_two (p m : Nat) : devs p (m + 2) = devs p m ++ (evV0 (dEv p m) ++ evV0 (dEv p (m + 1))) := by
  unfold devs dEs
  rw [List.range_succ, List.range_succ, List.map_append, List.map_append, List.flatMap_append, List.flatMap_append, List.append_assoc]
  simp
def lit0 (k : Nat) : List Value := [.int .i64 2, .int .i64 1, .int .i64 (2 * (k : Int)), .int .i64 0, .slice none 0 0, .int .i64 3, .int .i64 1, .int .i64 (2 * (k : Int) + 1), .int .i64 0, .slice none 0 0]
def lit1 (k : Nat) : List Value := [.int .i64 3, .int .i64 0, .int .i64 (2 * (k : Int)), .int .i64 0, .slice none 0 0, .int .i64 2, .int .i64 0, .int .i64 (2 * (k : Int) + 1), .int .i64 0, .slice none 0 0]
theorem devs_lit0 (k : Nat) : devs 0 (2 * k) ++ lit0 k = devs 0 (2 * (k + 1)) := by
  rw [show 2 * (k + 1) = 2 * k + 2 by omega, devs_two]
  unfold evV0 evCs dEv lit0
  dsimp only
  rw [if_pos (by omega), if_neg (by omega)]
  rfl
theorem devs_lit1 (k : Nat) : devs 1 (2 * k) ++ lit1 k = devs 1 (2 * (k + 1)) := by
  rw [show 2 * (k + 1) = 2 * k + 2 by omega, devs_two]
  unfold evV0 evCs dEv lit1
  dsimp only
  rw [if_neg (by omega), if_pos (by omega)]
  rfl
theorem bef_lit (k : Nat) : intsV (bef k) ++ [.int .i64 (2 * (k : Int) + 2)] = intsV (bef (k + 1)) := by
  rw [bef_snoc]
  unfold intsV
  rw [List.map_append]
  congr 1
theorem ods_lit (k : Nat) : intsV (ods k) ++ [.int .i64 (2 * (k : Int) + 1)] = intsV (ods (k + 1)) := by
  rw [ods_snoc]
  unfold intsV
  rw [List.map_append]
  rfl
theorem dom_evs {w : World} {base p m : Nat} {v : Value} (h : OwnO w base 61 5 v m (devs p m)) : ∃ A c, v = .slice A m c ∧ m ≤ c ∧ EvsC w A (dEs p m) := by
  obtain ⟨A, c, rfl, hc, -⟩ := h.len
  refine ⟨A, c, rfl, hc, fun i e hi => ?_⟩
  obtain ⟨h1, rfl⟩ := dEs_get.1 hi
  obtain ⟨g, o, cap, he, -, -, -, hg, hcs⟩ := h.open_ (by omega)
  cases he
  have hx := fun j (hj : j < 5) => flat_get evV0 5 (fun _ => rfl) (dEs p m) i (dEv p i) hi j hj
  refine ⟨g, o, rfl, hg, none, 0, ?_, ?_, ?_, ?_, ?_, .inl rfl, Nat.le_refl _⟩
  · exact hcs _ _ (hx 0 (by decide))
  · rw [Nat.add_assoc]; exact hcs _ _ (hx 1 (by decide))
  · rw [Nat.add_assoc]; exact hcs _ _ (hx 2 (by decide))
  · rw [Nat.add_assoc]; exact hcs _ _ (hx 3 (by decide))
  · rw [Nat.add_assoc]; exact hcs _ _ (hx 4 (by decide))
/-- the trace in memory -/
theorem dom_tc {w : World} {n pb : Nat} {A B : Option Addr} {c d : Nat} (hA : EvsC w A (dEs 0 (2 * n))) (hB : EvsC w B (dEs 1 (2 * n))) (hc : 2 * n ≤ c) (hd : 2 * n ≤ d)
    (hP : Blk w pb 64 [.string ⟨#[97]⟩, .slice none 0 0, .slice A (2 * n) c, .string ⟨#[98]⟩, .slice none 0 0, .slice B (2 * n) d]) : TcC w (some ⟨pb, 0, none⟩) (domT n) := fun p x hx => by
  match p, hx with
  | 0, hx =>
    cases hx
    refine ⟨pb, 0, rfl, hP.lt, none, 0, A, c, hP.cell 0, hP.cell 1, ?_, ⟨.inl rfl, Nat.le_refl _, ?_⟩, hA⟩
    · rw [dEs_len]; exact hP.cell 2
    · rw [dEs_len]; exact hc
  | 1, hx =>
    cases hx
    refine ⟨pb, 0, rfl, hP.lt, none, 0, B, d, hP.cell 3, hP.cell 4, ?_, ⟨.inl rfl, Nat.le_refl _, ?_⟩, hB⟩
    · rw [dEs_len]; exact hP.cell 5
    · rw [dEs_len]; exact hd
  | p + 2, hx => simp [domT] at hx
theorem two_lists {w : World} {base nb : Nat} {p q : Value} {r s : List Int} {n m : Nat} (hn : r.length = n) (hm : s.length = m) (hp : OwnO w base 3 1 p n (intsV r)) (hq : OwnO w base 3 1 q m (intsV s)) (hB : Blk w nb 39 [p, q]) : LlC w (some ⟨nb, 0, none⟩) [r, s] := fun i x hx => by
  subst hn hm
  obtain ⟨A, c, rfl, hc, -⟩ := hp.len
  obtain ⟨B, d, rfl, hd, -⟩ := hq.len
  rcases two_get hx with ⟨rfl, rfl⟩ | ⟨rfl, rfl⟩
  · exact ⟨nb, 0, rfl, hB.lt, A, c, hB.cell 0, hc, hp.row⟩
  · exact ⟨nb, 0, rfl, hB.lt, B, d, hB.cell 1, hd, hq.row⟩
section
variable (n : Nat) (hn : 1 ≤ n) (hn20 : n ≤ 20) (A : Option Addr) (c : Nat) (hc : 2 ≤ c) (B : Option Addr) (lc : Nat) (w : World) (hT : TcC w A (domT n))
include hn hn20 hc hT
theorem domLine1_c (hL : LlC w B [bef n, bef n]) : Calls Try.prog 20 #[.agg #[.slice A 2 c], .slice B 2 lc] w (fun e w' => ∃ A1 k1, e = .returned (.tuple #[.slice A1 2 k1, .int .i64 0]) ∧ Row w' A1 (intsV [2 * (n : Int) - 2, 2 * (n : Int) - 2]) ∧ Ex w w') := by
  refine (lineG_c (domT n) A c [bef n, bef n] B lc w hT (dom_small hn20) hc hL (dom_lsm hn20).1 (cp_true (dom_valid hn20) (dom_cp1 n)) (by show (2 : Nat) ≤ 1000; omega)).mono ?_
  rintro e w' ⟨A1, k1, c1, rfl, h1, -, h2, h3⟩
  have := top_eq h1 (dom_bef_top hn)
  subst this
  exact ⟨A1, k1, rfl, h2, h3⟩
theorem domLine2_c (hL : LlC w B [bef n, odl n]) : Calls Try.prog 20 #[.agg #[.slice A 2 c], .slice B 2 lc] w (fun e w' => ∃ A1 k1, e = .returned (.tuple #[.slice A1 2 k1, .int .i64 0]) ∧ Row w' A1 (intsV [0, 0]) ∧ Ex w w') := by
  refine (lineG_c (domT n) A c [bef n, odl n] B lc w hT (dom_small hn20) hc hL (dom_lsm hn20).2 (cp_true (dom_valid hn20) (dom_cp2 hn)) (by show (2 : Nat) ≤ 1000; omega)).mono ?_
  rintro e w' ⟨A1, k1, c1, rfl, h1, -, h2, h3⟩
  have := top_eq h1 (dom_odd_top hn)
  subst this
  exact ⟨A1, k1, rfl, h2, h3⟩
theorem domRoll1_c (hL : LlC w B [bef n, bef n]) : Calls Try.prog 33 #[.agg #[.slice A 2 c], .slice B 2 lc] w (Ret w (.tuple #[.int .i64 4, .int .i64 0, .int .i64 0])) := by
  have h := rollG_c (domT n) A c [bef n, bef n] B lc _ w hT (dom_small hn20) hc hL (dom_lsm hn20).1 (cp_true (dom_valid hn20) (dom_cp1 n)) (by show (2 : Nat) ≤ 1000; omega) (dom_bef_top hn)
  have e1 : rbE (domT n) [2 * (n : Int) - 2, 2 * (n : Int) - 2] [bef n, bef n].length = 4 := by
    show rbE (domT n) _ 2 = 4
    rw [dom_rbE]; omega
  have e2 : rbK [bef n, bef n] [2 * (n : Int) - 2, 2 * (n : Int) - 2] [bef n, bef n].length = 0 := dom_k1 hn
  rw [e1, e2] at h
  exact h
theorem domRoll2_c (hL : LlC w B [bef n, odl n]) : Calls Try.prog 33 #[.agg #[.slice A 2 c], .slice B 2 lc] w (Ret w (.tuple #[.int .i64 (4 * (n : Int)), .int .i64 (2 * (n : Int) - 1), .int .i64 0])) := by
  have h := rollG_c (domT n) A c [bef n, odl n] B lc _ w hT (dom_small hn20) hc hL (dom_lsm hn20).2 (cp_true (dom_valid hn20) (dom_cp2 hn)) (by show (2 : Nat) ≤ 1000; omega) (dom_odd_top hn)
  have e1 : rbE (domT n) [0, 0] [bef n, odl n].length = 4 * (n : Int) := by
    show rbE (domT n) _ 2 = _
    rw [dom_rbE]; omega
  have e2 : rbK [bef n, odl n] [0, 0] [bef n, odl n].length = 2 * n - 1 := dom_k2 hn
  rw [e1, e2] at h
  rw [show ((2 * n - 1 : Nat) : Int) = 2 * (n : Int) - 1 by omega] at h
  exact h
end
theorem domValid_c (n : Nat) (hn20 : n ≤ 20) (A : Option Addr) (c : Nat) (w : World) (hT : TcC w A (domT n)) : Calls Try.prog 34 #[.agg #[.slice A 2 c]] w (Ret w (.bool true)) := by
  have h := rValid_c (domT n) A c w hT (dom_small hn20)
  rw [dom_valid hn20] at h
  exact h
theorem bef_pred {n : Nat} (hn : 1 ≤ n) : bef n = bef (n - 1) ++ [2 * (n : Int)] := by
  have := bef_snoc (n - 1)
  rw [show n - 1 + 1 = n by omega] at this
  exact this
end Go.Proofs.Ytdenojfbdkdpiaa
