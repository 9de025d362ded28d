/-
  The parser's memory: worlds that change in one block; trees in memory; the reader's state.
  Conditions: none.
-/
import Derived.Test.YthjalkonlcjhnaaGreatDoorQa
import Derived.Test.YthjalkonlcjhnaaGreatDoorPj
namespace Go.Proofs.YthjalkonlcjhnaaGreatDoor
open Go.RowKit
/-- w' holds all blocks of w but g as they were -/
structure Exg (g : Nat) (w w' : World) : Prop where
  os : w'.os = w.os
  tape : w'.tape = w.tape
  output : w'.output = w.output
  size : w.heap.size ≤ w'.heap.size
  block : ∀ k, k < w.heap.size → k ≠ g → w'.heap[k]? = w.heap[k]?
theorem Exg.of {g : Nat} {w w' : World} (h : Ex w w') : Exg g w w' :=
  ⟨h.below.os, h.below.tape, h.below.output, h.below.size, fun k hk _ => h.below.block k hk⟩
theorem Exg.refl (g : Nat) (w : World) : Exg g w w := Exg.of (Ex.refl w)
theorem Exg.trans {g : Nat} {a b c : World} (h : Exg g a b) (k : Exg g b c) : Exg g a c :=
  ⟨k.os.trans h.os, k.tape.trans h.tape, k.output.trans h.output, Nat.le_trans h.size k.size, fun i hi hg => (k.block i (Nat.lt_of_lt_of_le hi h.size) hg).trans (h.block i hi hg)⟩
theorem Exg.ex {g : Nat} {a b c : World} (h : Exg g a b) (k : Ex b c) : Exg g a c := h.trans (Exg.of k)
theorem Exg.alloc {g : Nat} {a b : World} (h : Exg g a b) (o : Obj) : Exg g a (b.alloc o) := h.ex ((Ex.refl b).alloc o)
theorem Exg.drew {g : Nat} {a b : World} (h : Exg g a b) : Exg g a b.drew := h.ex (Ex.refl b).drew
theorem Exg.own {g : Nat} (w : World) {p : Addr} (hp : p.block = g) (u : Value) : Exg g w (w.setCell p u) :=
  ⟨rfl, rfl, rfl, by simp [World.setCell], fun k _ hk => Below.heap_setCell _ _ _ _ (by rw [hp]; exact hk)⟩
theorem Exg.set_ {g : Nat} {a b : World} (h : Exg g a b) {p : Addr} (hp : p.block = g) (u : Value) : Exg g a (b.setCell p u) := h.trans (Exg.own b hp u)
theorem Exg.owno (g : Nat) (w : World) (o : Nat) (u : Value) : Exg g w (w.setCell ⟨g, o, none⟩ u) := Exg.own (g := g) w (p := ⟨g, o, none⟩) rfl u
theorem Exg.seto {g : Nat} {a b : World} (h : Exg g a b) (o : Nat) (u : Value) : Exg g a (b.setCell ⟨g, o, none⟩ u) := h.trans (Exg.owno g b o u)
theorem Exg.new_ {g : Nat} {a b : World} (h : Exg g a b) {p : Addr} (hp : a.heap.size ≤ p.block) (u : Value) : Exg g a (b.setCell p u) :=
  ⟨h.os, h.tape, h.output, Nat.le_trans h.size (by simp [World.setCell]), fun k hk hg => (Below.heap_setCell _ _ _ _ (by omega)).trans (h.block k hk hg)⟩
theorem Exg.blk {g : Nat} {w w' : World} (h : Exg g w w') {b t : Nat} {cs : List Value} (hB : Blk w b t cs) (hb : b ≠ g) : Blk w' b t cs := (h.block b hB.lt hb).trans hB
theorem Exg.cell {g : Nat} {w w' : World} (h : Exg g w w') {b o : Nat} (hb : b < w.heap.size) (hg : b ≠ g) : w'.cell? ⟨b, o, none⟩ = w.cell? ⟨b, o, none⟩ :=
  World.cell?_of_block (w := w) (h.block b hb hg)
/-- where g is a block of the call's own, all older memory is kept -/
theorem Exg.out {g : Nat} {a b c : World} (h : Ex a b) (k : Exg g b c) (hg : a.heap.size ≤ g) : Ex a c :=
  Ex.of ⟨k.os.trans h.below.os, k.tape.trans h.below.tape, k.output.trans h.below.output, Nat.le_trans h.below.size k.size, fun i hi => (k.block i (Nat.lt_of_lt_of_le hi h.below.size) (by omega)).trans (h.below.block i hi)⟩
/-- block b reads xs from o on -/
def Rw (w : World) (b o : Nat) (xs : List Value) : Prop := b < w.heap.size ∧ ∀ (j : Nat) u, xs[j]? = some u → w.cell? ⟨b, o + j, none⟩ = some u
theorem Rw.keep {w w' : World} {b o : Nat} {xs : List Value} (h : Rw w b o xs) (hs : w.heap.size ≤ w'.heap.size) (hb : w'.heap[b]? = w.heap[b]?) : Rw w' b o xs :=
  ⟨Nat.lt_of_lt_of_le h.1 hs, fun j u hj => (World.cell?_of_block (w := w) (a := ⟨b, o + j, none⟩) hb).trans (h.2 j u hj)⟩
theorem Rw.exg {g : Nat} {w w' : World} {b o : Nat} {xs : List Value} (h : Rw w b o xs) (hb : b ≠ g) (hx : Exg g w w') : Rw w' b o xs := h.keep hx.size (hx.block b h.1 hb)
theorem Rw.far {w : World} {b o : Nat} {xs : List Value} (h : Rw w b o xs) {p : Addr} (hb : b ≠ p.block) (u : Value) : Rw (w.setCell p u) b o xs :=
  h.keep (by simp [World.setCell]) (Below.heap_setCell _ _ _ _ hb)
/-- a tree in memory: its six cells, and its parts' cells behind them, in blocks of which Q holds -/
inductive TrC (Q : Nat → Prop) (w : World) : Tr → List Value → Prop where
  | leaf (k n p q : Int) (s : ByteArray) (A : Option Addr) (c : Nat) : TrC Q w (.node k n p q s []) [.int .i64 k, .int .i64 n, .int .i64 p, .int .i64 q, .string s, .slice A 0 c]
  | node (k n p q : Int) (s : ByteArray) (l : List Tr) (b o c : Nat) (css : List (List Value)) (hQ : Q b) (hl : css.length = l.length) (h6 : ∀ cs ∈ css, cs.length = 6) (hr : Rw w b o css.flatten)
      (hk : ∀ (i : Nat) (x : Tr) (cs : List Value), l[i]? = some x → css[i]? = some cs → TrC Q w x cs) : TrC Q w (.node k n p q s l) [.int .i64 k, .int .i64 n, .int .i64 p, .int .i64 q, .string s, .slice (some ⟨b, o, none⟩) l.length c]
theorem TrC.keep {Q Q' : Nat → Prop} {w w' : World} {t : Tr} {cs : List Value} (h : TrC Q w t cs) (hs : w.heap.size ≤ w'.heap.size) (hb : ∀ b, b < w.heap.size → Q b → w'.heap[b]? = w.heap[b]? ∧ Q' b) : TrC Q' w' t cs := by
  induction h with
  | leaf k n p q s A c => exact .leaf k n p q s A c
  | node k n p q s l b o c css hQ hl h6 hr hk ih => exact .node k n p q s l b o c css (hb b hr.1 hQ).2 hl h6 (hr.keep hs (hb b hr.1 hQ).1) ih
theorem TrC.imp {Q Q' : Nat → Prop} {w : World} {t : Tr} {cs : List Value} (h : TrC Q w t cs) (hb : ∀ b, b < w.heap.size → Q b → Q' b) : TrC Q' w t cs := h.keep (Nat.le_refl _) (fun b h1 h2 => ⟨rfl, hb b h1 h2⟩)
theorem TrC.exg {Q : Nat → Prop} {g : Nat} {w w' : World} {t : Tr} {cs : List Value} (h : TrC Q w t cs) (hg : ∀ b, Q b → b ≠ g) (hx : Exg g w w') : TrC Q w' t cs := h.keep hx.size (fun b h1 h2 => ⟨hx.block b h1 (hg b h2), h2⟩)
theorem TrC.far {Q : Nat → Prop} {w : World} {t : Tr} {cs : List Value} (h : TrC Q w t cs) {p : Addr} (hp : ∀ b, Q b → b ≠ p.block) (u : Value) : TrC Q (w.setCell p u) t cs := h.keep (by simp [World.setCell]) (fun b _ h2 => ⟨Below.heap_setCell _ _ _ _ (hp b h2), h2⟩)
theorem TrC.ex {Q : Nat → Prop} {w w' : World} {t : Tr} {cs : List Value} (h : TrC Q w t cs) (hx : Ex w w') : TrC Q w' t cs := h.keep hx.below.size (fun b h1 h2 => ⟨hx.below.block b h1, h2⟩)
theorem TrC.six {Q : Nat → Prop} {w : World} {t : Tr} {cs : List Value} (h : TrC Q w t cs) : ∃ (k n p q : Int) (s : ByteArray) (v : Value), cs = [.int .i64 k, .int .i64 n, .int .i64 p, .int .i64 q, .string s, v] := by
  cases h with
  | leaf k n p q s A c => exact ⟨k, n, p, q, s, _, rfl⟩
  | node k n p q s l b o c css hQ hl h6 hr hk => exact ⟨k, n, p, q, s, _, rfl⟩
theorem TrC.len {Q : Nat → Prop} {w : World} {t : Tr} {cs : List Value} (h : TrC Q w t cs) : cs.length = 6 := by
  obtain ⟨_, _, _, _, _, _, rfl⟩ := h.six; rfl
theorem Blk.rw {w : World} {b t : Nat} {cs : List Value} (h : Blk w b t cs) : Rw w b 0 cs := ⟨h.lt, fun j u hj => by rw [Nat.zero_add, h.cell]; exact hj⟩
/-- a node with one part, made of a new block -/
theorem TrC.one {Q : Nat → Prop} {w : World} {t : Tr} {cs : List Value} (h : TrC Q w t cs) {b c : Nat} {ty : TypeId} (k : Int) (hB : Blk w b ty cs) (hb : Q b) :
    TrC Q w (nd k [t]) [.int .i64 k, .int .i64 0, .int .i64 0, .int .i64 0, .string ⟨#[]⟩, .slice (some ⟨b, 0, none⟩) 1 c] := by
  refine .node k 0 0 0 ⟨#[]⟩ [t] b 0 c [cs] hb rfl (fun x hx => ?_) (by simpa using hB.rw) (fun i x y hx hy => ?_)
  · rw [List.mem_singleton.1 hx]; exact h.len
  · cases i with
    | zero => simp at hx hy; subst hx hy; exact h
    | succ i => simp at hx
theorem TrC.two {Q : Nat → Prop} {w : World} {t u : Tr} {cs ds : List Value} (h : TrC Q w t cs) (h' : TrC Q w u ds) {b c : Nat} {ty : TypeId} (k : Int) (hB : Blk w b ty (cs ++ ds)) (hb : Q b) :
    TrC Q w (nd k [t, u]) [.int .i64 k, .int .i64 0, .int .i64 0, .int .i64 0, .string ⟨#[]⟩, .slice (some ⟨b, 0, none⟩) 2 c] := by
  refine .node k 0 0 0 ⟨#[]⟩ [t, u] b 0 c [cs, ds] hb rfl (fun x hx => ?_) (by simpa using hB.rw) (fun i x y hx hy => ?_)
  · simp at hx; rcases hx with rfl | rfl; exact h.len; exact h'.len
  · match i with
    | 0 => simp at hx hy; subst hx hy; exact h
    | 1 => simp at hx hy; subst hx hy; exact h'
    | i + 2 => simp at hx
/-- the parser at block g has the words ws before it, which stand in block b, the error e, and the place p -/
def PSt (w : World) (g b : Nat) (ws : List Wd) (e : Nat) (p : Nat × Nat) : Prop :=
  ∃ o c, ws.length ≤ c ∧ b ≠ g ∧ Blk w g 63 [.slice (some ⟨b, o, none⟩) ws.length c, .int .i64 (p.1 : Nat), .int .i64 (p.2 : Nat), .int .i64 (e : Nat)] ∧ Rw w b o (wdsV ws)
theorem PSt.ex {w w' : World} {g b : Nat} {ws : List Wd} {e : Nat} {p : Nat × Nat} (h : PSt w g b ws e p) (hx : Ex w w') : PSt w' g b ws e p := by
  obtain ⟨o, c, hc, hbg, hB, hR⟩ := h
  exact ⟨o, c, hc, hbg, hB.ex hx, hR.exg hbg (Exg.of hx)⟩
theorem PSt.far {w : World} {g b : Nat} {ws : List Wd} {e : Nat} {q : Nat × Nat} (h : PSt w g b ws e q) {p : Addr} (hg : g ≠ p.block) (hb : b ≠ p.block) (u : Value) : PSt (w.setCell p u) g b ws e q := by
  obtain ⟨o, c, hc, hbg, hB, hR⟩ := h
  exact ⟨o, c, hc, hbg, hB.far hg u, hR.far hb u⟩
theorem wds_get : ∀ (l : List Wd) (k : Nat) (x : Wd), l[k]? = some x → ∀ j, j < 4 → (wdsV l)[k * 4 + j]? = (wdVs x)[j]?
  | [], k, x, h, j, _ => by simp at h
  | y :: l, 0, x, h, j, hj => by
    simp at h; subst h
    show (wdVs y ++ wdsV l)[0 * 4 + j]? = _
    rw [List.getElem?_append_left (by show 0 * 4 + j < 4; omega)]
    simp
  | y :: l, k + 1, x, h, j, hj => by
    show (wdVs y ++ wdsV l)[(k + 1) * 4 + j]? = _
    rw [List.getElem?_append_right (by show 4 ≤ _; omega)]
    have := wds_get l k x (by simpa using h) j hj
    rw [← this]
    congr 1
    show (k + 1) * 4 + j - 4 = _
    omega
theorem Rw.head {w : World} {b o : Nat} {x : Wd} {r : List Wd} (h : Rw w b o (wdsV (x :: r))) :
    w.cell? ⟨b, o, none⟩ = some (.int .i64 (x.kind : Nat)) ∧ w.cell? ⟨b, o + 1, none⟩ = some (.string ⟨x.text.toArray⟩) ∧ w.cell? ⟨b, o + 2, none⟩ = some (.int .i64 (x.pos.1 : Nat)) ∧ w.cell? ⟨b, o + 3, none⟩ = some (.int .i64 (x.pos.2 : Nat)) :=
  ⟨h.2 0 _ rfl, h.2 1 _ rfl, h.2 2 _ rfl, h.2 3 _ rfl⟩
theorem Rw.next {w : World} {b o : Nat} {x : Wd} {r : List Wd} (h : Rw w b o (wdsV (x :: r))) : Rw w b (o + 4) (wdsV r) :=
  ⟨h.1, fun j u hj => by
    have := h.2 (4 + j) u (by show (wdVs x ++ wdsV r)[4 + j]? = _; rw [List.getElem?_append_right (by show 4 ≤ _; omega)]; rw [← hj]; congr 1; show 4 + j - 4 = j; omega)
    rw [Nat.add_assoc]; exact this⟩
theorem results_pred {fn : Func} {p g : Nat} {a b c d e f : Value} {w : World} {tmps : Array Value} (h : fn.results = #[.cell p 24]) (hp : tmps.getD p undef = .pointer (some ⟨g, 0, none⟩)) (hB : Blk w g 24 [a, b, c, d, e, f]) :
    (results fn tmps).run Tryz.prog w = .ok (.agg #[a, b, c, d, e, f]) w := by
  have h0 : w.cell? ⟨g, 0, none⟩ = some a := hB.cell 0
  have h1 : w.cell? ⟨g, 1, none⟩ = some b := hB.cell 1
  have h2 : w.cell? ⟨g, 2, none⟩ = some c := hB.cell 2
  have h3 : w.cell? ⟨g, 3, none⟩ = some d := hB.cell 3
  have h4 : w.cell? ⟨g, 4, none⟩ = some e := hB.cell 4
  have h5 : w.cell? ⟨g, 5, none⟩ = some f := hB.cell 5
  rw [Array.getD_eq_getD_getElem?] at hp
  simp [results, h, hp, go_sem, h0, h1, h2, h3, h4, h5]
theorem results_word {fn : Func} {p g : Nat} {a b c d : Value} {w : World} {tmps : Array Value} (h : fn.results = #[.cell p 66]) (hp : tmps.getD p undef = .pointer (some ⟨g, 0, none⟩)) (hB : Blk w g 66 [a, b, c, d]) :
    (results fn tmps).run Tryz.prog w = .ok (.agg #[a, b, c, d]) w := by
  have h0 : w.cell? ⟨g, 0, none⟩ = some a := hB.cell 0
  have h1 : w.cell? ⟨g, 1, none⟩ = some b := hB.cell 1
  have h2 : w.cell? ⟨g, 2, none⟩ = some c := hB.cell 2
  have h3 : w.cell? ⟨g, 3, none⟩ = some d := hB.cell 3
  rw [Array.getD_eq_getD_getElem?] at hp
  simp [results, h, hp, go_sem, h0, h1, h2, h3]
end Go.Proofs.YthjalkonlcjhnaaGreatDoor
