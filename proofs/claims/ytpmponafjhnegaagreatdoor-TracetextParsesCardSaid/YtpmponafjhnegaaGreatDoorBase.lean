/-
  Worlds that extend a world: small laws on memory that every walk of this seat uses.
  Conditions: none. Plain lemmas on the model's worlds, no program in sight.
-/
import Derived.Test.YtpmponafjhnegaaGreatDoorRows
import Derived.WalkKit
import Derived.WalkSpells
import Derived.WalkLawsBesides
import Derived.Lib.Hide
import Derived.Deep.QuietTactic
import Derived.BigQuiet
import Derived.StillTailTactics
namespace Go.Proofs.YtpmponafjhnegaaGreatDoor
open Go.RowKit

/-- A world that keeps all blocks of W. -/
structure Up (W : World) where
  w : World
  h : Below W.heap.size W w
instance upNonempty (W : World) : Nonempty (Up W) := ⟨⟨W, Below.refl _ _⟩⟩
def ext (W : World) (z : Up W) : World := z.w
/-- w' keeps all that w holds. -/
def Ex (w w' : World) : Prop := ∃ z : Up w, w' = ext w z
theorem ext_below (W : World) (z : Up W) : Below W.heap.size W (ext W z) := z.h
theorem Ex.of {w w' : World} (h : Below w.heap.size w w') : Ex w w' := ⟨⟨w', h⟩, rfl⟩
theorem Ex.below {w w' : World} (h : Ex w w') : Below w.heap.size w w' := by obtain ⟨z, rfl⟩ := h; exact ext_below _ _
theorem Ex.refl (w : World) : Ex w w := Ex.of (Below.refl _ _)
theorem Ex.trans {a b c : World} (h : Ex a b) (k : Ex b c) : Ex a c := Ex.of (h.below.trans (k.below.mono h.below.size))
theorem Ex.ext {a b : World} (h : Ex a b) (z : Up b) : Ex a (ext b z) := h.trans ⟨z, rfl⟩
theorem Ex.alloc {a b : World} (h : Ex a b) (o : Obj) : Ex a (b.alloc o) := Ex.of (h.below.alloc h.below.size o)
theorem Ex.drew {a b : World} (h : Ex a b) : Ex a b.drew := Ex.of h.below.drew
theorem Ex.drewN {a b : World} (h : Ex a b) (n : Nat) : Ex a (b.drewN n) := Ex.of ⟨h.below.os, h.below.tape, h.below.output, h.below.size, h.below.block⟩
theorem Ex.setCell {a b : World} (h : Ex a b) {p : Addr} (hp : a.heap.size ≤ p.block) (u : Value) : Ex a (b.setCell p u) := Ex.of (h.below.setCell hp u)
theorem Ex.grown {a b c : World} {row : Option Nat} (h : Ex a b) (hg : b.grownBy c row) (hr : ∀ k, row = some k → a.heap.size ≤ k) : Ex a c :=
  Ex.of (h.below.grown hg h.below.size hr)
theorem ext_cell (W : World) (z : Up W) (a : Addr) (h : a.block < W.heap.size) : (ext W z).cell? a = W.cell? a := z.h.cell h
theorem ext_frozen (W : World) (z : Up W) (a : Addr) (h : a.block < W.heap.size) : (ext W z).frozen? a = W.frozen? a := z.h.frozen h
theorem ext_lt (W : World) (z : Up W) (b : Nat) (h : b < W.heap.size) : (b < (ext W z).heap.size) = True := eq_true (Nat.lt_of_lt_of_le h z.h.size)
theorem ext_heap (W : World) (z : Up W) (b : Nat) (h : b < W.heap.size) : (ext W z).heap[b]? = W.heap[b]? := z.h.block b h
theorem ext_lt1 (W : World) (z : Up W) (b : Nat) (h : b < W.heap.size) : (b < (ext W z).heap.size + 1) = True := eq_true (by have := z.h.size; unfold ext; omega)
theorem lt_one (x : Nat) : (x < x + 1) = True := eq_true (by omega)
theorem lt_two (x : Nat) : (x < x + 1 + 1) = True := eq_true (by omega)
theorem lt_three (x : Nat) : (x < x + 1 + 1 + 1) = True := eq_true (by omega)
theorem lt_four (x : Nat) : (x < x + 1 + 1 + 1 + 1) = True := eq_true (by omega)
attribute [go_sem] ext_cell ext_frozen ext_lt ext_lt1 ext_heap lt_one lt_two lt_three lt_four
theorem lt_ext {W : World} (z : Up W) {b : Nat} (h : b < W.heap.size) : b < (ext W z).heap.size := Nat.lt_of_lt_of_le h z.h.size
theorem ext_ext (W : World) (z : Up W) (y : Up (ext W z)) : Ex W (ext (ext W z) y) := Ex.trans ⟨z, rfl⟩ ⟨y, rfl⟩

/-- What a function that hands back v and keeps all memory leaves. -/
def Ret (w : World) (v : Value) (e : Ending) (w' : World) : Prop := e = .returned v ∧ Ex w w'
theorem Ret.mk {w w' : World} {u v : Value} (h : u = v) (hx : Ex w w') : Ret w v (.returned u) w' := ⟨by rw [h], hx⟩
theorem ret_eq {u v : Value} (h : u = v) : Ending.returned u = .returned v := by rw [h]

/-- A callee's contract, seen from an older world. -/
theorem Calls.up {P : Program} {f : FuncId} {args : Array Value} {W X : World} {v : Value} (hX : Ex W X) (h : Calls P f args X (Ret X v)) : Calls P f args X (Ret W v) :=
  h.mono fun _ _ ⟨he, hy⟩ => ⟨he, hX.trans hy⟩

/-- The cells at an address that may be missing hold xs. -/
def Cells (w : World) (A : Option Addr) (xs : List Value) : Prop :=
  ∀ j u, xs[j]? = some u → ∃ ad, A = some ad ∧ (ad.add j).block < w.heap.size ∧ w.cell? (ad.add j) = some u
theorem Cells.nil (w : World) (A : Option Addr) : Cells w A [] := fun j u h => by simp at h
theorem Cells.ex {w w' : World} {A : Option Addr} {xs : List Value} (h : Cells w A xs) (hx : Ex w w') : Cells w' A xs := fun j u hj => by
  obtain ⟨ad, e, hb, hc⟩ := h j u hj
  exact ⟨ad, e, Nat.lt_of_lt_of_le hb hx.below.size, (hx.below.cell hb).trans hc⟩
theorem Cells.take {w : World} {A : Option Addr} {xs : List Value} (h : Cells w A xs) (k : Nat) : Cells w A (xs.take k) := fun j u hj => by
  rw [List.getElem?_take] at hj
  split at hj
  · exact h j u hj
  · cases hj

/-- Block g is the row cs of element type t, none of it frozen. -/
def Blk (w : World) (g t : Nat) (cs : List Value) : Prop := w.heap[g]? = some (.cells cs.toArray t (0, 0))
theorem Blk.lt {w : World} {g t : Nat} {cs : List Value} (h : Blk w g t cs) : g < w.heap.size := by
  rcases Nat.lt_or_ge g w.heap.size with hlt | hge
  · exact hlt
  · unfold Blk at h; rw [Array.getElem?_eq_none hge] at h; cases h
theorem Blk.cell {w : World} {g t : Nat} {cs : List Value} (h : Blk w g t cs) (i : Nat) : w.cell? ⟨g, i, none⟩ = cs[i]? := by
  rw [cell_of_row w g i cs.toArray t (0, 0) h]; simp
theorem Blk.frozen {w : World} {g t : Nat} {cs : List Value} (h : Blk w g t cs) (i : Nat) : w.frozen? ⟨g, i, none⟩ = false := by
  unfold Blk at h
  simp [World.frozen?, h]
theorem Blk.new (w : World) (t : Nat) (cs : List Value) : Blk (w.alloc (.cells cs.toArray t)) w.heap.size t cs := heap_alloc_new w _
theorem Blk.ex {w w' : World} {g t : Nat} {cs : List Value} (h : Blk w g t cs) (hx : Ex w w') : Blk w' g t cs := (hx.below.block g h.lt).trans h
theorem Blk.alloc {w : World} {g t : Nat} {cs : List Value} (h : Blk w g t cs) (o : Obj) : Blk (w.alloc o) g t cs := h.ex ((Ex.refl _).alloc o)
theorem Blk.drew {w : World} {g t : Nat} {cs : List Value} (h : Blk w g t cs) : Blk w.drew g t cs := h
theorem Blk.set_ {w : World} {g t : Nat} {cs : List Value} (h : Blk w g t cs) (i : Nat) (u : Value) : Blk (w.setCell ⟨g, i, none⟩ u) g t (cs.set i u) := by
  unfold Blk at h ⊢
  simp [World.setCell, Array.getElem?_modify, h]
theorem Blk.far {w : World} {g t : Nat} {cs : List Value} (h : Blk w g t cs) {p : Addr} (hp : g ≠ p.block) (u : Value) : Blk (w.setCell p u) g t cs := (Below.heap_setCell w p u g hp).trans h
theorem Blk.ne {w : World} {g t g' t' : Nat} {cs cs' : List Value} (h : Blk w g t cs) (h' : Blk w g' t' cs') (hne : t ≠ t') : g ≠ g' := by
  rintro rfl
  unfold Blk at h h'
  rw [h] at h'
  injection h' with h'
  injection h' with _ ht
  exact hne ht
theorem Blk.cells {w : World} {g t : Nat} {cs : List Value} (h : Blk w g t cs) : Cells w (some ⟨g, 0, none⟩) cs := fun j u hj => by
  have e : (⟨g, 0, none⟩ : Addr).add j = ⟨g, j, none⟩ := by
    unfold Addr.add; split
    · rename_i h0; rw [h0]
    · simp
  exact ⟨_, rfl, by rw [e]; exact h.lt, by rw [e, h.cell]; exact hj⟩

/-- In a region that draws its order: a callee that keeps all memory. -/
theorem quiet_ext {P : Program} {f : FuncId} {args : Array Value} {W : World} {z : Up W} {v : Value} (h : Calls P f args (ext W z) (Ret (ext W z) v)) :
    Calls P f args (ext W z) fun e w'' => e = .returned v ∧ ∃ y : Up W, w'' = ext W y :=
  h.mono fun _ _ ⟨he, y, hy⟩ => ⟨he, by rw [hy]; exact ext_ext W z y⟩
theorem wp_region_ext {P : Program} {id : Nat} {Q : Exit → Act → World → Prop} {a : Act} {w : World} {l : List Oper} (hm : P.follows .mixedOrders = true) (hB : Region.lexB .any l.toArray = true)
    (h : wpQuiet P l.toArray (fun w' => ∃ z : Up w, w' = ext w z) (fun a' => ∀ w', (∃ z : Up w, w' = ext w z) → Q .normal a' w') l a) : (Code.region id l.toArray true).wp P Q a w :=
  wp_region_quiet (C := fun w' => ∃ z : Up w, w' = ext w z) hm hB (Ex.of (Below.drew (Below.refl _ _))) (by simpa using h)
/-- The same behind a call: the older world stays the base. -/
theorem wp_region_exu {P : Program} {id : Nat} {Q : Exit → Act → World → Prop} {a : Act} {W : World} {z : Up W} {l : List Oper} (hm : P.follows .mixedOrders = true) (hB : Region.lexB .any l.toArray = true)
    (h : wpQuiet P l.toArray (fun w' => ∃ y : Up W, w' = ext W y) (fun a' => ∀ w', (∃ y : Up W, w' = ext W y) → Q .normal a' w') l a) : (Code.region id l.toArray true).wp P Q a (ext W z) :=
  wp_region_quiet (C := fun w' => ∃ y : Up W, w' = ext W y) hm hB (Ex.of (ext_below W z).drew) (by simpa using h)
theorem wpQuiet_end {P : Program} {ops : Array Oper} {Q : Exit → Act → World → Prop} {a : Act} {w : World}
    (h : ∀ z : Up w, Q .normal a (ext w z)) : wpQuiet P ops (fun w' => ∃ z : Up w, w' = ext w z) (fun a' => ∀ w', (∃ z : Up w, w' = ext w z) → Q .normal a' w') [] a :=
  wpQuiet_nil (fun w' ⟨z, hz⟩ => by rw [hz]; exact h z)
/-- A region that draws its order, whose first n operations only read, and whose rest stands in one order. -/
theorem still_of_quiet {P : Program} {o : Oper} {a : Act} {w : World} {v : Value} {next : Act → Prop} (h : o.quietAt P a (fun w' => w' = w) w v) (hn : next (a.put o.dst v)) : o.still P a w next := by
  unfold Oper.quietAt at h
  unfold Oper.still
  generalize (execOp a.eval o).run P w = r at *
  cases r with
  | ok n w' =>
    cases n <;> simp only [Oper.quietUpon] at h <;> simp only [Oper.stillUpon]
    case value u =>
      obtain ⟨e1, e2⟩ := h
      exact ⟨e1, by rw [e2]; exact hn⟩
    case skip =>
      obtain ⟨e1, e2⟩ := h
      exact ⟨e1, by rw [← e2]; exact hn⟩
    case enter f args =>
      obtain ⟨e1, hc⟩ := h
      exact ⟨e1, v, hc, hn⟩
  | halt x w' => simp only [Oper.quietUpon] at h
theorem wpStill_of_quiet {P : Program} {ops : Array Oper} {w : World} {Q : Act → Prop} : ∀ (l : List Oper) (a : Act), wpQuiet P ops (fun w' => w' = w) Q l a → wpStill P ops w Q l a
  | [], _, h => h
  | o :: rest, a, h => by
    unfold wpQuiet at h
    unfold wpStill
    split
    · rename_i hw
      rw [if_pos hw] at h
      obtain ⟨v, h1, h2⟩ := h
      exact still_of_quiet (h1 w rfl) (wpStill_of_quiet rest _ h2)
    · rename_i hw
      rw [if_neg hw] at h
      exact wpStill_of_quiet rest _ h
theorem wp_region_tail {P : Program} {id : Nat} {Q : Exit → Act → World → Prop} {a : Act} {w : World} {l : List Oper} (n : Nat) (hm : P.follows .mixedOrders = true) (hB : Region.lexTailB .any l.toArray n = true)
    (h : wpQuiet P l.toArray (fun w' => w' = w.drew) (fun a' => wpList P l.toArray Q (l.drop n) a' w.drew) (l.take n) a) : (Code.region id l.toArray true).wp P Q a w :=
  wp_region_still_tail n hm hB (wpStill_of_quiet _ _ h)
theorem wpQuiet_on {P : Program} {ops : Array Oper} {C : World → Prop} {Q : Act → Prop} {a : Act} (h : Q a) : wpQuiet P ops C Q [] a := h
end Go.Proofs.YtpmponafjhnegaaGreatDoor
