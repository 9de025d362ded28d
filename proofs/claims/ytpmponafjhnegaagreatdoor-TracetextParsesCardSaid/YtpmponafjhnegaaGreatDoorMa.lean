/-
  Worlds that change in one block; what the library asks of the world; names and numbers of texts, walked.
  Conditions: as each theorem says; the world's tables are as laid (Env).
-/
import Derived.Test.YtpmponafjhnegaaGreatDoorLj
import Derived.Test.YtpmponafjhnegaaGreatDoorYb
import Derived.Test.YtpmponafjhnegaaGreatDoorShelf
import Derived.WalkSmall
import Derived.Lib.SmallJoins
import Derived.Lib.AppendIntMem
namespace Go.Proofs.YtpmponafjhnegaaGreatDoor
open Go.RowKit Nu
/-- w' holds all blocks of w but g as they were -/
structure Exg (g : Nat) (w w' : World) : Prop where
  os : w'.os = w.os
  tape : w'.tape = w.tape
  output : w'.output = w.output
  size : w.heap.size ≤ w'.heap.size
  block : ∀ k, k < w.heap.size → k ≠ g → w'.heap[k]? = w.heap[k]?
theorem Exg.of {g : Nat} {w w' : World} (h : Ex w w') : Exg g w w' :=
  ⟨h.below.os, h.below.tape, h.below.output, h.below.size, fun k hk _ => h.below.block k hk⟩
theorem Exg.refl (g : Nat) (w : World) : Exg g w w := Exg.of (Ex.refl w)
theorem Exg.trans {g : Nat} {a b c : World} (h : Exg g a b) (k : Exg g b c) : Exg g a c :=
  ⟨k.os.trans h.os, k.tape.trans h.tape, k.output.trans h.output, Nat.le_trans h.size k.size, fun i hi hg => (k.block i (Nat.lt_of_lt_of_le hi h.size) hg).trans (h.block i hi hg)⟩
theorem Exg.ex {g : Nat} {a b c : World} (h : Exg g a b) (k : Ex b c) : Exg g a c := h.trans (Exg.of k)
theorem Exg.alloc {g : Nat} {a b : World} (h : Exg g a b) (o : Obj) : Exg g a (b.alloc o) := h.ex ((Ex.refl b).alloc o)
theorem Exg.drew {g : Nat} {a b : World} (h : Exg g a b) : Exg g a b.drew := h.ex (Ex.refl b).drew
theorem Exg.own {g : Nat} (w : World) {p : Addr} (hp : p.block = g) (u : Value) : Exg g w (w.setCell p u) :=
  ⟨rfl, rfl, rfl, by simp [World.setCell], fun k _ hk => Below.heap_setCell _ _ _ _ (by rw [hp]; exact hk)⟩
theorem Exg.set_ {g : Nat} {a b : World} (h : Exg g a b) {p : Addr} (hp : p.block = g) (u : Value) : Exg g a (b.setCell p u) := h.trans (Exg.own b hp u)
theorem Exg.owno (g : Nat) (w : World) (o : Nat) (u : Value) : Exg g w (w.setCell ⟨g, o, none⟩ u) := Exg.own (g := g) w (p := ⟨g, o, none⟩) rfl u
theorem Exg.seto {g : Nat} {a b : World} (h : Exg g a b) (o : Nat) (u : Value) : Exg g a (b.setCell ⟨g, o, none⟩ u) := h.trans (Exg.owno g b o u)
theorem Exg.new_ {g : Nat} {a b : World} (h : Exg g a b) {p : Addr} (hp : a.heap.size ≤ p.block) (u : Value) : Exg g a (b.setCell p u) :=
  ⟨h.os, h.tape, h.output, Nat.le_trans h.size (by simp [World.setCell]), fun k hk hg => (Below.heap_setCell _ _ _ _ (by omega)).trans (h.block k hk hg)⟩
theorem Exg.blk {g : Nat} {w w' : World} (h : Exg g w w') {b t : Nat} {cs : List Value} (hB : Blk w b t cs) (hb : b ≠ g) : Blk w' b t cs := (h.block b hB.lt hb).trans hB
theorem Exg.cell {g : Nat} {w w' : World} (h : Exg g w w') {b o : Nat} (hb : b < w.heap.size) (hg : b ≠ g) : w'.cell? ⟨b, o, none⟩ = w.cell? ⟨b, o, none⟩ :=
  World.cell?_of_block (w := w) (h.block b hb hg)
/-- where g is a block of the call's own, all older memory is kept -/
theorem Exg.out {g : Nat} {a b c : World} (h : Ex a b) (k : Exg g b c) (hg : a.heap.size ≤ g) : Ex a c :=
  Ex.of ⟨k.os.trans h.below.os, k.tape.trans h.below.tape, k.output.trans h.below.output, Nat.le_trans h.below.size k.size, fun i hi => (k.block i (Nat.lt_of_lt_of_le hi h.below.size) (by omega)).trans (h.below.block i hi)⟩
/-- block b reads xs from o on -/
def Rw (w : World) (b o : Nat) (xs : List Value) : Prop := b < w.heap.size ∧ ∀ (j : Nat) u, xs[j]? = some u → w.cell? ⟨b, o + j, none⟩ = some u
theorem Rw.keep {w w' : World} {b o : Nat} {xs : List Value} (h : Rw w b o xs) (hs : w.heap.size ≤ w'.heap.size) (hb : w'.heap[b]? = w.heap[b]?) : Rw w' b o xs :=
  ⟨Nat.lt_of_lt_of_le h.1 hs, fun j u hj => (World.cell?_of_block (w := w) (a := ⟨b, o + j, none⟩) hb).trans (h.2 j u hj)⟩
theorem Rw.exg {g : Nat} {w w' : World} {b o : Nat} {xs : List Value} (h : Rw w b o xs) (hb : b ≠ g) (hx : Exg g w w') : Rw w' b o xs := h.keep hx.size (hx.block b h.1 hb)
theorem Rw.far {w : World} {b o : Nat} {xs : List Value} (h : Rw w b o xs) {p : Addr} (hb : b ≠ p.block) (u : Value) : Rw (w.setCell p u) b o xs :=
  h.keep (by simp [World.setCell]) (Below.heap_setCell _ _ _ _ hb)
theorem Blk.rw {w : World} {b t : Nat} {cs : List Value} (h : Blk w b t cs) : Rw w b 0 cs := ⟨h.lt, fun j u hj => by rw [Nat.zero_add, h.cell]; exact hj⟩
/-- what the library asks of the world -/
structure Env (w : World) : Prop where
  err : 5 < w.heap.size ∧ ∃ ev, w.cell? ⟨5, 0, none⟩ = some ev ∧ (ev = .nilIface ∨ ∃ te pe, ev = .iface te pe)
  pow : 3 < w.heap.size ∧ Lib.TabIs Tryz.prog w "internal/strconv.uint64pow10" .u64 Lib.pow10Tab
  max : 0 < w.heap.size ∧ ∃ m : Int, w.cell? ⟨0, 0, none⟩ = some (.int .i64 m)
theorem gPow : Tryz.prog.globalNamed "internal/strconv.uint64pow10" = some 3 := by kernel_rfl
theorem Env.ex {w w' : World} (h : Env w) (hx : Ex w w') : Env w' := by
  have hb := hx.below
  obtain ⟨a0, ev, a1, a2⟩ := h.err
  obtain ⟨m0, m, m1⟩ := h.max
  exact ⟨⟨Nat.lt_of_lt_of_le a0 hb.size, ev, (hb.cell (p := ⟨5, 0, none⟩) a0).trans a1, a2⟩, ⟨Nat.lt_of_lt_of_le h.pow.1 hb.size, var?_below hb gPow h.pow.1 h.pow.2⟩,
    ⟨Nat.lt_of_lt_of_le m0 hb.size, m, (hb.cell (p := ⟨0, 0, none⟩) m0).trans m1⟩⟩
theorem itoa_c (n : Int) (w : World) (hE : Env w) (h0 : -1125899906842624 ≤ n) (h1 : n ≤ 1125899906842624) : Calls Tryz.prog 44 #[.int .i64 n] w (Ret w (.string (bs (Lib.itoa n)))) := by
  refine (Tryz.strconv_Itoa n (by omega) (by omega) w hE.pow.2).mono ?_
  rintro e w' ⟨rfl, k, os, rfl⟩
  exact ⟨rfl, Ex.of (Lib.below_grow _ w (Nat.le_refl _) k os)⟩
theorem trimP_c (s : ByteArray) (w : World) : Calls Tryz.prog 83 #[.string s, .string ⟨#[45]⟩] w (Ret w (.string (bs (pdig s.data.toList)))) := by
  refine (Tryz.strings_TrimPrefix s ⟨#[45]⟩ w).mono ?_
  rintro e w' ⟨rfl, rfl⟩
  rw [← pdig_trim]
  exact ⟨rfl, Ex.refl _⟩
/-- the library's parse of a right form: the value and no error; or an error -/
def AtoiR (w : World) (l : List UInt8) (e : Ending) (w' : World) : Prop :=
  (e = .returned (.tuple #[.int .i64 (sgn l (valF 0 (pdig l))), .nilIface]) ∧ Ex w w') ∨ (1125899906842624 < valF 0 (pdig l) ∧ ∃ v N, e = .returned (.tuple #[.int .i64 v, .iface 192 (.pointer (some ⟨N, 0, none⟩))]) ∧ Ex w w')
theorem atoi_c (s : ByteArray) (w : World) (hE : Env w) (hs : s.size ≤ 20000) (h : formOk s.data.toList = true) : Calls Tryz.prog 84 #[.string s] w (AtoiR w s.data.toList) := by
  rcases atoi_form _ h with ⟨h1, h2⟩ | h1
  · obtain ⟨-, ev, hv, hev⟩ := hE.err
    refine (Tryz.strconv_Atoi_range s (by omega) h1 ev w hv hev).mono ?_
    rintro e w' ⟨N, rfl, -, -, hb⟩
    exact .inr ⟨h2, _, N, rfl, Ex.of hb⟩
  · refine (Tryz.strconv_Atoi_ok s (by omega) _ h1 w).mono ?_
    rintro e w' ⟨rfl, hw⟩
    refine .inl ⟨rfl, ?_⟩
    rcases hw with rfl | ⟨t, rfl⟩
    · exact Ex.refl _
    · exact Ex.of (Joins.below_bytesWorld _ w 5 t (Nat.le_refl _))
end Go.Proofs.YtpmponafjhnegaaGreatDoor
