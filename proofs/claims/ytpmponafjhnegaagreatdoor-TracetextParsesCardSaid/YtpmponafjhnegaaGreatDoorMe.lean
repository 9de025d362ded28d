/-
  The first variable with a name as a map of the model; what stands behind a sign.
  Conditions: as each theorem says; the world's tables are as laid (Env).
-/
import Derived.Test.YtpmponafjhnegaaGreatDoorMd
import Derived.Maps.OwnSet
import Derived.Maps.Views
import Derived.StringKeys
namespace Go.Proofs.YtpmponafjhnegaaGreatDoor
open Go.RowKit Nu
theorem Exg.grown {g : Nat} {w w' : World} (h : Exg g w w') : w.grownBy w' (some g) := ⟨h.os, h.tape, h.output, h.size, fun k hk hne => h.block k hk fun e => hne (by rw [e])⟩
theorem Exg.by_ {g : Nat} {a b c : World} (h : Exg g a b) {row : Option Nat} (hg : b.grownBy c row) (hr : ∀ k, row = some k → a.heap.size ≤ k ∨ k = g) : Exg g a c :=
  ⟨hg.os.trans h.os, hg.tape.trans h.tape, hg.output.trans h.output, Nat.le_trans h.size hg.size, fun i hi hne => (hg.block i (Nat.lt_of_lt_of_le hi h.size) fun e => by rcases hr i e.symm with h' | h' <;> omega).trans (h.block i hi hne)⟩
theorem strKeyed : Go.Maps.Keyed Tryz.prog 9 := Go.Maps.string_keyed Tryz.underlying9
theorem zeroInt (w : World) : (zeroValue 3).run Tryz.prog w = .ok (.int .i64 0) w := by kernel_rfl
/-- the first of the variables from k on that has a name -/
def fromK (vars : List (ByteArray × Int)) (k : Nat) (s : ByteArray) : Option Nat := (vIdx s (vars.drop k)).map (· + k)
theorem fromK_zero (vars : List (ByteArray × Int)) (s : ByteArray) : fromK vars 0 s = vIdx s vars := by
  unfold fromK
  rw [List.drop_zero]
  cases vIdx s vars <;> rfl
theorem fromK_end (vars : List (ByteArray × Int)) (s : ByteArray) : fromK vars vars.length s = none := by
  unfold fromK
  rw [List.drop_length]
  rfl
theorem fromK_step {vars : List (ByteArray × Int)} {k : Nat} {v : ByteArray × Int} (h : vars[k]? = some v) (s : ByteArray) : fromK vars k s = if v.1 = s then some k else fromK vars (k + 1) s := by
  obtain ⟨hk, rfl⟩ := List.getElem?_eq_some_iff.1 h
  unfold fromK
  rw [List.drop_eq_getElem_cons hk]
  conv => lhs; unfold vIdx
  split
  · simp
  · cases vIdx s (vars.drop (k + 1)) with
    | none => rfl
    | some j => simp; omega
/-- the map gives the first of the variables from k on -/
def IdxM (w : World) (b n : Nat) (vars : List (ByteArray × Int)) (k : Nat) : Prop :=
  ∃ D : DataW Unit, w.ownsMap Tryz.prog 9 (plainElem Tryz.prog 3) b n D ∧ ∀ s : ByteArray, s.size ≤ maxLen →
    D.atKey (.string s.data.toList) (.lit (.int .i64 0)) = .lit (.int .i64 (((fromK vars k s).getD 0 : Nat) : Int)) ∧ Go.Maps.has D (.string s.data.toList) = (fromK vars k s).isSome
theorem IdxM.made (w : World) (vars : List (ByteArray × Int)) : IdxM (w.alloc (.map #[] 0)) w.heap.size 0 vars vars.length :=
  ⟨.map [], World.ownsMap_made w _ _ _, fun s _ => by rw [fromK_end]; exact ⟨by simp [DataW.atKey], rfl⟩⟩
theorem IdxM.kept {w w' : World} {b n k : Nat} {vars : List (ByteArray × Int)} {row : Option Nat} (h : IdxM w b n vars k) (hg : w.grownBy w' row) (hne : some b ≠ row) : IdxM w' b n vars k := by
  obtain ⟨D, h1, h2⟩ := h
  exact ⟨D, h1.kept hg hne, h2⟩
theorem IdxM.ex {w w' : World} {b n k : Nat} {vars : List (ByteArray × Int)} (h : IdxM w b n vars k) (hx : Ex w w') : IdxM w' b n vars k :=
  h.kept (row := none) ⟨hx.below.os, hx.below.tape, hx.below.output, hx.below.size, fun k hk _ => hx.below.block k hk⟩ (by simp)
theorem Blk.noIdx {w : World} {g t : Nat} {cs : List Value} (h : Blk w g t cs) {b n k : Nat} {vars : List (ByteArray × Int)} (hm : IdxM w b n vars k) : g ≠ b := by
  obtain ⟨D, ⟨es, clock, hb, -⟩, -⟩ := hm
  rintro rfl
  unfold Blk at h
  rw [hb] at h
  cases h
theorem OwnO.noIdx {w : World} {base : Nat} {e : TypeId} {size : Nat} {v : Value} {n : Nat} {xs : List Value} (h : OwnO w base e size v n xs) {b m k : Nat} {vars : List (ByteArray × Int)} (hm : IdxM w b m vars k) : some b ≠ v.ownBlock := by
  obtain ⟨D, ⟨es, clock, hb, -⟩, -⟩ := hm
  rcases h.2 with ⟨rfl, _⟩ | ⟨g, o, cap, cur, rfl, -, hgg, _⟩
  · simp [Value.ownBlock]
  · intro he
    simp only [Value.ownBlock, Option.some.injEq] at he
    subst he
    rw [hb] at hgg
    cases hgg
theorem IdxM.map {w : World} {b n k : Nat} {vars : List (ByteArray × Int)} (h : IdxM w b n vars k) : ∃ es clock, w.heap[b]? = some (.map es clock) := by
  obtain ⟨D, ⟨es, clock, hb, -⟩, -⟩ := h
  exact ⟨es, clock, hb⟩
theorem IdxM.cells {w : World} {b n k : Nat} {vars : List (ByteArray × Int)} (h : IdxM w b n vars k) : ∀ x, some b = some x → (∃ cur, w.heap[x]? = some (.cells cur 9 (0, 0))) ∨ (∃ cur, w.heap[x]? = some (.cells cur 3 (0, 0))) → False := by
  obtain ⟨es, clock, hb⟩ := h.map
  intro x e h
  cases e
  rcases h with ⟨cur, h⟩ | ⟨cur, h⟩ <;> (rw [hb] at h; cases h)
theorem str_data {a b : ByteArray} (h : a.data.toList = b.data.toList) : a = b := by
  cases a; cases b
  simp only [ByteArray.mk.injEq]
  exact Array.toList_inj.1 h
theorem IdxM.put {w : World} {b n k : Nat} {vars : List (ByteArray × Int)} (h : IdxM w b n vars (k + 1)) (hn : n < maxLen) {v : ByteArray × Int} (hv : vars[k]? = some v) (hs : v.1.size ≤ maxLen) (hk : k ≤ 1000000000) :
    ∃ w', (Instr.mapUpdate 139 (.map (some b)) (.string v.1) (.int .i64 (k : Int))).run Tryz.prog w = .ok () w' ∧ IdxM w' b (n + 1) vars k ∧ w.grownBy w' (some b) := by
  obtain ⟨D, h1, h2⟩ := h
  have hl := Go.WideMaps.keyOf_string_mk Tryz.underlying9 hs
  obtain ⟨w', hrun, ho, hg⟩ := h1.update strKeyed Tryz.underlying139 hn hl (val := .int .i64 (k : Int)) (d := .lit (.int .i64 (k : Int))) (ps := []) (plainElem_int Tryz.underlying3 (by simp [Lit.wf, IntKind.min, IntKind.max, IntKind.bits, IntKind.signed]; omega))
  have hm : Go.Maps.IsMap D := by
    obtain ⟨es, clock, -, -, -, hD⟩ := h1
    exact ⟨_, hD⟩
  refine ⟨w', hrun, ⟨_, ho, fun s hss => ?_⟩, hg⟩
  rw [fromK_step hv]
  by_cases hx : v.1 = s
  · subst hx
    rw [if_pos rfl, Go.Maps.atKey_put_same hm (strKeyed.key hl), Go.Maps.has_put_same hm (strKeyed.key hl)]
    exact ⟨rfl, rfl⟩
  · rw [if_neg hx]
    have hne : Lit.string s.data.toList ≠ Lit.string v.1.data.toList := fun e => by
      injection e with e
      exact hx (str_data e.symm)
    rw [Go.Maps.atKey_put_other hne, Go.Maps.has_put_other hne]
    exact h2 s hss
theorem IdxM.look {w : World} {b n : Nat} {vars : List (ByteArray × Int)} (h : IdxM w b n vars 0) (s : ByteArray) (hs : s.size ≤ maxLen) :
    (Instr.lookup 139 (.map (some b)) (.string s) true).run Tryz.prog w = .ok (.tuple #[.int .i64 (((vIdx s vars).getD 0 : Nat) : Int), .bool (vIdx s vars).isSome]) w := by
  obtain ⟨D, h1, h2⟩ := h
  have hl := Go.WideMaps.keyOf_string_mk Tryz.underlying9 hs
  obtain ⟨v, ps, hrun, hv⟩ := h1.look_ok strKeyed Tryz.underlying139 (zeroInt w) (zd := .lit (.int .i64 0)) (zp := []) (plainElem_int Tryz.underlying3 (by decide)) hl
  obtain ⟨k1, k2⟩ := h2 s hs
  rw [fromK_zero] at k1 k2
  rw [k1] at hv
  obtain ⟨c, rfl, hc, -⟩ := plainElem_int_inv Tryz.underlying3 hv
  rw [hrun, k2]
  have h3 := congrArg Prod.fst hc
  simp only [DataW.lit.injEq, Lit.int.injEq, true_and] at h3
  rw [h3]
theorem clk_no {c : UInt8} {r : List UInt8} (h : c ≠ 64) : clkF (c :: r) = (c :: r, false) := by
  unfold clkF
  split
  · rename_i e; injection e with e; exact absurd e h
  · rfl
theorem clk_lib (l : List UInt8) : Lib.trimPrefix l [64] = (clkF l).1 ∧ Lib.hasPrefix l [64] = (clkF l).2 := by
  unfold Lib.trimPrefix Lib.hasPrefix
  match l with
  | [] => exact ⟨rfl, rfl⟩
  | c :: r =>
    by_cases h : c = 64
    · subst h
      have : clkF (64 :: r) = (r, true) := rfl
      rw [this]
      simp
    · have h2 : ([64] : List UInt8).isPrefixOf (c :: r) = false := by
        simp only [List.isPrefixOf, Bool.and_true]
        exact beq_eq_false_iff_ne.2 fun e => h e.symm
      rw [h2, clk_no h]
      exact ⟨rfl, rfl⟩
theorem clk_c (l : List UInt8) (w : World) : Calls Tryz.prog 53 #[.string (bs l), .string ⟨#[64]⟩] w (Ret w (.tuple #[.string (bs (clkF l).1), .bool (clkF l).2])) := by
  refine (Tryz.strings_CutPrefix (bs l) ⟨#[64]⟩ w).mono ?_
  rintro e w' ⟨rfl, rfl⟩
  obtain ⟨h1, h2⟩ := clk_lib l
  refine ⟨?_, Ex.refl _⟩
  show Ending.returned (.tuple #[.string ⟨(Lib.trimPrefix l [64]).toArray⟩, .bool (Lib.hasPrefix l [64])]) = _
  rw [h1, h2]
theorem clk_len (l : List UInt8) : (clkF l).1.length ≤ l.length := by
  unfold clkF
  split
  · simp
  · exact Nat.le_refl _
end Go.Proofs.YtpmponafjhnegaaGreatDoor
