/-
  Places.
  Conditions: texts of at most 20000 bytes.
-/
import Derived.Test.YthjalkonlcjhnaaGreatDoorPe
import Derived.Lib.LastIndexByte
import Derived.Laws.ResultCell
namespace Go.Proofs.YthjalkonlcjhnaaGreatDoor
open Go.RowKit
theorem results_pos {fn : Func} {p g : Nat} {a b : Value} {w : World} {tmps : Array Value} (h : fn.results = #[.cell p 39]) (hp : tmps.getD p undef = .pointer (some ⟨g, 0, none⟩)) (hB : Blk w g 39 [a, b]) :
    (results fn tmps).run Tryz.prog w = .ok (.agg #[a, b]) w := by
  have h0 : w.cell? ⟨g, 0, none⟩ = some a := hB.cell 0
  have h1 : w.cell? ⟨g, 1, none⟩ = some b := hB.cell 1
  rw [Array.getD_eq_getD_getElem?] at hp
  simp [results, h, hp, go_sem, h0, h1]
theorem results_pos_tmp {fn : Func} {p g u : Nat} {a b v : Value} {w : World} {tmps : Array Value} (h : fn.results = #[.cell p 39, .tmp u]) (hp : tmps.getD p undef = .pointer (some ⟨g, 0, none⟩)) (hu : tmps.getD u undef = v) (hB : Blk w g 39 [a, b]) :
    (results fn tmps).run Tryz.prog w = .ok (.tuple #[.agg #[a, b], v]) w := by
  have h0 : w.cell? ⟨g, 0, none⟩ = some a := hB.cell 0
  have h1 : w.cell? ⟨g, 1, none⟩ = some b := hB.cell 1
  rw [Array.getD_eq_getD_getElem?] at hp hu
  simp [results, h, hp, hu, go_sem, h0, h1]
theorem results_word_tmp {fn : Func} {p g u : Nat} {a b c d v : Value} {w : World} {tmps : Array Value} (h : fn.results = #[.cell p 66, .tmp u]) (hp : tmps.getD p undef = .pointer (some ⟨g, 0, none⟩)) (hu : tmps.getD u undef = v) (hB : Blk w g 66 [a, b, c, d]) :
    (results fn tmps).run Tryz.prog w = .ok (.tuple #[.agg #[a, b, c, d], v]) w := by
  have h0 : w.cell? ⟨g, 0, none⟩ = some a := hB.cell 0
  have h1 : w.cell? ⟨g, 1, none⟩ = some b := hB.cell 1
  have h2 : w.cell? ⟨g, 2, none⟩ = some c := hB.cell 2
  have h3 : w.cell? ⟨g, 3, none⟩ = some d := hB.cell 3
  rw [Array.getD_eq_getD_getElem?] at hp hu
  simp [results, h, hp, hu, go_sem, h0, h1, h2, h3]
theorem results_words {fn : Func} {p g u x : Nat} {a b v y : Value} {w : World} {tmps : Array Value} (h : fn.results = #[.tmp x, .cell p 39, .tmp u]) (hx : tmps.getD x undef = y) (hp : tmps.getD p undef = .pointer (some ⟨g, 0, none⟩)) (hu : tmps.getD u undef = v) (hB : Blk w g 39 [a, b]) :
    (results fn tmps).run Tryz.prog w = .ok (.tuple #[y, .agg #[a, b], v]) w := by
  have h0 : w.cell? ⟨g, 0, none⟩ = some a := hB.cell 0
  have h1 : w.cell? ⟨g, 1, none⟩ = some b := hB.cell 1
  rw [Array.getD_eq_getD_getElem?] at hp hu hx
  simp [results, h, hp, hu, hx, go_sem, h0, h1]
def posStep (p : Nat × Nat) (c : UInt8) : Nat × Nat := if c.toNat = 10 then (p.1 + 1, 1) else (p.1, p.2 + 1)
def posF (l : List UInt8) : Nat × Nat := l.foldl posStep (1, 1)
def posV (p : Nat × Nat) : Value := .agg #[.int .i64 (p.1 : Nat), .int .i64 (p.2 : Nat)]
theorem posF_append (l m : List UInt8) : posF (l ++ m) = m.foldl posStep (posF l) := by unfold posF; rw [List.foldl_append]
theorem pos_le : ∀ (l : List UInt8) (p : Nat × Nat), (l.foldl posStep p).1 ≤ p.1 + l.length ∧ (l.foldl posStep p).2 ≤ p.2 + l.length + 1
  | [], p => by simp
  | c :: r, p => by
    have := pos_le r (posStep p c)
    rw [List.foldl_cons, List.length_cons]
    unfold posStep at this ⊢
    split at this <;> simp_all <;> omega
theorem posF_le (l : List UInt8) : (posF l).1 ≤ 1 + l.length ∧ (posF l).2 ≤ 2 + l.length := by
  have := pos_le l (1, 1)
  unfold posF
  simp at this ⊢
  omega
theorem pos_snoc (s : ByteArray) (k : Nat) (h : k < s.size) : posF (s.data.toList.take (k + 1)) = posStep (posF (s.data.toList.take k)) s[k] := by
  rw [take_snoc s k h, posF_append]; rfl
theorem line_eq : ∀ (l : List UInt8) (p : Nat × Nat), (l.foldl posStep p).1 = p.1 + l.count 10
  | [], p => rfl
  | c :: r, p => by
    rw [List.foldl_cons, line_eq r]
    unfold posStep
    by_cases h : c.toNat = 10
    · have hc : c = 10 := UInt8.toNat_inj.1 h
      subst hc
      rw [if_pos h, List.count_cons_self]
      show p.1 + 1 + _ = _
      omega
    · have hc : c ≠ 10 := fun e => h (by rw [e]; rfl)
      rw [if_neg h, List.count_cons_of_ne hc]
theorem col_eq (s : ByteArray) : ∀ k : Nat, k ≤ s.size → ((posF (s.data.toList.take k)).2 : Int) = k - Lib.lastIdx s 10 k
  | 0, _ => rfl
  | k + 1, h => by
    have ih := col_eq s k (by omega)
    have hg : (s.data[k]!) = s[k] := by
      rw [getElem!_pos s.data k (by exact h)]; rfl
    rw [pos_snoc s k (by omega)]
    unfold posStep
    by_cases hc : s[k].toNat = 10
    · rw [if_pos hc, Lib.lastIdx_hit s 10 k (by rw [hg]; omega)]
      show ((1 : Nat) : Int) = _
      omega
    · rw [if_neg hc, Lib.lastIdx_miss s 10 k (by rw [hg]; omega)]
      show (((posF _).2 + 1 : Nat) : Int) = _
      omega
theorem count_c (s : ByteArray) (w : World) : Calls Tryz.prog 127 #[.string s, .string ⟨#[10]⟩] w (Ret w (.int .i64 (s.data.toList.count 10 : Nat))) := by
  refine (Tryz.strings_Count_one s 10 w).mono ?_
  rintro e w' ⟨rfl, rfl⟩
  exact ⟨rfl, Ex.refl _⟩
theorem last_c (s : ByteArray) (hs : s.size ≤ 20000) (w : World) : Calls Tryz.prog 128 #[.string s, .string ⟨#[10]⟩] w (Ret w (.int .i64 (Lib.lastIdx s 10 s.size))) := by
  refine (Tryz.strings_LastIndex_one s ⟨#[10]⟩ rfl (by omega) w).mono ?_
  rintro e w' ⟨rfl, rfl⟩
  exact ⟨rfl, Ex.refl _⟩
def PosE (p : Nat × Nat) (e : Nat) : Value := .tuple #[.agg #[.int .i64 (p.1 : Nat), .int .i64 (p.2 : Nat)], .int .i64 (e : Nat)]
theorem place_long (s : ByteArray) (x : Int) (w : World) (h : 16384 < s.size) : Calls Tryz.prog 105 #[.string s, .int .i64 x] w (Ret w (PosE (0, 0) 5)) := by
  have f1 : decide (16384 < (s.size : Int)) = true := decide_eq_true (by omega)
  have HB : Hid (Blk (w.alloc (Obj.cells #[Value.int IntKind.i64 0, Value.int IntKind.i64 0] 39)) w.heap.size 39 [.int .i64 0, .int .i64 0]) := Blk.new w 39 _
  go_enter Tryz.func105, Tryz.ntmps105
  go_wp2_with fail
  refine bodyPost_ret (results_pos_tmp rfl rfl rfl HB.out) rfl ?_
  exact Ret.mk rfl ((Ex.refl w).alloc _)
theorem place_range (s : ByteArray) (x : Int) (w : World) (h : s.size ≤ 16384) (hx : x < 0 ∨ (s.size : Int) < x) : Calls Tryz.prog 105 #[.string s, .int .i64 x] w (Ret w (PosE (0, 0) 2)) := by
  have f1 : decide (16384 < (s.size : Int)) = false := decide_eq_false (by omega)
  have HB : Hid (Blk (w.alloc (Obj.cells #[Value.int IntKind.i64 0, Value.int IntKind.i64 0] 39)) w.heap.size 39 [.int .i64 0, .int .i64 0]) := Blk.new w 39 _
  by_cases h0 : x < 0
  · have f2 : decide (x < 0) = true := decide_eq_true h0
    clear hx h0
    go_enter Tryz.func105, Tryz.ntmps105
    go_wp2_with fail
    refine bodyPost_ret (results_pos_tmp rfl rfl rfl HB.out) rfl ?_
    exact Ret.mk rfl ((Ex.refl w).alloc _)
  · have f2 : decide (x < 0) = false := decide_eq_false h0
    have f3 : decide ((s.size : Int) < x) = true := decide_eq_true (by omega)
    clear hx h0
    go_enter Tryz.func105, Tryz.ntmps105
    go_wp2_with fail
    refine bodyPost_ret (results_pos_tmp rfl rfl rfl HB.out) rfl ?_
    exact Ret.mk rfl ((Ex.refl w).alloc _)
theorem extract_take (s : ByteArray) (n : Nat) : (s.extract 0 n).data.toList = s.data.toList.take n := by
  rw [Lib.extract_data]
  simp
theorem place_c (s : ByteArray) (n : Nat) (w : World) (h : s.size ≤ 16384) (hn : n ≤ s.size) : Calls Tryz.prog 105 #[.string s, .int .i64 n] w (Ret w (PosE (posF (s.data.toList.take n)) 0)) := by
  have f1 : decide (16384 < (s.size : Int)) = false := decide_eq_false (by omega)
  have f3 : decide ((s.size : Int) < (n : Int)) = false := decide_eq_false (by omega)
  obtain ⟨D, hD⟩ : ∃ D, s.extract 0 n = D := ⟨_, rfl⟩
  have hl : D.data.toList = s.data.toList.take n := by rw [← hD, extract_take]
  have hsz : D.size = n := by rw [size_data, hl, List.length_take, ← size_data]; omega
  have H1 := Lib.hid (count_c D)
  have H2 := Lib.hid (last_c D (by omega))
  have e1 := line_eq (s.data.toList.take n) (1, 1)
  have e2 := col_eq D n (by omega)
  have e3 := posF_le (s.data.toList.take n)
  rw [hl, List.take_take, Nat.min_self] at e2
  rw [hl] at H1
  rw [List.length_take, ← size_data] at e3
  rw [hsz] at H2
  unfold PosE
  change (posF (s.data.toList.take n)).1 = _ at e1
  generalize posF (s.data.toList.take n) = P at *
  obtain ⟨p, q⟩ := P
  dsimp only at e1 e2 e3 ⊢
  generalize (s.data.toList.take n).count 10 = C at *
  generalize Lib.lastIdx D 10 n = J at *
  have HB : Hid (Blk (w.alloc (Obj.cells #[Value.int IntKind.i64 0, Value.int IntKind.i64 0] 39)) w.heap.size 39 [.int .i64 0, .int .i64 0]) := Blk.new w 39 _
  have hD2 : s.extract 0 n = D := hD
  clear hl
  go_enter Tryz.func105, Tryz.ntmps105
  go_wp2_with (first | (go_at_call 127; refine (H1.out _).mono ?_; rintro e w' ⟨rfl, z1, rfl⟩) | (go_at_call 128; refine (H2.out _).mono ?_; rintro e w' ⟨rfl, z2, rfl⟩))
  refine bodyPost_ret (results_pos_tmp rfl rfl rfl ((((HB.out.ex ⟨_, rfl⟩).ex ⟨_, rfl⟩).set_ 0 _).set_ 1 _)) rfl ?_
  refine Ret.mk ?_ (((((Ex.refl w).alloc _).ext _).ext _).setCell (Nat.le_refl _) _ |>.setCell (Nat.le_refl _) _)
  have e4 : (1 + (C : Int)) = (p : Int) := by omega
  rw [e4, ← e2]
  rfl
end Go.Proofs.YthjalkonlcjhnaaGreatDoor
