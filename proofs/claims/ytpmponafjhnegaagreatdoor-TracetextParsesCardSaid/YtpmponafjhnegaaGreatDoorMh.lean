/-
  The first process with a name, and the program's handing back of an error, walked.
  Conditions: as each theorem says.
-/
import Derived.Test.YtpmponafjhnegaaGreatDoorMg
namespace Go.Proofs.YtpmponafjhnegaaGreatDoor
open Go.RowKit Nu
theorem pIdx_at {n : ByteArray} : ∀ {vs : List ByteArray} {k : Nat} {x : ByteArray}, vs[k]? = some x → (∀ j y, j < k → vs[j]? = some y → y ≠ n) → x = n → pIdx n vs = some k
  | [], k, x, h, _, _ => by simp at h
  | v :: vs, 0, x, h, _, hx => by cases h; unfold pIdx; rw [if_pos hx]
  | v :: vs, k + 1, x, h, hb, hx => by
    unfold pIdx
    rw [if_neg (hb 0 v (by omega) rfl), pIdx_at (k := k) (by simpa using h) (fun j y hj hy => hb (j + 1) y (by omega) (by simpa using hy)) hx]
    rfl
theorem pIdx_none {n : ByteArray} : ∀ {vs : List ByteArray}, (∀ (j : Nat) (y : ByteArray), vs[j]? = some y → y ≠ n) → pIdx n vs = none
  | [], _ => rfl
  | v :: vs, hb => by
    unfold pIdx
    rw [if_neg (hb 0 v rfl), pIdx_none fun j y hy => hb (j + 1) y (by simpa using hy)]
    rfl
def idxV (o : Option Nat) : Int := match o with | some q => (q : Int) | none => -1
theorem bytes_dec (a b : ByteArray) : (a.toList == b.toList) = decide (a = b) := by
  rw [Lib.toList_data, Lib.toList_data, Bool.eq_iff_iff, beq_iff_eq, decide_eq_true_eq]
  exact ⟨fun h => str_data h, fun h => by rw [h]⟩
set_option maxRecDepth 20000 in
set_option maxHeartbeats 3200000 in
theorem find_c (t : List Pr) (A : Option Addr) (c : Nat) (n : ByteArray) (w : World) (hT : TcC w A t) (hl : t.length ≤ 100000) :
    Calls Tryz.prog 47 #[.agg #[.slice A t.length c], .string n] w (Ret w (.int .i64 (idxV (pIdx n (t.map (·.name)))))) := by
  have HT : Hid (∀ w', Ex w w' → TcC w' A t) := fun w' hx => hT.ex hx
  have HB0 : Hid (∀ w', Ex (w.alloc (.cells #[.slice A t.length c] 24)) w' → Blk w' w.heap.size 24 [.slice A t.length c]) := fun w' hx => (Blk.new w 24 [.slice A t.length c]).ex hx
  have HX0 : Hid (Ex w (w.alloc (.cells #[.slice A t.length c] 24))) := (Ex.refl w).alloc _
  have HAt : Hid (∀ k x, (t.map (·.name))[k]? = some x → (∀ j y, j < k → (t.map (·.name))[j]? = some y → y ≠ n) → x = n → pIdx n (t.map (·.name)) = some k) := fun k x h1 h2 h3 => pIdx_at h1 h2 h3
  have HNo : Hid ((∀ (j : Nat) (y : ByteArray), (t.map (·.name))[j]? = some y → y ≠ n) → pIdx n (t.map (·.name)) = none) := fun h => pIdx_none h
  generalize pIdx n (t.map (·.name)) = R at *
  clear hT
  go_enter Tryz.func47, Tryz.ntmps47
  go_wp2_with fail
  generalize w.alloc (.cells #[.slice A t.length c] 24) = W0 at *
  have a0 := (HB0.out _ (Ex.refl _)).cell 0
  go_wp2_with fail
  go_loopw [5, 6, 10] (fun _ _ q wr => ∃ k : Nat, q = .int .i64 k ∧ k ≤ t.length ∧ Hid ((∀ j y, j < k → (t.map (·.name))[j]? = some y → y ≠ n) ∧ Ex W0 wr)) (fun _ _ q _ => t.length - (intOf q).toNat)
  case atStart => exact ⟨0, rfl, Nat.zero_le _, Lib.hid ⟨fun j y h => absurd h (Nat.not_lt_zero _), Ex.refl _⟩⟩
  case round =>
    obtain ⟨k, rfl, hk, HH⟩ := hrel
    by_cases hkl : k < t.length
    · have m0 : (0 : Int) ≤ (k : Int) := by omega
      have m1 : (k : Int) < (t.length : Int) := by omega
      obtain ⟨x, hx⟩ : ∃ x, t[k]? = some x := ⟨_, List.getElem?_eq_getElem hkl⟩
      obtain ⟨b, o, rfl, hb, V, vc, E, ec, k0, k1, k2, -, -⟩ := HT.out _ (HX0.out.trans HH.out.2) k x hx
      have hnm : (t.map (·.name))[k]? = some x.name := by rw [List.getElem?_map, hx]; rfl
      have be := bytes_dec x.name n
      have hne : ∀ u : Nat, wr.heap.size + u ≠ b := fun u => by omega
      have HX := Lib.hid HH.out.2
      have HBf := Lib.hid HH.out.1
      clear HH hx
      by_cases he : x.name = n
      · have e := HAt.out k x.name hnm HBf.out he
        subst e
        rw [decide_eq_true he] at be
        clear he hnm
        generalize x.name = xn at *
        go_wp2_with fail
        go_ret
        exact Ret.mk rfl (HX0.out.trans (by first | exact HX.out.alloc _ | exact (HX.out.alloc _).drew))
      · rw [decide_eq_false he] at be
        have HN : Hid (∀ j y, j < k + 1 → (t.map (·.name))[j]? = some y → y ≠ n) := fun j y hj hy => by
          by_cases h : j < k
          · exact HBf.out j y h hy
          · obtain rfl : j = k := by omega
            rw [hnm] at hy
            cases hy
            exact he
        clear he hnm
        generalize x.name = xn at *
        go_wp2_with fail
        exact ⟨⟨k + 1, by go_num, by omega, Lib.hid ⟨HN.out, by first | exact HX.out.alloc _ | exact (HX.out.alloc _).drew⟩⟩, by simp [intOf]; omega⟩
    · obtain rfl : k = t.length := by omega
      have m1 : decide ((t.length : Int) < (t.length : Int)) = false := decide_eq_false (by omega)
      have e := HNo.out (fun j y hy => HH.out.1 j y (by have := (List.getElem?_eq_some_iff.1 hy).1; simpa using this) hy)
      subst e
      have HX := Lib.hid HH.out.2
      clear HH
      go_wp2_with fail
      go_ret
      exact Ret.mk rfl (HX0.out.trans HX.out)
def errV (l c : Int) (e : Int) : Value := .tuple #[.agg #[.slice none 0 0], .agg #[.int .i64 l, .int .i64 c], .int .i64 e]
theorem results_fail {fn : Func} {p q s g h : Nat} {a b c e : Value} {w : World} {tmps : Array Value} (hr : fn.results = #[.cell p 24, .cell q 48, .tmp s]) (hp : tmps.getD p undef = .pointer (some ⟨g, 0, none⟩)) (hq : tmps.getD q undef = .pointer (some ⟨h, 0, none⟩)) (hs : tmps.getD s undef = e) (hB : Blk w g 24 [a]) (hC : Blk w h 48 [b, c]) :
    (results fn tmps).run Tryz.prog w = .ok (.tuple #[.agg #[a], .agg #[b, c], e]) w := by
  have h0 : w.cell? ⟨g, 0, none⟩ = some a := hB.cell 0
  have h1 : w.cell? ⟨h, 0, none⟩ = some b := hC.cell 0
  have h2 : w.cell? ⟨h, 1, none⟩ = some c := hC.cell 1
  rw [Array.getD_eq_getD_getElem?] at hp hq hs
  simp [results, hr, hp, hq, hs, go_sem, h0, h1, h2]
set_option maxRecDepth 20000 in
theorem pfail_c (l c e : Int) (w : World) : Calls Tryz.prog 52 #[.int .i64 l, .int .i64 c, .int .i64 e] w (Ret w (errV l c e)) := by
  unfold errV
  go_enter Tryz.func52, Tryz.ntmps52
  go_wp2_with fail
  have hB := ((Blk.new w 24 [.slice none 0 0]).alloc (.cells #[.int .i64 l, .int .i64 c] 48))
  have hC := Blk.new (w.alloc (.cells #[.slice none 0 0] 24)) 48 [.int .i64 l, .int .i64 c]
  have hz : (w.alloc (.cells #[.slice none 0 0] 24)).heap.size = w.heap.size + 1 := Array.size_push _
  rw [hz] at hC
  exact bodyPost_ret (results_fail rfl rfl rfl rfl hB hC) rfl (Ret.mk rfl (((Ex.refl w).alloc _).alloc _))
end Go.Proofs.YtpmponafjhnegaaGreatDoor
