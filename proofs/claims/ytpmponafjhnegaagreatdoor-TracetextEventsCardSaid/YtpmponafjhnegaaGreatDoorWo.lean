/-
  Traces and names of events that come in as arguments, opened; the tables; the bridge between a row's words and the walks. (From Yo, for the seat of the texts.)
  Conditions: as each theorem says.
-/
import Derived.Test.YtpmponafjhnegaaGreatDoorWc
import Derived.Test.YtpmponafjhnegaaGreatDoorWs
import Derived.Test.YtpmponafjhnegaaGreatDoorCards
import Derived.Test.YtpmponafjhnegaaGreatDoorTie
import Derived.Lib.LaidTab
import Derived.Stop.LaidErr
import Derived.Deep.Slices
import Derived.Deep.Fields
import Derived.SizedLaws
import Derived.ProofKit
import Derived.OpenShut
import Derived.ChangeSlices
import Derived.ChangeSame
import Derived.Carry
import Derived.Below
import Derived.JoinedOf
import Derived.Deep.DeepHandedRow
import Derived.Lib.SmallJoins
import Derived.Lay
import Derived.MakeChecks
namespace Go.Proofs.YtpmponafjhnegaaGreatDoor
section
open Go.ChangeShapes Go.WideShapes Go.ChangeAt Go.RowKit Go.Deep Go.Joins Go.WideElems
theorem blk_lt {w : World} {a : Addr} {v : Value} (h : w.cell? a = some v) : a.block < w.heap.size := by
  unfold World.cell? at h
  split at h
  · rename_i hb; exact (Array.getElem?_eq_some_iff.1 hb).1
  · cases h
theorem spot_none {w : World} {a : Addr} {u : Value} (h : w.cell? a = some u) : a.spot = none := by
  unfold World.cell? at h
  split at h
  · cases hs : a.spot with
    | none => rfl
    | some x => rw [hs] at h; simp at h
  · cases h
theorem add_plain (b off j : Nat) : (⟨b, off, none⟩ : Addr).add j = ⟨b, off + j, none⟩ := by
  unfold Addr.add
  split
  · rename_i h; rw [h]; rfl
  · rfl
theorem cellsInt : Tryz.prog.cellsOf 3 = 1 := by kernel_rfl
theorem cellsStr : Tryz.prog.cellsOf 9 = 1 := by kernel_rfl
theorem cellsRow : Tryz.prog.cellsOf 93 = 1 := by kernel_rfl
theorem cellsAsg : Tryz.prog.cellsOf 102 = 2 := by kernel_rfl
theorem cellsVar : Tryz.prog.cellsOf 71 = 2 := by kernel_rfl
theorem cellsEv : Tryz.prog.cellsOf 38 = 5 := by kernel_rfl
theorem cellsPr : Tryz.prog.cellsOf 35 = 3 := by kernel_rfl
theorem cellsAsgs : Tryz.prog.cellsOf 36 = 1 := by kernel_rfl
theorem cellsVars : Tryz.prog.cellsOf 32 = 1 := by kernel_rfl
theorem cellsEvs : Tryz.prog.cellsOf 33 = 1 := by kernel_rfl
theorem cellsPrs : Tryz.prog.cellsOf 22 = 1 := by kernel_rfl
theorem bytesPr : 1 ≤ Tryz.prog.bytesOf 35 := of_decide_eq_true (by kernel_rfl)
theorem bytesEv : 1 ≤ Tryz.prog.bytesOf 38 := of_decide_eq_true (by kernel_rfl)
section
variable {H : Type} {enc : TypeId × Value → H} {P : Program} {W : World} {base : Nat} {spare : Nat → Bool} {held : Bool}
/-- all that is read of a datum is within the reach -/
def WOk (P : Program) (t : TypeId) (d : DataW H) : Prop := ∀ n ∈ d.weights P t, n ≤ reachBytes
theorem WOk.field {t : TypeId} {fs : Array Field} {parts : List (DataW H)} (h : WOk P t (.agg parts)) (hu : P.underlying t = some (.struct fs)) {j : Nat} {f : Field} {d : DataW H} (hf : fs[j]? = some f) (hd : parts[j]? = some d) : WOk P f.type d := fun n hn => by
  refine h n ?_
  simp only [DataW.weights, hu]
  exact DataW.weights_mem_each (j := j) (by rw [List.getElem?_map, Array.getElem?_toList, hf]; rfl) hd n hn
theorem weights_all {e : TypeId} {d : DataW H} {n : Nat} (hn : n ∈ d.weights P e) : ∀ l : List (DataW H), d ∈ l → n ∈ DataW.weightsAll P e l
  | [], h => absurd h List.not_mem_nil
  | x :: l, h => by
    simp only [DataW.weightsAll, List.mem_append]
    rcases List.mem_cons.1 h with rfl | h
    · exact .inl hn
    · exact .inr (weights_all hn l h)
theorem WOk.elem {t e : TypeId} {elems sp : List (DataW H)} (h : WOk P t (.slice elems sp)) (hu : P.underlying t = some (.slice e)) {d : DataW H} (hd : d ∈ elems) : WOk P e d := fun n hn => by
  refine h n ?_
  simp only [DataW.weights, hu, List.mem_cons, List.mem_append]
  exact .inr (.inl (weights_all hn _ hd))
theorem WOk.len {t e : TypeId} {elems sp : List (DataW H)} (h : WOk P t (.slice elems sp)) (hu : P.underlying t = some (.slice e)) : elems.length * P.bytesOf e ≤ reachBytes := by
  have := h ((elems.length + sp.length) * P.bytesOf e) (by simp only [DataW.weights, hu, List.mem_cons, true_or])
  exact Nat.le_trans (Nat.mul_le_mul_right _ (Nat.le_add_right _ _)) this
/-- a slice opened, its elements by a reading of each -/
theorem list_of {α : Type} [Inhabited α] {t e : TypeId} {k fuel : Nat} {v : Value} {d : DataW H} {pl : List MemPlace} (Op : Nat → Nat → α → Prop) (ht : P.underlying t = some (.slice e)) (hk : P.cellsOf e = k) (hk1 : 1 ≤ k)
    (hop : ∀ (n : Nat) (cs : List Value) (x : DataW H) (q : List MemPlace) (b o : Nat), DataW.trod enc P W base spare held n e cs = some (x, q) → WOk P e x → b < W.heap.size → (∀ j, j < k → W.cell? ⟨b, o + j, none⟩ = cs[j]?) → ∃ y, Op b o y)
    (h : DataW.trod enc P W base spare held fuel t [v] = some (d, pl)) (hw : WOk P t d) :
    ∃ (A : Option Addr) (l : List α) (c : Nat), v = .slice A l.length c ∧ l.length ≤ c ∧ l.length * P.bytesOf e ≤ reachBytes ∧ (l = [] ∨ ∃ b o, A = some ⟨b, o, none⟩ ∧ b < W.heap.size ∧ ∀ i y, l[i]? = some y → Op b (o + i * k) y) := by
  rcases open_slice ht h with ⟨e1, -⟩ | ⟨a, len, cap, m, n, D, Pl, e1, -, hl, -, hm, hx, hi⟩
  · injection e1 with e1
    exact ⟨none, [], 0, e1, Nat.le_refl _, by simp, .inl rfl⟩
  · injection e1 with e1
    injection hx with hx _
    subst hx
    have hlm : len ≤ m := by rw [hm]; split <;> omega
    have hlen := hw.len ht
    rw [List.length_map, List.length_range] at hlen
    cases len with
    | zero => exact ⟨some a, [], cap, e1, Nat.zero_le _, by simp, .inl rfl⟩
    | succ len =>
      have hspot : a.spot = none := by
        obtain ⟨cs', hc, -⟩ := hi 0 (by omega)
        rw [hk] at hc
        obtain ⟨_, _, hat⟩ := World.cells?_some hc
        have h0 := hat 0 hk1
        rename_i hl0
        obtain ⟨u, hu⟩ : ∃ u, cs'[0]? = some u := ⟨_, List.getElem?_eq_getElem (by omega)⟩
        have : ((a.add (0 * k)).add 0) = a := by unfold Addr.add; simp
        rw [this, hu] at h0
        exact spot_none h0
      obtain ⟨b, o, s⟩ := a
      have hs0 : s = none := hspot
      subst hs0
      have hb : b < W.heap.size := by
        obtain ⟨cs', hc, -⟩ := hi 0 (by omega)
        rw [hk] at hc
        obtain ⟨_, hl0, hat⟩ := World.cells?_some hc
        have h0 := hat 0 hk1
        obtain ⟨u, hu⟩ : ∃ u, cs'[0]? = some u := ⟨_, List.getElem?_eq_getElem (by omega)⟩
        rw [add_plain, add_plain, hu] at h0
        exact blk_lt h0
      obtain ⟨f, hf⟩ := choose_lt (n := len + 1) (p := fun i (y : α) => Op b (o + i * k) y) (fun i hil => by
        obtain ⟨cs', hc, htr⟩ := hi i (by omega)
        rw [hk] at hc
        obtain ⟨_, _, hat⟩ := World.cells?_some hc
        refine hop n cs' (D i) (Pl i) b (o + i * k) htr (hw.elem ht (List.mem_map.2 ⟨i, List.mem_range.2 hil, rfl⟩)) hb fun j hj => ?_
        have := hat j hj
        rw [add_plain, add_plain] at this
        exact this)
      refine ⟨some ⟨b, o, none⟩, (List.range (len + 1)).map f, cap, by rw [e1]; simp, by simpa using hl, by simpa using hlen, .inr ⟨b, o, rfl, hb, fun i y hy => ?_⟩⟩
      rw [List.getElem?_map] at hy
      have hil : i < len + 1 := by
        cases hr : (List.range (len + 1))[i]? with
        | none => rw [hr] at hy; cases hy
        | some q => exact by simpa using (List.getElem?_eq_some_iff.1 hr).1
      rw [List.getElem?_range hil] at hy
      injection hy with hy
      subst hy
      exact hf i hil
theorem two_of {α : Type} : ∀ {l : List α}, l.length = 2 → ∃ a b, l = [a, b]
  | [a, b], _ => ⟨a, b, rfl⟩
theorem three_of {α : Type} : ∀ {l : List α}, l.length = 3 → ∃ a b c, l = [a, b, c]
  | [a, b, c], _ => ⟨a, b, c, rfl⟩
theorem five_of {α : Type} : ∀ {l : List α}, l.length = 5 → ∃ a b c d e, l = [a, b, c, d, e]
  | [a, b, c, d, e], _ => ⟨a, b, c, d, e, rfl⟩
end
section
variable {H : Type} {enc : TypeId × Value → H} {W : World} {base : Nat} {spare : Nat → Bool} {held : Bool}
theorem trod_int_at {n : Nat} {v : Value} {x : DataW H × List MemPlace} (h : DataW.trod enc Tryz.prog W base spare held n 3 [v] = some x) : ∃ i : Int, v = .int .i64 i := by
  obtain ⟨k, e, -⟩ := DataW.trod_int Tryz.underlying3 h
  injection e with e _
  exact ⟨k, e⟩
theorem trod_str_at {n : Nat} {v : Value} {x : DataW H × List MemPlace} (h : DataW.trod enc Tryz.prog W base spare held n 9 [v] = some x) : ∃ s : ByteArray, v = .string s := by
  obtain ⟨k, e, -⟩ := DataW.trod_string Tryz.underlying9 h
  injection e with e _
  exact ⟨k, e⟩
theorem one_int {n : Nat} {cs : List Value} {x : DataW H} {q : List MemPlace} (h : DataW.trod enc Tryz.prog W base spare held n 3 cs = some (x, q)) : ∃ i : Int, cs = [.int .i64 i] := by
  obtain ⟨k, e, -⟩ := DataW.trod_int Tryz.underlying3 h
  exact ⟨k, e⟩
/-- pairs at a slice's address -/
theorem row_pairs {α : Type} (f g : α → Value) {A : Option Addr} {l : List α} (hr : l = [] ∨ ∃ b o, A = some ⟨b, o, none⟩ ∧ b < W.heap.size ∧ ∀ i y, l[i]? = some y → W.cell? ⟨b, o + i * 2, none⟩ = some (f y) ∧ W.cell? ⟨b, o + i * 2 + 1, none⟩ = some (g y)) : Row W A (l.flatMap fun a => [f a, g a]) := by
  rcases hr with rfl | ⟨b, o, hA, hb, hr⟩
  · exact .inl rfl
  · refine .inr ⟨b, o, hA, hb, fun j u hj => ?_⟩
    have hlen : ∀ l : List α, (l.flatMap fun a => [f a, g a]).length = l.length * 2 := fun l => by
      induction l with
      | nil => rfl
      | cons x l ih => rw [List.flatMap_cons, List.length_append, ih, List.length_cons]; simp only [List.length_cons, List.length_nil]; omega
    have hjl := (List.getElem?_eq_some_iff.1 hj).1
    rw [hlen] at hjl
    obtain ⟨y, hy⟩ := get_at' (show j / 2 < l.length by omega)
    obtain ⟨p1, p2⟩ := pair_get f g l (j / 2) y hy
    obtain ⟨c1, c2⟩ := hr (j / 2) y hy
    have hm : j % 2 = 0 ∨ j % 2 = 1 := by omega
    rcases hm with hm | hm
    · rw [show j = j / 2 * 2 by omega] at hj ⊢
      rw [p1] at hj
      rw [c1, hj]
    · rw [show j = j / 2 * 2 + 1 by omega] at hj ⊢
      rw [p2] at hj
      rw [← Nat.add_assoc, c2, hj]
theorem open_asgs {fuel : Nat} {v : Value} {d : DataW H} {pl : List MemPlace} (h : DataW.trod enc Tryz.prog W base spare held fuel 36 [v] = some (d, pl)) (hw : WOk Tryz.prog 36 d) :
    ∃ (A : Option Addr) (l : List (Int × Int)) (c : Nat), v = .slice A l.length c ∧ l.length ≤ c ∧ Row W A (asgV l) := by
  obtain ⟨A, l, c, e, hc, -, hr⟩ := list_of (α := Int × Int) (k := 2) (fun b o y => W.cell? ⟨b, o, none⟩ = some (.int .i64 y.1) ∧ W.cell? ⟨b, o + 1, none⟩ = some (.int .i64 y.2)) Tryz.underlying36 cellsAsg (by omega)
    (fun n cs x q b o ht _ _ hcs => by
      obtain ⟨ys, n', -, -, hlen, hyl, hf⟩ := DataW.trod_struct Tryz.underlying102 ht
      rw [cellsAsg] at hlen
      have h0 : DataW.trod enc Tryz.prog W base spare held n' 3 ((cs.drop 0).take (Tryz.prog.cellsOf 3)) = ys[0]? := hf 0 _ rfl
      have h1 : DataW.trod enc Tryz.prog W base spare held n' 3 ((cs.drop 1).take (Tryz.prog.cellsOf 3)) = ys[1]? := hf 1 _ rfl
      rw [cellsInt] at h0 h1
      obtain ⟨c0, c1, rfl⟩ := two_of hlen
      obtain ⟨y0, y1, rfl⟩ := two_of hyl
      obtain ⟨i, rfl⟩ := trod_int_at (show DataW.trod enc Tryz.prog W base spare held n' 3 [c0] = some y0 from h0)
      obtain ⟨j, rfl⟩ := trod_int_at (show DataW.trod enc Tryz.prog W base spare held n' 3 [c1] = some y1 from h1)
      exact ⟨(i, j), hcs 0 (by omega), hcs 1 (by omega)⟩) h hw
  exact ⟨A, l, c, e, hc, row_pairs (fun a : Int × Int => Value.int .i64 a.1) (fun a => .int .i64 a.2) hr⟩
theorem open_vars {fuel : Nat} {v : Value} {d : DataW H} {pl : List MemPlace} (h : DataW.trod enc Tryz.prog W base spare held fuel 32 [v] = some (d, pl)) (hw : WOk Tryz.prog 32 d) :
    ∃ (A : Option Addr) (l : List (ByteArray × Int)) (c : Nat), v = .slice A l.length c ∧ l.length ≤ c ∧ Row W A (varV l) := by
  obtain ⟨A, l, c, e, hc, -, hr⟩ := list_of (α := ByteArray × Int) (k := 2) (fun b o y => W.cell? ⟨b, o, none⟩ = some (.string y.1) ∧ W.cell? ⟨b, o + 1, none⟩ = some (.int .i64 y.2)) Tryz.underlying32 cellsVar (by omega)
    (fun n cs x q b o ht _ _ hcs => by
      obtain ⟨ys, n', -, -, hlen, hyl, hf⟩ := DataW.trod_struct Tryz.underlying71 ht
      rw [cellsVar] at hlen
      have h0 : DataW.trod enc Tryz.prog W base spare held n' 9 ((cs.drop 0).take (Tryz.prog.cellsOf 9)) = ys[0]? := hf 0 _ rfl
      have h1 : DataW.trod enc Tryz.prog W base spare held n' 3 ((cs.drop 1).take (Tryz.prog.cellsOf 3)) = ys[1]? := hf 1 _ rfl
      rw [cellsStr] at h0
      rw [cellsInt] at h1
      obtain ⟨c0, c1, rfl⟩ := two_of hlen
      obtain ⟨y0, y1, rfl⟩ := two_of hyl
      obtain ⟨i, rfl⟩ := trod_str_at (show DataW.trod enc Tryz.prog W base spare held n' 9 [c0] = some y0 from h0)
      obtain ⟨j, rfl⟩ := trod_int_at (show DataW.trod enc Tryz.prog W base spare held n' 3 [c1] = some y1 from h1)
      exact ⟨(i, j), hcs 0 (by omega), hcs 1 (by omega)⟩) h hw
  exact ⟨A, l, c, e, hc, row_pairs (fun a : ByteArray × Int => Value.string a.1) (fun a => .int .i64 a.2) hr⟩
instance : Inhabited Ev := ⟨⟨0, 0, 0, 0, []⟩⟩
instance : Inhabited Pr := ⟨⟨⟨#[]⟩, [], []⟩⟩
theorem open_ev {n : Nat} {cs : List Value} {x : DataW H} {q : List MemPlace} {b o : Nat} (ht : DataW.trod enc Tryz.prog W base spare held n 38 cs = some (x, q)) (hw : WOk Tryz.prog 38 x) (hcs : ∀ j, j < 5 → W.cell? ⟨b, o + j, none⟩ = cs[j]?) : ∃ e, EvC W b o e := by
  obtain ⟨ys, n', -, hx, hlen, hyl, hf⟩ := DataW.trod_struct Tryz.underlying38 ht
  injection hx with hx _
  subst hx
  rw [cellsEv] at hlen
  have h0 : DataW.trod enc Tryz.prog W base spare held n' 3 ((cs.drop 0).take (Tryz.prog.cellsOf 3)) = ys[0]? := hf 0 _ rfl
  have h1 : DataW.trod enc Tryz.prog W base spare held n' 3 ((cs.drop 1).take (Tryz.prog.cellsOf 3)) = ys[1]? := hf 1 _ rfl
  have h2 : DataW.trod enc Tryz.prog W base spare held n' 3 ((cs.drop 2).take (Tryz.prog.cellsOf 3)) = ys[2]? := hf 2 _ rfl
  have h3 : DataW.trod enc Tryz.prog W base spare held n' 3 ((cs.drop 3).take (Tryz.prog.cellsOf 3)) = ys[3]? := hf 3 _ rfl
  have h4 : DataW.trod enc Tryz.prog W base spare held n' 36 ((cs.drop 4).take (Tryz.prog.cellsOf 36)) = ys[4]? := hf 4 _ rfl
  rw [cellsInt] at h0 h1 h2 h3
  rw [cellsAsgs] at h4
  obtain ⟨c0, c1, c2, c3, c4, rfl⟩ := five_of hlen
  obtain ⟨y0, y1, y2, y3, y4, rfl⟩ := five_of hyl
  obtain ⟨k0, rfl⟩ := trod_int_at (show DataW.trod enc Tryz.prog W base spare held n' 3 [c0] = some y0 from h0)
  obtain ⟨k1, rfl⟩ := trod_int_at (show DataW.trod enc Tryz.prog W base spare held n' 3 [c1] = some y1 from h1)
  obtain ⟨k2, rfl⟩ := trod_int_at (show DataW.trod enc Tryz.prog W base spare held n' 3 [c2] = some y2 from h2)
  obtain ⟨k3, rfl⟩ := trod_int_at (show DataW.trod enc Tryz.prog W base spare held n' 3 [c3] = some y3 from h3)
  have hw4 : WOk Tryz.prog 36 y4.1 := hw.field Tryz.underlying38 (j := 4) (d := y4.1) rfl rfl
  obtain ⟨A, l, c, rfl, hc, hr⟩ := open_asgs (show DataW.trod enc Tryz.prog W base spare held n' 36 [c4] = some (y4.1, y4.2) from h4) hw4
  exact ⟨⟨k0, k1, k2, k3, l⟩, A, c, hcs 0 (by omega), hcs 1 (by omega), hcs 2 (by omega), hcs 3 (by omega), hcs 4 (by omega), hr, hc⟩
theorem open_evs {fuel : Nat} {v : Value} {d : DataW H} {pl : List MemPlace} (h : DataW.trod enc Tryz.prog W base spare held fuel 33 [v] = some (d, pl)) (hw : WOk Tryz.prog 33 d) :
    ∃ (A : Option Addr) (l : List Ev) (c : Nat), v = .slice A l.length c ∧ l.length ≤ c ∧ l.length ≤ reachBytes ∧ EvsC W A l := by
  obtain ⟨A, l, c, e, hc, hb, hr⟩ := list_of (α := Ev) (k := 5) (fun b o y => EvC W b o y) Tryz.underlying33 cellsEv (by omega)
    (fun n cs x q b o ht hx _ hcs => open_ev ht hx hcs) h hw
  refine ⟨A, l, c, e, hc, Nat.le_trans (Nat.le_mul_of_pos_right _ bytesEv) hb, fun i e hi => ?_⟩
  rcases hr with rfl | ⟨b, o, hA, hb, hr⟩
  · simp at hi
  · exact ⟨b, o, hA, hb, hr i e hi⟩
theorem open_pr {n : Nat} {cs : List Value} {x : DataW H} {q : List MemPlace} {b o : Nat} (ht : DataW.trod enc Tryz.prog W base spare held n 35 cs = some (x, q)) (hw : WOk Tryz.prog 35 x) (hcs : ∀ j, j < 3 → W.cell? ⟨b, o + j, none⟩ = cs[j]?) : ∃ y, PrC W b o y ∧ y.evs.length ≤ reachBytes := by
  obtain ⟨ys, n', -, hx, hlen, hyl, hf⟩ := DataW.trod_struct Tryz.underlying35 ht
  injection hx with hx _
  subst hx
  rw [cellsPr] at hlen
  have h0 : DataW.trod enc Tryz.prog W base spare held n' 9 ((cs.drop 0).take (Tryz.prog.cellsOf 9)) = ys[0]? := hf 0 _ rfl
  have h1 : DataW.trod enc Tryz.prog W base spare held n' 32 ((cs.drop 1).take (Tryz.prog.cellsOf 32)) = ys[1]? := hf 1 _ rfl
  have h2 : DataW.trod enc Tryz.prog W base spare held n' 33 ((cs.drop 2).take (Tryz.prog.cellsOf 33)) = ys[2]? := hf 2 _ rfl
  rw [cellsStr] at h0
  rw [cellsVars] at h1
  rw [cellsEvs] at h2
  obtain ⟨c0, c1, c2, rfl⟩ := three_of hlen
  obtain ⟨y0, y1, y2, rfl⟩ := three_of hyl
  obtain ⟨s, rfl⟩ := trod_str_at (show DataW.trod enc Tryz.prog W base spare held n' 9 [c0] = some y0 from h0)
  have hw1 : WOk Tryz.prog 32 y1.1 := hw.field Tryz.underlying35 (j := 1) (d := y1.1) rfl rfl
  have hw2 : WOk Tryz.prog 33 y2.1 := hw.field Tryz.underlying35 (j := 2) (d := y2.1) rfl rfl
  obtain ⟨A, l, c, rfl, hc, hr⟩ := open_vars (show DataW.trod enc Tryz.prog W base spare held n' 32 [c1] = some (y1.1, y1.2) from h1) hw1
  obtain ⟨E, es, ec, rfl, hec, heb, her⟩ := open_evs (show DataW.trod enc Tryz.prog W base spare held n' 33 [c2] = some (y2.1, y2.2) from h2) hw2
  exact ⟨⟨s, l, es⟩, ⟨A, c, E, ec, hcs 0 (by omega), hcs 1 (by omega), hcs 2 (by omega), ⟨hr, hc, hec⟩, her⟩, heb⟩
set_option maxRecDepth 100000 in
/-- a trace -/
theorem open_trace {r : Reach} {b0 : Nat} {v : Value} {d : DataW H} {p : List MemPlace} (hv : Value.okWide Tryz.prog W r b0 24 v) (h : DataW.Trod enc Tryz.prog W base spare held 24 v d p) (hw : WOk Tryz.prog 24 d) :
    ∃ (A : Option Addr) (t : List Pr) (c : Nat), v = .agg #[.slice A t.length c] ∧ TcC W A t ∧ t.length ≤ c ∧ t.length ≤ reachBytes ∧ ∀ x, x ∈ t → x.evs.length ≤ reachBytes := by
  obtain ⟨fuel, hf⟩ := h
  obtain ⟨cs, rfl, -⟩ := okWide_struct Tryz.underlying24 hv
  obtain ⟨ys, n', -, hx, hlen, hyl, hg⟩ := DataW.trod_struct Tryz.underlying24 hf
  injection hx with hx _
  subst hx
  have h0 : DataW.trod enc Tryz.prog W base spare held n' 22 ((cs.toList.drop 0).take (Tryz.prog.cellsOf 22)) = ys[0]? := hg 0 _ rfl
  rw [show Tryz.prog.cellsOf 24 = 1 by kernel_rfl] at hlen
  rw [cellsPrs] at h0
  obtain ⟨c0, hc0⟩ : ∃ c0, cs = #[c0] := by
    obtain ⟨l⟩ := cs
    match l, hlen with
    | [a], _ => exact ⟨a, rfl⟩
  subst hc0
  obtain ⟨y0, rfl⟩ : ∃ y, ys = [y] := by
    match ys, hyl with
    | [a], _ => exact ⟨a, rfl⟩
  have hw0 : WOk Tryz.prog 22 y0.1 := hw.field Tryz.underlying24 (j := 0) (d := y0.1) rfl rfl
  obtain ⟨A, l, c, rfl, hc, hb, hr⟩ := list_of (α := Pr) (k := 3) (fun b o y => PrC W b o y ∧ y.evs.length ≤ reachBytes) Tryz.underlying22 cellsPr (by omega)
    (fun n cs x q b o ht hx _ hcs => open_pr ht hx hcs) (show DataW.trod enc Tryz.prog W base spare held n' 22 [c0] = some (y0.1, y0.2) from h0) hw0
  refine ⟨A, l, c, rfl, fun i e hi => ?_, hc, Nat.le_trans (Nat.le_mul_of_pos_right _ bytesPr) hb, fun x hx => ?_⟩
  · rcases hr with rfl | ⟨b, o, hA, hb, hr⟩
    · simp at hi
    · exact ⟨b, o, hA, hb, (hr i e hi).1⟩
  · rcases hr with rfl | ⟨b, o, hA, hb, hr⟩
    · exact absurd hx List.not_mem_nil
    · obtain ⟨i, hi⟩ := List.mem_iff_getElem?.1 hx
      exact (hr i x hi).2
set_option maxRecDepth 100000 in
/-- a name of an event -/
theorem open_id {r : Reach} {b0 : Nat} {v : Value} {d : DataW H} {p : List MemPlace} (hv : Value.okWide Tryz.prog W r b0 40 v) (h : DataW.Trod enc Tryz.prog W base spare held 40 v d p) :
    ∃ x y : Int, v = .agg #[.int .i64 x, .int .i64 y] := by
  obtain ⟨fuel, hf⟩ := h
  obtain ⟨cs, rfl, -⟩ := okWide_struct Tryz.underlying40 hv
  obtain ⟨ys, n', -, -, hlen, hyl, hg⟩ := DataW.trod_struct Tryz.underlying40 hf
  have h0 : DataW.trod enc Tryz.prog W base spare held n' 3 ((cs.toList.drop 0).take (Tryz.prog.cellsOf 3)) = ys[0]? := hg 0 _ rfl
  have h1 : DataW.trod enc Tryz.prog W base spare held n' 3 ((cs.toList.drop 1).take (Tryz.prog.cellsOf 3)) = ys[1]? := hg 1 _ rfl
  rw [show Tryz.prog.cellsOf 40 = 2 by kernel_rfl] at hlen
  rw [cellsInt] at h0 h1
  obtain ⟨c0, c1, hc0⟩ : ∃ c0 c1, cs = #[c0, c1] := by
    obtain ⟨l⟩ := cs
    match l, hlen with
    | [a, b], _ => exact ⟨a, b, rfl⟩
  subst hc0
  obtain ⟨y0, y1, rfl⟩ := two_of hyl
  obtain ⟨i, rfl⟩ := trod_int_at (show DataW.trod enc Tryz.prog W base spare held n' 3 [c0] = some y0 from h0)
  obtain ⟨j, rfl⟩ := trod_int_at (show DataW.trod enc Tryz.prog W base spare held n' 3 [c1] = some y1 from h1)
  exact ⟨i, j, rfl⟩
end
end
section
open Go.ChangeShapes Go.WideShapes Go.ChangeAt Go.RowKit Go.Deep Go.Joins Go.WideElems
section
variable {H : Type} {enc : TypeId × Value → H} {P : Program}
/-- the last step of a row where all old memory is as it was -/
theorem post_below {f : Func} {s : ChangeSpec} {apart fresh handsOn again : Bool} {W W' : World} {args : Array Value} {v : Value} {ds gs : List (DataW H)} {before pa pv : List MemPlace}
    (hW : DataW.Whole enc P f.params.toList s.vars apart W args.toList ds gs before)
    (hres : ∀ (b : Nat) (sp : Nat → Bool) (hd : Bool), DataW.TrodAll enc P W' b sp hd f.resultTypes.toList (v.resultList f.resultTypes.size) (s.fn H (ds ++ gs)).results [])
    (hargs : ∀ sp : Nat → Bool, (∀ p ∈ before, sp p.block = true) → DataW.TrodAll enc P W' 0 sp true f.params.toList args.toList (s.fn H (ds ++ gs)).args pa)
    (hvars : ∀ sp : Nat → Bool, (∀ p ∈ before, sp p.block = true) → DataW.TrodVars enc P W' sp s.vars (s.fn H (ds ++ gs)).vars pv)
    (hps : before = pa ++ pv) (hb : Below W.heap.size W W')
    (hok : ∀ (j : Nat) (t : TypeId) (r : Value), f.resultTypes[j]? = some t → (v.resultList f.resultTypes.size)[j]? = some r → Value.okWide P W' .any 0 t r) :
    s.post enc P f apart fresh handsOn again W args v W' := by
  have hlt : ∀ p ∈ before, p.block < W.heap.size := fun p hp => hW.lt p hp
  have hold : ∀ p ∈ before, (fun b => decide (b < W.heap.size)) p.block = true := fun p hp => by simpa using hlt p hp
  refine ⟨ds, gs, before, [], pa, pv, hW, hres _ _ _, hargs _ hold, hvars _ hold, World.keptBut_mono (fun p hp => ⟨hp, ?_⟩) (hb.frame (· ∈ before)), fun _ => ?_⟩
  · rw [hps, List.mem_append] at hp
    exact Or.inr hp
  · obtain ⟨_, _, _, _, _, hz, hn⟩ := hW
    refine ⟨hok, _, _, ([] ++ pa) ++ pv, ⟨[] ++ pa, pv, trodAll_append (hargs _ (fun _ _ => rfl)) (hres _ _ _), hvars _ (fun _ _ => rfl), rfl, ?_, ?_⟩, ?_⟩
    · intro b off hp
      have hin : MemPlace.cell b off ∈ before := by rw [hps]; simpa using hp
      rw [hb.frozen (hlt _ hin)]
      exact hz b off hin
    · intro ha
      have := hn ha
      rw [hps] at this
      simpa using this
    · intro p hp _
      rw [hps]
      simpa using hp
end
theorem own : ownKnob Tryz.prog.godebug = none := by kernel_rfl
theorem readT : Tryz.prog.readableRec 24 = true := by kernel_rfl
theorem readE : Tryz.prog.readableRec 40 = true := by kernel_rfl
theorem rowT : 24 < Tryz.prog.types.size := of_decide_eq_true (by kernel_rfl)
theorem rowE : 40 < Tryz.prog.types.size := of_decide_eq_true (by kernel_rfl)
section
variable {H : Type} {enc : TypeId × Value → H}
theorem stays {t : TypeId} (hr : Tryz.prog.readableRec t = true) (hrow : t < Tryz.prog.types.size) {W W' : World} {v : Value} {d : DataW H} {ps : List MemPlace}
    (h : DataW.Trod enc Tryz.prog W 0 (fun _ => true) true t v d ps) (hb : Below W.heap.size W W') (hlt : ∀ x ∈ ps, x.block < W.heap.size) (sp : Nat → Bool) (hs : ∀ x ∈ ps, sp x.block = true) :
    DataW.Trod enc Tryz.prog W' 0 sp true t v d ps :=
  WideElems.Trod_stays idLaidOut hr hrow h (fun x hx => hb.same (hlt x hx)) hs
theorem wok_of {ts : List TypeId} {ds : List (DataW H)} (h : (DataW.weightsEach Tryz.prog ts ds).all (· ≤ reachBytes) = true) {j : Nat} {t : TypeId} {d : DataW H} (ht : ts[j]? = some t) (hd : ds[j]? = some d) : WOk Tryz.prog t d := fun n hn => by
  have := List.all_eq_true.1 h n (DataW.weights_mem_each ht hd n hn)
  simpa using this
theorem reach_le : reachBytes ≤ 281474976710656 := by decide
end
end
section
open Go.ChangeShapes Go.WideShapes Go.ChangeAt Go.RowKit Go.Deep Go.Joins Go.WideElems
/-- an input that fits, at a world that is written out and may hold pointers -/
theorem witness_row_shaped {H : Type} {enc : TypeId × Value → H} {C : Checked} {os : Os} {f : FuncId} {fn : Func} {s : OpenSpec} {conds : List PathCond} {apart : Bool} {laid : List (String × DataW Unit)} (modest : Bool) (w0 : World) (args : Array Value) (hos : w0.os = os)
    (hsh : (w0.forCall (fun _ _ => 0) ⟨#[], args, []⟩).Shaped C.prog)
    (hok : Input.okWideB C.prog (w0.forCall (fun _ _ => 0) ⟨#[], args, []⟩) f ⟨#[], args, []⟩ = true)
    (hrow : s.preRow enc C.prog fn conds apart laid (w0.forCall (fun _ _ => 0) ⟨#[], args, []⟩).memory args) :
    ∃ (w : World) (tape : Tape) (i : Input), w.os = os ∧ (w.forCall tape i).Shaped C.prog ∧ i.vars = [] ∧ Input.okWide C.prog (w.forCall tape i) .any w.heap.size f i ∧
      s.preRow enc C.prog fn conds apart laid (w.forCall tape i).memory i.args ∧ ({ modest := modest } : Assume).holds C.prog (lone (Frame.enter C.prog f i.args .normal) [] (w.forCall tape i)) :=
  ⟨w0, fun _ _ => 0, ⟨#[], args, []⟩, hos, hsh, (Input.okWide_of_okWideB (base := 0) hok).1, (Input.okWide_of_okWideB hok).2, hrow, by
    simp only [Assume.holds]
    exact ⟨by simp, by simp, fun _ => Modest.zero, by simp, by simp⟩⟩
theorem gErr : Tryz.prog.globalNamed "strconv.ErrRange" = some 5 := by kernel_rfl
theorem star : "*" ++ "errors.errorString" = "*errors.errorString" := by decide
theorem nameErr (u : TypeId) (h : Tryz.prog.typeName? 3 u = some "*errors.errorString") : u = 216 :=
  typeName_ptr_named (nm := "errors.errorString") (by rw [star]; kernel_rfl) (by kernel_rfl) (by decide) u (by rw [star]; exact h)
theorem gErrType : (Tryz.prog.globals[5]?).map (·.type) = some 80 := by kernel_rfl
theorem cellsErr : Tryz.prog.cellsOf 218 = 1 := by kernel_rfl
theorem gPowType : (Tryz.prog.globals[3]?).map (·.type) = some 205 := by kernel_rfl
theorem cellsPow : Tryz.prog.cellsOf 205 = 20 := by kernel_rfl
theorem cellsU64 : Tryz.prog.cellsOf 184 = 1 := by kernel_rfl
theorem env_of {W : World} (hH : laidMetH Tryz.prog Rows.tracetextBackRow.laid W) (hS : W.ShapedOpen Tryz.prog) : Env W := by
  rw [MakeChecks.laidMetH_plain _ _ _ (by kernel_rfl)] at hH
  unfold Rows.tracetextBackRow at hH
  have h3 := hH.tail.tail
  have ht : Lib.TabIs Tryz.prog W "internal/strconv.uint64pow10" .u64 Lib.pow10Tab :=
    Lib.tabIs_of_head gPow gPowType Tryz.underlying205 Tryz.underlying184 cellsU64 cellsPow h3
  have h5 := h3.tail.tail
  obtain ⟨a1, s1, hv1, -, -, -⟩ := laid_sentinel h5 gErr gErrType Tryz.underlying80 nameErr Tryz.underlying216 Tryz.underlying218 rfl rfl Tryz.underlying9 cellsErr cellsStr
  have h0 := World.var?_cell gErr hv1 0
  have h1 : W.cell? ⟨5, 0, none⟩ = some (.iface 216 (.pointer (some a1))) := by simpa using h0
  obtain ⟨m, hm⟩ := Tryz.laysM219.s1_3 W hS
  have hm' : W.cell? ⟨0, 0, none⟩ = some (.int .i64 m) := hm
  exact ⟨⟨blk_lt h1, _, h1, Or.inr ⟨_, _, rfl⟩⟩, ⟨blk_lt (ht.cell gPow 0 (by decide)), ht⟩, ⟨blk_lt hm', m, hm'⟩⟩
/-- a world for the witness -/
noncomputable def laidWorld (os : Os) : World := World.laidAll Tryz.prog os Rows.tracetextBackRow.laid
theorem readS : Tryz.prog.readableRec 9 = true := by kernel_rfl
theorem rowS : 9 < Tryz.prog.types.size := of_decide_eq_true (by kernel_rfl)
end
end Go.Proofs.YtpmponafjhnegaaGreatDoor
