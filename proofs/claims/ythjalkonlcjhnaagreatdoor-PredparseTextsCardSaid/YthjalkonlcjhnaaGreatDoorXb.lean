/-
  Trees that come in as arguments, opened.
  Conditions: none.
-/
import Derived.Test.YthjalkonlcjhnaaGreatDoorXa
import Derived.Test.YthjalkonlcjhnaaGreatDoorTa
import Derived.Test.YthjalkonlcjhnaaGreatDoorRb
import Derived.Deep.Slices
import Derived.Deep.Fields
namespace Go.Proofs.YthjalkonlcjhnaaGreatDoor
open Go.ChangeShapes Go.WideShapes Go.ChangeAt Go.RowKit Go.Deep Go.Joins Go.WideElems
theorem cellsPred : Tryz.prog.cellsOf 24 = 6 := by kernel_rfl
theorem cellsPreds : Tryz.prog.cellsOf 22 = 1 := by kernel_rfl
theorem six_of {α : Type} : ∀ {l : List α}, l.length = 6 → ∃ a b c d e f, l = [a, b, c, d, e, f]
  | [a, b, c, d, e, f], _ => ⟨a, b, c, d, e, f, rfl⟩
theorem spot_none {w : World} {a : Addr} {u : Value} (h : w.cell? a = some u) : a.spot = none := by
  unfold World.cell? at h
  split at h
  · cases hs : a.spot with
    | none => rfl
    | some x => rw [hs] at h; simp at h
  · cases h
theorem add_plain (b off j : Nat) : (⟨b, off, none⟩ : Addr).add j = ⟨b, off + j, none⟩ := by
  unfold Addr.add
  split
  · rename_i h; rw [h]; rfl
  · rfl
instance : Inhabited (Tr × List Value) := ⟨⟨default, []⟩⟩
theorem flat_len : ∀ (css : List (List Value)), (∀ x ∈ css, x.length = 6) → css.flatten.length = css.length * 6
  | [], _ => rfl
  | y :: l, h => by
    rw [List.flatten_cons, List.length_append, h y (List.mem_cons_self ..), flat_len l (fun x hx => h x (List.mem_cons_of_mem _ hx)), List.length_cons]
    omega
section
variable {H : Type} {enc : TypeId × Value → H}
/-- what an opened tree is -/
def TreeIn (W : World) (cs : List Value) (t : Tr) : Prop := TrC (fun _ => True) W t cs ∧ NmOk t ∧ LnOk t
theorem open_pred {W : World} {base : Nat} {spare : Nat → Bool} {held : Bool} : ∀ (fuel : Nat) (cs : List Value) (x : DataW H × List MemPlace), DataW.trod enc Tryz.prog W base spare held fuel 24 cs = some x → ∃ t, TreeIn W cs t := by
  intro fuel
  induction fuel using Nat.strongRecOn with
  | ind fuel ih =>
    intro cs x h
    obtain ⟨ys, n1, hn1, -, hlen, hyl, hf⟩ := DataW.trod_struct Tryz.underlying24 h
    rw [cellsPred] at hlen
    have h0 : DataW.trod enc Tryz.prog W base spare held n1 3 ((cs.drop 0).take (Tryz.prog.cellsOf 3)) = ys[0]? := hf 0 _ rfl
    have h1 : DataW.trod enc Tryz.prog W base spare held n1 3 ((cs.drop 1).take (Tryz.prog.cellsOf 3)) = ys[1]? := hf 1 _ rfl
    have h2 : DataW.trod enc Tryz.prog W base spare held n1 3 ((cs.drop 2).take (Tryz.prog.cellsOf 3)) = ys[2]? := hf 2 _ rfl
    have h3 : DataW.trod enc Tryz.prog W base spare held n1 3 ((cs.drop 3).take (Tryz.prog.cellsOf 3)) = ys[3]? := hf 3 _ rfl
    have h4 : DataW.trod enc Tryz.prog W base spare held n1 9 ((cs.drop 4).take (Tryz.prog.cellsOf 9)) = ys[4]? := hf 4 _ rfl
    have h5 : DataW.trod enc Tryz.prog W base spare held n1 22 ((cs.drop 5).take (Tryz.prog.cellsOf 22)) = ys[5]? := hf 5 _ rfl
    rw [cells3] at h0 h1 h2 h3
    rw [cells9] at h4
    rw [cellsPreds] at h5
    obtain ⟨c0, c1, c2, c3, c4, c5, rfl⟩ := six_of hlen
    obtain ⟨y0, y1, y2, y3, y4, y5, rfl⟩ := six_of hyl
    obtain ⟨k, e0, -⟩ := DataW.trod_int Tryz.underlying3 (show DataW.trod enc Tryz.prog W base spare held n1 3 [c0] = some y0 from h0)
    obtain ⟨n, e1, -⟩ := DataW.trod_int Tryz.underlying3 (show DataW.trod enc Tryz.prog W base spare held n1 3 [c1] = some y1 from h1)
    obtain ⟨p, e2, -⟩ := DataW.trod_int Tryz.underlying3 (show DataW.trod enc Tryz.prog W base spare held n1 3 [c2] = some y2 from h2)
    obtain ⟨q, e3, -⟩ := DataW.trod_int Tryz.underlying3 (show DataW.trod enc Tryz.prog W base spare held n1 3 [c3] = some y3 from h3)
    obtain ⟨s, e4, -, hs⟩ := DataW.trod_string Tryz.underlying9 (show DataW.trod enc Tryz.prog W base spare held n1 9 [c4] = some y4 from h4)
    injection e0 with e0 _
    injection e1 with e1 _
    injection e2 with e2 _
    injection e3 with e3 _
    injection e4 with e4 _
    subst e0 e1 e2 e3 e4
    rcases DataW.trod_slice Tryz.underlying22 (show DataW.trod enc Tryz.prog W base spare held n1 22 [c5] = some y5 from h5) with ⟨e5, -⟩ | ⟨a, len, cap, elems, rest, n2, hn2, e5, -, hb, hlc, hcm, hel, hx, -, -⟩
    · injection e5 with e5 _
      subst e5
      exact ⟨.node k n p q s [], .leaf k n p q s none 0, .node _ _ _ _ _ _ hs (fun x hx => by cases hx), .node _ _ _ _ _ _ (by simp) (fun x hx => by cases hx)⟩
    · injection e5 with e5 _
      subst e5
      cases len with
      | zero => exact ⟨.node k n p q s [], .leaf k n p q s (some a) cap, .node _ _ _ _ _ _ hs (fun x hx => by cases hx), .node _ _ _ _ _ _ (by simp) (fun x hx => by cases hx)⟩
      | succ m =>
        have hkid : ∀ i, i < m + 1 → ∃ y : Tr × List Value, TreeIn W y.2 y.1 ∧ W.cells? base (a.add (i * 6)) 6 = some y.2 := fun i hi => by
          have hi2 := hx i hi
          rw [List.getElem?_eq_getElem (by omega), cellsPred] at hi2
          obtain ⟨cs', g1, g2⟩ := Option.bind_eq_some_iff.1 hi2
          obtain ⟨t, ht⟩ := ih n2 (by omega) cs' _ g2
          exact ⟨(t, cs'), ht, g1⟩
        obtain ⟨f, hfx⟩ := choose_lt (n := m + 1) (p := fun i (y : Tr × List Value) => TreeIn W y.2 y.1 ∧ W.cells? base (a.add (i * 6)) 6 = some y.2) hkid
        have hcell : ∀ i, i < m + 1 → ∀ j u, (f i).2[j]? = some u → W.cell? (a.add (i * 6 + j)) = some u := fun i hi j u hj => by
          obtain ⟨_, hl6, hat⟩ := World.cells?_some (hfx i hi).2
          have hj6 : j < 6 := by rw [← (hfx i hi).1.1.len]; exact (List.getElem?_eq_some_iff.1 hj).1
          rw [← add_add, hat j hj6, hj]
        have h6 : ∀ i, i < m + 1 → (f i).2.length = 6 := fun i hi => (hfx i hi).1.1.len
        obtain ⟨u0, hu0⟩ : ∃ u, (f 0).2[0]? = some u := ⟨_, List.getElem?_eq_getElem (by rw [h6 0 (by omega)]; omega)⟩
        have h00 := hcell 0 (by omega) 0 u0 hu0
        have hsp := spot_none h00
        have hsp' : a.spot = none := by
          have e : (a.add (0 * 6 + 0)) = a := by unfold Addr.add; simp
          rw [e] at hsp; exact hsp
        obtain ⟨b, o, sp⟩ := a
        have hsp2 : sp = none := hsp'
        subst hsp2
        have hcs6 : ∀ cs ∈ (List.range (m + 1)).map (fun i => (f i).2), cs.length = 6 := fun cs hcs => by
          obtain ⟨i, hi, rfl⟩ := List.mem_map.1 hcs
          exact h6 i (by simpa using hi)
        have hget : ∀ (i : Nat) (t : Tr), ((List.range (m + 1)).map (fun i => (f i).1))[i]? = some t → i < m + 1 ∧ t = (f i).1 := fun i t ht => by
          rw [List.getElem?_map] at ht
          by_cases hi : i < m + 1
          · rw [List.getElem?_range hi] at ht
            injection ht with ht
            exact ⟨hi, ht.symm⟩
          · rw [List.getElem?_eq_none (by simp; omega)] at ht
            cases ht
        refine ⟨.node k n p q s ((List.range (m + 1)).map (fun i => (f i).1)), ?_, .node _ _ _ _ _ _ hs (fun x hx => ?_), .node _ _ _ _ _ _ (by simp; omega) (fun x hx => ?_)⟩
        · have hlen2 : ((List.range (m + 1)).map (fun i => (f i).1)).length = m + 1 := by simp
          have := TrC.node (Q := fun _ => True) (w := W) k n p q s ((List.range (m + 1)).map (fun i => (f i).1)) b o cap ((List.range (m + 1)).map (fun i => (f i).2)) trivial (by simp) hcs6 ⟨?_, fun j u hj => ?_⟩ (fun i t cs ht hcs => ?_)
          · rw [hlen2] at this
            exact this
          · have h01 := blk_lt h00
            rw [add_plain] at h01
            exact h01
          · have hjl := (List.getElem?_eq_some_iff.1 hj).1
            rw [flat_len _ hcs6] at hjl
            simp at hjl
            have hi : j / 6 < m + 1 := by omega
            have hc : ((List.range (m + 1)).map (fun i => (f i).2))[j / 6]? = some (f (j / 6)).2 := by rw [List.getElem?_map, List.getElem?_range hi]; rfl
            have hfl := flat6 _ (j / 6) _ (j % 6) hcs6 hc (by omega)
            rw [show j / 6 * 6 + j % 6 = j by omega, hj] at hfl
            have h7 := hcell (j / 6) hi (j % 6) u hfl.symm
            rw [add_plain, show j / 6 * 6 + j % 6 = j by omega] at h7
            exact h7
          · obtain ⟨hi, rfl⟩ := hget i t ht
            rw [List.getElem?_map, List.getElem?_range hi] at hcs
            injection hcs with hcs
            rw [← hcs]
            exact (hfx i hi).1.1
        · obtain ⟨i, hi, rfl⟩ := List.mem_map.1 hx
          exact (hfx i (by simpa using hi)).1.2.1
        · obtain ⟨i, hi, rfl⟩ := List.mem_map.1 hx
          exact (hfx i (by simpa using hi)).1.2.2
set_option maxRecDepth 100000 in
theorem open_tree {W : World} {r : Reach} {b0 : Nat} {v : Value} {d : DataW H} {p : List MemPlace} (hv : Value.okWide Tryz.prog W r b0 24 v) (h : DataW.Trod enc Tryz.prog W 0 (fun _ => true) true 24 v d p) :
    ∃ (t : Tr) (k n p q : Int) (s : ByteArray) (A : Option Addr) (m c : Nat), v = .agg #[.int .i64 k, .int .i64 n, .int .i64 p, .int .i64 q, .string s, .slice A m c] ∧ TreeIn W (c6 k n p q s A m c) t := by
  obtain ⟨fuel, hf⟩ := h
  obtain ⟨cs, rfl, -⟩ := okWide_struct Tryz.underlying24 hv
  obtain ⟨t, ht⟩ := open_pred fuel _ _ hf
  obtain ⟨k, n, p, q, s, A, m, c, e⟩ := ht.1.last
  have e2 : cs.toList = c6 k n p q s A m c := e
  refine ⟨t, k, n, p, q, s, A, m, c, ?_, by rw [← e]; exact ht⟩
  congr 1
  apply Array.toList_inj.1
  rw [e2]
end
end Go.Proofs.YthjalkonlcjhnaaGreatDoor
