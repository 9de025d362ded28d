/-
  Words that come in as an argument, opened.
  Conditions: none.
-/
import Derived.Test.YtlkebnobcfffeaaDoorXa
import Derived.Test.YtlkebnobcfffeaaDoorPv
import Derived.Deep.Slices
import Derived.Deep.Fields
namespace Go.Proofs.YtlkebnobcfffeaaDoor
open Go.ChangeShapes Go.WideShapes Go.ChangeAt Go.RowKit Go.Deep Go.Joins Go.WideElems
theorem cells36 : Tryd.prog.cellsOf 36 = 4 := by kernel_rfl
theorem cells25 : Tryd.prog.cellsOf 25 = 2 := by kernel_rfl
instance : Inhabited Gw := ⟨⟨0, ⟨#[]⟩, 0, 0⟩⟩
theorem gws_len : ∀ l : List Gw, (gwsV l).length = l.length * 4
  | [] => rfl
  | x :: l => by
    show (gwVs x ++ gwsV l).length = _
    rw [List.length_append, gws_len l, List.length_cons]
    show 4 + _ = _
    omega
theorem row_of {w : World} {b o : Nat} {l : List Gw} (hb : b < w.heap.size)
    (h : ∀ k x, l[k]? = some x → w.cell? ⟨b, o + k * 4, none⟩ = some (.int .i64 x.kind) ∧ w.cell? ⟨b, o + k * 4 + 1, none⟩ = some (.string x.text) ∧ w.cell? ⟨b, o + k * 4 + 2, none⟩ = some (.int .i64 x.a) ∧ w.cell? ⟨b, o + k * 4 + 3, none⟩ = some (.int .i64 x.b)) : Row w b o (gwsV l) := by
  refine ⟨hb, fun j u hj => ?_⟩
  have hjl : j < (gwsV l).length := (List.getElem?_eq_some_iff.1 hj).1
  have hlen : (gwsV l).length = l.length * 4 := gws_len l
  have hk : j / 4 < l.length := by omega
  obtain ⟨x, hx⟩ : ∃ x, l[j / 4]? = some x := ⟨_, List.getElem?_eq_getElem hk⟩
  have hg := gws_get l (j / 4) x hx (j % 4) (by omega)
  rw [show j / 4 * 4 + j % 4 = j by omega, hj] at hg
  obtain ⟨h0, h1, h2, h3⟩ := h _ _ hx
  have hr : j % 4 = 0 ∨ j % 4 = 1 ∨ j % 4 = 2 ∨ j % 4 = 3 := by omega
  rcases hr with hr | hr | hr | hr
  · rw [hr] at hg
    rw [show u = Value.int .i64 x.kind from Option.some.inj hg, show o + j = o + j / 4 * 4 by omega]; exact h0
  · rw [hr] at hg
    rw [show u = Value.string x.text from Option.some.inj hg, show o + j = o + j / 4 * 4 + 1 by omega]; exact h1
  · rw [hr] at hg
    rw [show u = Value.int .i64 x.a from Option.some.inj hg, show o + j = o + j / 4 * 4 + 2 by omega]; exact h2
  · rw [hr] at hg
    rw [show u = Value.int .i64 x.b from Option.some.inj hg, show o + j = o + j / 4 * 4 + 3 by omega]; exact h3
theorem four_of {α : Type} : ∀ {l : List α}, l.length = 4 → ∃ a b c d, l = [a, b, c, d]
  | [a, b, c, d], _ => ⟨a, b, c, d, rfl⟩
theorem three_of {α : Type} : ∀ {l : List α}, l.length = 3 → ∃ a b c, l = [a, b, c]
  | [a, b, c], _ => ⟨a, b, c, rfl⟩
theorem two_of {α : Type} : ∀ {l : List α}, l.length = 2 → ∃ a b, l = [a, b]
  | [a, b], _ => ⟨a, b, rfl⟩
section
variable {H : Type} {enc : TypeId × Value → H}
theorem open_word {W : World} {base : Nat} {spare : Nat → Bool} {held : Bool} {n : Nat} {cs : List Value} {x : DataW H × List MemPlace} (h : DataW.trod enc Tryd.prog W base spare held n 36 cs = some x) :
    ∃ y : Gw, cs = gwVs y := by
  obtain ⟨ys, n', -, -, hlen, hyl, hf⟩ := DataW.trod_struct Tryd.underlying36 h
  rw [cells36] at hlen
  have h0 : DataW.trod enc Tryd.prog W base spare held n' 3 ((cs.drop 0).take (Tryd.prog.cellsOf 3)) = ys[0]? := hf 0 _ rfl
  have h1 : DataW.trod enc Tryd.prog W base spare held n' 9 ((cs.drop 1).take (Tryd.prog.cellsOf 9)) = ys[1]? := hf 1 _ rfl
  have h2 : DataW.trod enc Tryd.prog W base spare held n' 25 ((cs.drop 2).take (Tryd.prog.cellsOf 25)) = ys[2]? := hf 2 _ rfl
  rw [cells3] at h0
  rw [cells9] at h1
  rw [cells25] at h2
  obtain ⟨c0, c1, c2, c3, rfl⟩ := four_of hlen
  obtain ⟨y0, y1, y2, rfl⟩ := three_of hyl
  obtain ⟨k, e0, -⟩ := DataW.trod_int Tryd.underlying3 (show DataW.trod enc Tryd.prog W base spare held n' 3 [c0] = some y0 from h0)
  obtain ⟨s, e1, -⟩ := DataW.trod_string Tryd.underlying9 (show DataW.trod enc Tryd.prog W base spare held n' 9 [c1] = some y1 from h1)
  obtain ⟨zs, n2, -, -, -, hzl, hg⟩ := DataW.trod_struct Tryd.underlying25 (show DataW.trod enc Tryd.prog W base spare held n' 25 [c2, c3] = some y2 from h2)
  have g0 : DataW.trod enc Tryd.prog W base spare held n2 3 (([c2, c3].drop 0).take (Tryd.prog.cellsOf 3)) = zs[0]? := hg 0 _ rfl
  have g1 : DataW.trod enc Tryd.prog W base spare held n2 3 (([c2, c3].drop 1).take (Tryd.prog.cellsOf 3)) = zs[1]? := hg 1 _ rfl
  rw [cells3] at g0 g1
  obtain ⟨z0, z1, rfl⟩ := two_of hzl
  obtain ⟨a, e2, -⟩ := DataW.trod_int Tryd.underlying3 (show DataW.trod enc Tryd.prog W base spare held n2 3 [c2] = some z0 from g0)
  obtain ⟨b, e3, -⟩ := DataW.trod_int Tryd.underlying3 (show DataW.trod enc Tryd.prog W base spare held n2 3 [c3] = some z1 from g1)
  injection e0 with e0 _
  injection e1 with e1 _
  injection e2 with e2 _
  injection e3 with e3 _
  exact ⟨⟨k, s, a, b⟩, by rw [e0, e1, e2, e3]; rfl⟩
theorem spot_none {w : World} {a : Addr} {u : Value} (h : w.cell? a = some u) : a.spot = none := by
  unfold World.cell? at h
  split at h
  · cases hs : a.spot with
    | none => rfl
    | some x => rw [hs] at h; simp at h
  · cases h
theorem add_plain (b off j : Nat) : (⟨b, off, none⟩ : Addr).add j = ⟨b, off + j, none⟩ := by
  unfold Addr.add
  split
  · rename_i h; rw [h]; rfl
  · rfl
set_option maxRecDepth 100000 in
theorem open_words {W : World} {r : Reach} {b0 : Nat} {v : Value} {d : DataW H} {p : List MemPlace} (hv : Value.okWide Tryd.prog W r b0 23 v) (h : DataW.Trod enc Tryd.prog W 0 (fun _ => true) true 23 v d p) :
    (∃ A c, v = .slice A 0 c) ∨ ∃ (b o c n : Nat) (l : List Gw), v = .slice (some ⟨b, o, none⟩) (n + 1) c ∧ l.length = n + 1 ∧ n + 1 ≤ c ∧ Row W b o (gwsV l) := by
  obtain ⟨fuel, hf⟩ := h
  have hf' : DataW.trod enc Tryd.prog W 0 (fun _ => true) true fuel 23 [v] = some (d, p) := by
    obtain ⟨a, len, cap, rfl⟩ := okWide_slice Tryd.underlying23 hv
    exact hf
  rcases open_slice Tryd.underlying23 hf' with ⟨e, -⟩ | ⟨a, len, cap, m, n, D, Pl, e, -, hl, -, hmm, -, hi⟩
  · injection e with e
    exact .inl ⟨none, 0, e⟩
  · injection e with e
    cases len with
    | zero => exact .inl ⟨some a, cap, e⟩
    | succ k =>
      right
      have hk : k + 1 ≤ m := by rw [hmm]; split <;> omega
      obtain ⟨f, hfx⟩ := choose_lt (n := k + 1) (p := fun i (y : Gw) => ∀ j u, (gwVs y)[j]? = some u → W.cell? (a.add (i * 4 + j)) = some u) (fun i hik => by
        obtain ⟨cs', hc, ht⟩ := hi i (by omega)
        obtain ⟨y, rfl⟩ := open_word ht
        rw [cells36] at hc
        obtain ⟨_, _, hat⟩ := World.cells?_some hc
        refine ⟨y, fun j u hj => ?_⟩
        have hj4 : j < 4 := (List.getElem?_eq_some_iff.1 hj).1
        rw [← add_add, hat j hj4, hj])
      have h00 := hfx 0 (by omega) 0 _ rfl
      have hs := spot_none h00
      have hs' : a.spot = none := by
        have : (a.add (0 * 4 + 0)) = a := by unfold Addr.add; simp
        rw [this] at hs; exact hs
      obtain ⟨b, o, s⟩ := a
      have : s = none := hs'
      subst this
      refine ⟨b, o, cap, k, (List.range (k + 1)).map f, e, by simp, hl, row_of (by have := blk_lt h00; rw [add_plain] at this; exact this) fun i x hx => ?_⟩
      rw [List.getElem?_map] at hx
      have hik : i < k + 1 := by
        cases hr : (List.range (k + 1))[i]? with
        | none => rw [hr] at hx; cases hx
        | some q => exact by simpa using (List.getElem?_eq_some_iff.1 hr).1
      rw [List.getElem?_range hik] at hx
      injection hx with hx
      subst hx
      have hh := hfx i hik
      refine ⟨?_, ?_, ?_, ?_⟩
      · have := hh 0 _ rfl; rw [add_plain] at this; exact this
      · have := hh 1 _ rfl; rw [add_plain] at this; exact this
      · have := hh 2 _ rfl; rw [add_plain] at this; exact this
      · have := hh 3 _ rfl; rw [add_plain] at this; exact this
end
end Go.Proofs.YtlkebnobcfffeaaDoor
