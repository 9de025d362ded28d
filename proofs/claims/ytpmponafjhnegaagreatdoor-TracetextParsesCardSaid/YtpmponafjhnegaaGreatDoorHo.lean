/-
  Letters in memory; blocks through the rounds of a range over a function.
  Conditions: as each theorem says.
-/
import Derived.Test.YtpmponafjhnegaaGreatDoorYe
import Derived.Test.YtpmponafjhnegaaGreatDoorHm
import Derived.Test.YtpmponafjhnegaaGreatDoorYd
import Derived.BigQuiet
namespace Go.Proofs.YtpmponafjhnegaaGreatDoor
open Go.RowKit Go.Shelf
/-- the letters in memory -/
def ltC (f : Nat → (Nat × Nat) × (Nat × Nat)) : List Value := (List.range 200).flatMap fun m => [.int .i64 ((f m).1.1 : Nat), .int .i64 ((f m).1.2 : Nat), .int .i64 ((f m).2.1 : Nat), .int .i64 ((f m).2.2 : Nat)]
theorem flat4_get {α : Type} (a b c d : α → Value) : ∀ (l : List α) (i : Nat) (x : α), l[i]? = some x → (l.flatMap fun y => [a y, b y, c y, d y])[i * 4]? = some (a x) ∧ (l.flatMap fun y => [a y, b y, c y, d y])[i * 4 + 1]? = some (b x) ∧ (l.flatMap fun y => [a y, b y, c y, d y])[i * 4 + 2]? = some (c x) ∧ (l.flatMap fun y => [a y, b y, c y, d y])[i * 4 + 3]? = some (d x)
  | [], _, _, h => by simp at h
  | y :: l, 0, x, h => by
    simp only [List.getElem?_cons_zero, Option.some.injEq] at h
    subst h
    simp
  | y :: l, i + 1, x, h => by
    have := flat4_get a b c d l i x (by simpa using h)
    rw [show (i + 1) * 4 = i * 4 + 1 + 1 + 1 + 1 by omega]
    simpa using this
theorem ltC_get (f : Nat → (Nat × Nat) × (Nat × Nat)) {m : Nat} (h : m < 200) : (ltC f)[m * 4]? = some (.int .i64 ((f m).1.1 : Nat)) ∧ (ltC f)[m * 4 + 1]? = some (.int .i64 ((f m).1.2 : Nat)) ∧ (ltC f)[m * 4 + 2]? = some (.int .i64 ((f m).2.1 : Nat)) ∧ (ltC f)[m * 4 + 3]? = some (.int .i64 ((f m).2.2 : Nat)) :=
  flat4_get (fun m => .int .i64 ((f m).1.1 : Nat)) (fun m => .int .i64 ((f m).1.2 : Nat)) (fun m => .int .i64 ((f m).2.1 : Nat)) (fun m => .int .i64 ((f m).2.2 : Nat)) (List.range 200) m m (List.getElem?_range h)
theorem flat4_set {α : Type} (a b c d a' b' c' d' : α → Value) : ∀ (l : List α) (i : Nat), (∀ j x, l[j]? = some x → j ≠ i → a x = a' x ∧ b x = b' x ∧ c x = c' x ∧ d x = d' x) →
    (∀ x, l[i]? = some x → c x = c' x ∧ d x = d' x → ((l.flatMap fun y => [a y, b y, c y, d y]).set (i * 4) (a' x)).set (i * 4 + 1) (b' x) = l.flatMap fun y => [a' y, b' y, c' y, d' y]) ∧
    (∀ x, l[i]? = some x → a x = a' x ∧ b x = b' x → ((l.flatMap fun y => [a y, b y, c y, d y]).set (i * 4 + 2) (c' x)).set (i * 4 + 3) (d' x) = l.flatMap fun y => [a' y, b' y, c' y, d' y])
  | [], i, _ => ⟨fun x h => by simp at h, fun x h => by simp at h⟩
  | y :: l, 0, h => by
    have hl : (l.flatMap fun y => [a y, b y, c y, d y]) = l.flatMap fun y => [a' y, b' y, c' y, d' y] := by
      rw [List.flatMap_def, List.flatMap_def]
      congr 1
      apply List.map_congr_left
      intro x hx
      obtain ⟨j, hj⟩ := List.getElem?_of_mem hx
      obtain ⟨h1, h2, h3, h4⟩ := h (j + 1) x (by simpa using hj) (by omega)
      rw [h1, h2, h3, h4]
    constructor
    · intro x hx hcd
      simp only [List.getElem?_cons_zero, Option.some.injEq] at hx
      subst hx
      simp [hl, hcd.1, hcd.2]
    · intro x hx hab
      simp only [List.getElem?_cons_zero, Option.some.injEq] at hx
      subst hx
      simp [hl, hab.1, hab.2]
  | y :: l, i + 1, h => by
    have ih := flat4_set a b c d a' b' c' d' l i (fun j x hj hne => h (j + 1) x (by simpa using hj) (by omega))
    obtain ⟨h1, h2, h3, h4⟩ := h 0 y (by simp) (by omega)
    rw [show (i + 1) * 4 = i * 4 + 1 + 1 + 1 + 1 by omega]
    constructor
    · intro x hx hcd
      have := ih.1 x (by simpa using hx) hcd
      simp [h1, h2, h3, h4, this]
    · intro x hx hab
      have := ih.2 x (by simpa using hx) hab
      simp [h1, h2, h3, h4, this]
theorem ltC_set1 {f g : Nat → (Nat × Nat) × (Nat × Nat)} {m : Nat} (hm : m < 200) (h : ∀ j, j ≠ m → f j = g j) (h2 : (f m).2 = (g m).2) : ((ltC f).set (m * 4) (.int .i64 ((g m).1.1 : Nat))).set (m * 4 + 1) (.int .i64 ((g m).1.2 : Nat)) = ltC g := by
  refine (flat4_set (fun m => .int .i64 ((f m).1.1 : Nat)) (fun m => .int .i64 ((f m).1.2 : Nat)) (fun m => .int .i64 ((f m).2.1 : Nat)) (fun m => .int .i64 ((f m).2.2 : Nat)) (fun m => .int .i64 ((g m).1.1 : Nat)) (fun m => .int .i64 ((g m).1.2 : Nat)) (fun m => .int .i64 ((g m).2.1 : Nat)) (fun m => .int .i64 ((g m).2.2 : Nat)) (List.range 200) m (fun j x hj hne => ?_)).1 m (List.getElem?_range hm) ⟨by rw [h2], by rw [h2]⟩
  have hjx : x = j := by
    have hlt := (List.getElem?_eq_some_iff.1 hj).1
    rw [List.getElem?_range (by simpa using hlt)] at hj
    exact (Option.some.inj hj).symm
  rw [hjx, h j hne]
  exact ⟨rfl, rfl, rfl, rfl⟩
theorem ltC_set2 {f g : Nat → (Nat × Nat) × (Nat × Nat)} {m : Nat} (hm : m < 200) (h : ∀ j, j ≠ m → f j = g j) (h2 : (f m).1 = (g m).1) : ((ltC f).set (m * 4 + 2) (.int .i64 ((g m).2.1 : Nat))).set (m * 4 + 3) (.int .i64 ((g m).2.2 : Nat)) = ltC g := by
  refine (flat4_set (fun m => .int .i64 ((f m).1.1 : Nat)) (fun m => .int .i64 ((f m).1.2 : Nat)) (fun m => .int .i64 ((f m).2.1 : Nat)) (fun m => .int .i64 ((f m).2.2 : Nat)) (fun m => .int .i64 ((g m).1.1 : Nat)) (fun m => .int .i64 ((g m).1.2 : Nat)) (fun m => .int .i64 ((g m).2.1 : Nat)) (fun m => .int .i64 ((g m).2.2 : Nat)) (List.range 200) m (fun j x hj hne => ?_)).2 m (List.getElem?_range hm) ⟨by rw [h2], by rw [h2]⟩
  have hjx : x = j := by
    have hlt := (List.getElem?_eq_some_iff.1 hj).1
    rw [List.getElem?_range (by simpa using hlt)] at hj
    exact (Option.some.inj hj).symm
  rw [hjx, h j hne]
  exact ⟨rfl, rfl, rfl, rfl⟩
theorem ltC_zero : Tryz.zeroCells177 = (ltC fun _ => ((0, 0), (0, 0))).toArray := by kernel_rfl
theorem Blk.own {X Y : World} {B g ty : Nat} {cs : List Value} {row : Option Nat} (h : Blk X g ty cs) (hg : X.grownBy Y row) (hr : ∀ r, row = some r → B ≤ r ∧ ∃ o : Obj, X.heap[r]? = some o ∧ o.isCells = false) : Blk Y g ty cs :=
  h.grown hg fun e => by
    obtain ⟨-, _, h1, h2⟩ := hr g e.symm
    unfold Blk at h
    rw [h] at h1
    cases h1
    cases h2
theorem Ex.own {w X Y : World} {B : Nat} {row : Option Nat} (h : Ex w X) (hB : w.heap.size ≤ B) (hg : X.grownBy Y row) (hr : ∀ r, row = some r → B ≤ r ∧ ∃ o : Obj, X.heap[r]? = some o ∧ o.isCells = false) : Ex w Y :=
  h.grown hg fun k e => Nat.le_trans hB (hr k e).1
theorem Ex.keeps {W W' : World} (h : Ex W W') : KeepsOthers W W' := ⟨h.below.size, fun k _ hk _ => (h.below.block k (Array.getElem?_eq_some_iff.1 hk).1).trans hk⟩
theorem Blk.put {W : World} {D g ty : Nat} {cs : List Value} {l : Option (List Deferred)} (h : Blk W g ty cs) (hK : W.heap[D]? = some (.deferred l)) (o : Obj) : Blk (W.putObj D o) g ty cs :=
  h.own (B := 0) (grownBy_putObj' W D o) (fun r e => by cases e; exact ⟨Nat.zero_le _, _, hK, rfl⟩)
theorem Ex.put {w W : World} {D : Nat} (h : Ex w W) (hD : w.heap.size ≤ D) (o : Obj) : Ex w (W.putObj D o) :=
  h.grown (grownBy_putObj' W D o) fun k e => by cases e; exact hD
/-- what has come of the letters -/
def frmF {t : List Pr} {w : World} (xs : List (GItem t w)) : Nat → (Nat × Nat) × (Nat × Nat) := fun m => (frm xs 2 (m : Int), frm xs 3 (m : Int))
theorem frm_other {t : List Pr} {w : World} {xs : List (GItem t w)} {x : GItem t w} {k m : Int} (h : ¬ (x.1.e.kind = k ∧ x.1.e.msg = m)) : frm (xs ++ [x]) k m = frm xs k m := by
  rw [frm_snoc]
  split
  · rfl
  · rename_i h2
    exact (frm_none (fun z hz hh => h2 (frm_pos ⟨z, hz, hh⟩))).symm
theorem frm_new {t : List Pr} {w : World} {xs : List (GItem t w)} {x : GItem t w} {k m : Int} (h0 : ¬ 0 < (frm xs k m).2) (h : x.1.e.kind = k ∧ x.1.e.msg = m) : frm (xs ++ [x]) k m = (x.1.p, x.1.i + 1) := by
  rw [frm_snoc, if_neg h0, if_pos h]
/-- the three results are written -/
theorem msg_ret {w W : World} {u1 v1 : Value} {a b u2 : Value} {p i er : Value} (g1 : Blk W (w.heap.size + 1) 148 [u1]) (g2 : Blk W (w.heap.size + 1 + 1) 40 [a, b]) (g3 : Blk W (w.heap.size + 1 + 1 + 1) 27 [u2]) (gX : Ex w W) :
    Blk ((((W.setCell ⟨w.heap.size + 1, 0, none⟩ v1).setCell ⟨w.heap.size + 1 + 1, 0, none⟩ p).setCell ⟨w.heap.size + 1 + 1, 1, none⟩ i).setCell ⟨w.heap.size + 1 + 1 + 1, 0, none⟩ er) (w.heap.size + 1) 148 [v1] ∧
    Blk ((((W.setCell ⟨w.heap.size + 1, 0, none⟩ v1).setCell ⟨w.heap.size + 1 + 1, 0, none⟩ p).setCell ⟨w.heap.size + 1 + 1, 1, none⟩ i).setCell ⟨w.heap.size + 1 + 1 + 1, 0, none⟩ er) (w.heap.size + 1 + 1) 40 [p, i] ∧
    Blk ((((W.setCell ⟨w.heap.size + 1, 0, none⟩ v1).setCell ⟨w.heap.size + 1 + 1, 0, none⟩ p).setCell ⟨w.heap.size + 1 + 1, 1, none⟩ i).setCell ⟨w.heap.size + 1 + 1 + 1, 0, none⟩ er) (w.heap.size + 1 + 1 + 1) 27 [er] ∧
    Ex w ((((W.setCell ⟨w.heap.size + 1, 0, none⟩ v1).setCell ⟨w.heap.size + 1 + 1, 0, none⟩ p).setCell ⟨w.heap.size + 1 + 1, 1, none⟩ i).setCell ⟨w.heap.size + 1 + 1 + 1, 0, none⟩ er) ∧
    KeepsOthers W ((((W.setCell ⟨w.heap.size + 1, 0, none⟩ v1).setCell ⟨w.heap.size + 1 + 1, 0, none⟩ p).setCell ⟨w.heap.size + 1 + 1, 1, none⟩ i).setCell ⟨w.heap.size + 1 + 1 + 1, 0, none⟩ er) := by
  refine ⟨?_, ?_, ?_, ?_, ?_⟩
  · exact (((g1.set_ 0 v1).far (p := ⟨w.heap.size + 1 + 1, 0, none⟩) (by simp) p).far (p := ⟨w.heap.size + 1 + 1, 1, none⟩) (by simp) i).far (p := ⟨w.heap.size + 1 + 1 + 1, 0, none⟩) (by show _ ≠ w.heap.size + 1 + 1 + 1; omega) er
  · exact (((g2.far (p := ⟨w.heap.size + 1, 0, none⟩) (by show _ ≠ w.heap.size + 1; omega) v1).set_ 0 p).set_ 1 i).far (p := ⟨w.heap.size + 1 + 1 + 1, 0, none⟩) (by show _ ≠ w.heap.size + 1 + 1 + 1; omega) er
  · exact (((g3.far (p := ⟨w.heap.size + 1, 0, none⟩) (by show _ ≠ w.heap.size + 1; omega) v1).far (p := ⟨w.heap.size + 1 + 1, 0, none⟩) (by show _ ≠ w.heap.size + 1 + 1; omega) p).far (p := ⟨w.heap.size + 1 + 1, 1, none⟩) (by show _ ≠ w.heap.size + 1 + 1; omega) i).set_ 0 er
  · exact (((gX.setCell (p := ⟨w.heap.size + 1, 0, none⟩) (by show _ ≤ w.heap.size + 1; omega) v1).setCell (p := ⟨w.heap.size + 1 + 1, 0, none⟩) (by show _ ≤ w.heap.size + 1 + 1; omega) p).setCell (p := ⟨w.heap.size + 1 + 1, 1, none⟩) (by show _ ≤ w.heap.size + 1 + 1; omega) i).setCell (p := ⟨w.heap.size + 1 + 1 + 1, 0, none⟩) (by show _ ≤ w.heap.size + 1 + 1 + 1; omega) er
  · exact (((KeepsOthers.setCell W _ _).trans (KeepsOthers.setCell _ _ _)).trans (KeepsOthers.setCell _ _ _)).trans (KeepsOthers.setCell _ _ _)
/-- what messageFault hands back -/
def MsgR (t : List Pr) (w : World) (e : Ending) (w' : World) : Prop :=
  (∃ nb, e = .returned (.tuple #[.pointer (some ⟨nb, 0, none⟩), idV (0, 0), .int .i64 0]) ∧ Blk w' nb 177 (ltC fun m => (findO t 2 (m : Int), findO t 3 (m : Int))) ∧ (∀ x, InT t x → pairE t x = 0) ∧ Ex w w') ∨
  (∃ x, e = .returned (.tuple #[.pointer none, idV x, .int .i64 (pairE t x : Nat)]) ∧ IsF t (fun x => pairE t x ≠ 0) x ∧ Ex w w')
theorem results_msg {fn : Func} {p q r g h k : Nat} {a b v u : Value} {w : World} {tmps : Array Value} (hr : fn.results = #[.cell p 148, .cell q 40, .cell r 27]) (hp : tmps.getD p undef = .pointer (some ⟨g, 0, none⟩)) (hq : tmps.getD q undef = .pointer (some ⟨h, 0, none⟩)) (hk : tmps.getD r undef = .pointer (some ⟨k, 0, none⟩)) (hB : Blk w g 148 [v]) (hC : Blk w h 40 [a, b]) (hD : Blk w k 27 [u]) :
    (results fn tmps).run Tryz.prog w = .ok (.tuple #[v, .agg #[a, b], u]) w := by
  have h0 : w.cell? ⟨g, 0, none⟩ = some v := hB.cell 0
  have h1 : w.cell? ⟨h, 0, none⟩ = some a := hC.cell 0
  have h2 : w.cell? ⟨h, 1, none⟩ = some b := hC.cell 1
  have h3 : w.cell? ⟨k, 0, none⟩ = some u := hD.cell 0
  rw [Array.getD_eq_getD_getElem?] at hp hq hk
  simp [results, hr, hp, hq, hk, go_sem, h0, h1, h2, h3]
end Go.Proofs.YtpmponafjhnegaaGreatDoor
