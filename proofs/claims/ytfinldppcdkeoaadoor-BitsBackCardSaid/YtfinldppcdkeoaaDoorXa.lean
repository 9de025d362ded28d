/-
  The bridge between a row's words and the walks: arguments opened, the table, arguments that read as before.
  Conditions: none.
-/
import Derived.Test.YtfinldppcdkeoaaDoorBase
import Derived.Test.YtfinldppcdkeoaaDoorWh
import Derived.Test.YtfinldppcdkeoaaDoorWa
import Derived.Test.YtfinldppcdkeoaaDoorCards
import Derived.Test.YtfinldppcdkeoaaDoorTie
import Derived.ProofKit
import Derived.OpenShut
import Derived.Deep.DeepHandedRow
import Derived.Lib.LaidTab
import Derived.Lib.SmallJoins
import Derived.ChangeSlices
import Derived.Carry
import Derived.Below
import Derived.ChangeSame
namespace Go.Proofs.YtfinldppcdkeoaaDoor
open Go.ChangeShapes Go.WideShapes Go.ChangeAt Go.RowKit Go.Deep Go.Joins Go.WideElems Bm
theorem blk_lt {w : World} {a : Addr} {v : Value} (h : w.cell? a = some v) : a.block < w.heap.size := by
  unfold World.cell? at h
  split at h
  · rename_i hb; exact (Array.getElem?_eq_some_iff.1 hb).1
  · cases h
section
variable {H : Type} {enc : TypeId × Value → H} {P : Program}
/-- the last step of a row where all old memory is as it was -/
theorem post_below {f : Func} {s : ChangeSpec} {apart fresh handsOn again : Bool} {W W' : World} {args : Array Value} {v : Value} {ds gs : List (DataW H)} {before pa pv : List MemPlace}
    (hW : DataW.Whole enc P f.params.toList s.vars apart W args.toList ds gs before)
    (hres : ∀ (b : Nat) (sp : Nat → Bool) (hd : Bool), DataW.TrodAll enc P W' b sp hd f.resultTypes.toList (v.resultList f.resultTypes.size) (s.fn H (ds ++ gs)).results [])
    (hargs : ∀ sp : Nat → Bool, (∀ p ∈ before, sp p.block = true) → DataW.TrodAll enc P W' 0 sp true f.params.toList args.toList (s.fn H (ds ++ gs)).args pa)
    (hvars : ∀ sp : Nat → Bool, (∀ p ∈ before, sp p.block = true) → DataW.TrodVars enc P W' sp s.vars (s.fn H (ds ++ gs)).vars pv)
    (hps : before = pa ++ pv) (hb : Below W.heap.size W W')
    (hok : ∀ (j : Nat) (t : TypeId) (r : Value), f.resultTypes[j]? = some t → (v.resultList f.resultTypes.size)[j]? = some r → Value.okWide P W' .any 0 t r) :
    s.post enc P f apart fresh handsOn again W args v W' := by
  have hlt : ∀ p ∈ before, p.block < W.heap.size := fun p hp => hW.lt p hp
  have hold : ∀ p ∈ before, (fun b => decide (b < W.heap.size)) p.block = true := fun p hp => by simpa using hlt p hp
  refine ⟨ds, gs, before, [], pa, pv, hW, hres _ _ _, hargs _ hold, hvars _ hold, World.keptBut_mono (fun p hp => ⟨hp, ?_⟩) (hb.frame (· ∈ before)), fun _ => ?_⟩
  · rw [hps, List.mem_append] at hp
    exact Or.inr hp
  · obtain ⟨_, _, _, _, _, hz, hn⟩ := hW
    refine ⟨hok, _, _, ([] ++ pa) ++ pv, ⟨[] ++ pa, pv, trodAll_append (hargs _ (fun _ _ => rfl)) (hres _ _ _), hvars _ (fun _ _ => rfl), rfl, ?_, ?_⟩, ?_⟩
    · intro b off hp
      have hin : MemPlace.cell b off ∈ before := by rw [hps]; simpa using hp
      rw [hb.frozen (hlt _ hin)]
      exact hz b off hin
    · intro ha
      have := hn ha
      rw [hps] at this
      simpa using this
    · intro p hp _
      rw [hps]
      simpa using hp
end
theorem oneCell : oneCellFields Tryd.prog #[{ name := "N", type := 3, offset := 0, embedded := false, tag := "", pkgPath := "", byteOffset := 0 }, { name := "W", type := 22, offset := 1, embedded := false, tag := "", pkgPath := "", byteOffset := 8 }] = true := by kernel_rfl
theorem cells24 : Tryd.prog.cellsOf 24 = 2 := by kernel_rfl
theorem cells54 : Tryd.prog.cellsOf 54 = 1 := by kernel_rfl
theorem cells3 : Tryd.prog.cellsOf 3 = 1 := by kernel_rfl
theorem laidOut : laidOutB Tryd.prog = true := by kernel_rfl
theorem own : ownKnob Tryd.prog.godebug = none := by kernel_rfl
section
variable {H : Type} {enc : TypeId × Value → H}
theorem read24 : Tryd.prog.readableRec 24 = true := by kernel_rfl
theorem read3 : Tryd.prog.readableRec 3 = true := by kernel_rfl
theorem read25 : Tryd.prog.readableRec 25 = true := by kernel_rfl
theorem row24 : 24 < Tryd.prog.types.size := of_decide_eq_true (by kernel_rfl)
theorem row3 : 3 < Tryd.prog.types.size := of_decide_eq_true (by kernel_rfl)
theorem row25 : 25 < Tryd.prog.types.size := of_decide_eq_true (by kernel_rfl)
theorem stays {t : TypeId} (hr : Tryd.prog.readableRec t = true) (hrow : t < Tryd.prog.types.size) {W W' : World} {v : Value} {d : DataW H} {ps : List MemPlace}
    (h : DataW.Trod enc Tryd.prog W 0 (fun _ => true) true t v d ps) (hb : Below W.heap.size W W') (hlt : ∀ x ∈ ps, x.block < W.heap.size) (sp : Nat → Bool) (hs : ∀ x ∈ ps, sp x.block = true) :
    DataW.Trod enc Tryd.prog W' 0 sp true t v d ps :=
  WideElems.Trod_stays laidOut hr hrow h (fun x hx => hb.same (hlt x hx)) hs
theorem open_list {W : World} {r : Reach} {b0 : Nat} {v : Value} {d : DataW H} {p : List MemPlace} (hv : Value.okWide Tryd.prog W r b0 25 v) (h : DataW.Trod enc Tryd.prog W 0 (fun _ => true) true 25 v d p) :
    ∃ (l : List Int) (A : Option Addr) (c : Nat), v = .slice A l.length c ∧ Cells W A (ints l) := by
  obtain ⟨fuel, hf⟩ := h
  have hf' : DataW.trod enc Tryd.prog W 0 (fun _ => true) true fuel 25 [v] = some (d, p) := by
    obtain ⟨a, len, cap, rfl⟩ := okWide_slice Tryd.underlying25 hv
    exact hf
  rcases open_ints Tryd.underlying25 Tryd.underlying3 cells3 hf' with ⟨e, -⟩ | ⟨a, len, cap, zs, e, -, hl, -, hz, -, hc, -⟩
  · injection e with e
    exact ⟨[], none, 0, e, Cells.nil _ _⟩
  · injection e with e
    have hlen : (zs.take len).length = len := by rw [List.length_take]; simp at hz; omega
    refine ⟨zs.take len, some a, cap, by rw [hlen]; exact e, fun j u hu => ?_⟩
    unfold ints at hu
    rw [List.getElem?_map] at hu
    by_cases hj : j < len
    · have hjz : j < zs.length := by simp at hz; omega
      have h1 := hc j hjz
      rw [List.getElem?_take, if_pos hj, List.getElem?_eq_getElem hjz] at hu
      injection hu with hu
      rw [List.getD_eq_getElem?_getD, List.getElem?_eq_getElem hjz] at h1
      refine ⟨a, rfl, blk_lt h1, ?_⟩
      rw [h1, ← hu]; rfl
    · rw [List.getElem?_take, if_neg hj] at hu
      cases hu
theorem open_set {W : World} {r : Reach} {b0 : Nat} {v : Value} {d : DataW H} {p : List MemPlace} (hv : Value.okWide Tryd.prog W r b0 24 v) (h : DataW.Trod enc Tryd.prog W 0 (fun _ => true) true 24 v d p) :
    ∃ (N : Int) (ws : List Nat) (A : Option Addr) (c : Nat), v = .agg #[.int .i64 N, .slice A ws.length c] ∧ Cells W A (u64s ws) ∧ Wd ws := by
  obtain ⟨v0, v1, y0, y1, n, rfl, -, -, h0, h1⟩ := open_agg2 Tryd.underlying24 oneCell cells24 hv h
  obtain ⟨N, e0, -, -⟩ := DataW.trod_int Tryd.underlying3 h0
  injection e0 with e0
  subst e0
  rcases open_ints Tryd.underlying22 Tryd.underlying54 cells54 h1 with ⟨e, -⟩ | ⟨a, len, cap, zs, e, -, hl, -, hz, -, hc, hwf⟩
  · injection e with e
    subst e
    exact ⟨N, [], none, 0, rfl, Cells.nil _ _, fun x hx => by cases hx⟩
  · injection e with e
    subst e
    have hlen : ((zs.take len).map Int.toNat).length = len := by rw [List.length_map, List.length_take]; simp at hz; omega
    have hnn : ∀ x ∈ zs, 0 ≤ x ∧ x < 18446744073709551616 := fun x hx => by
      have h2 := hwf x hx
      simp [Lit.wf] at h2
      have e1 : IntKind.u64.min = 0 := by decide
      have e2 : IntKind.u64.max = 18446744073709551615 := by decide
      omega
    refine ⟨N, (zs.take len).map Int.toNat, some a, cap, by rw [hlen], fun j u hu => ?_, fun x hx => ?_⟩
    · unfold u64s at hu
      rw [List.map_map, List.getElem?_map] at hu
      by_cases hj : j < len
      · have hjz : j < zs.length := by simp at hz; omega
        have h1 := hc j hjz
        rw [List.getElem?_take, if_pos hj, List.getElem?_eq_getElem hjz] at hu
        injection hu with hu
        rw [List.getD_eq_getElem?_getD, List.getElem?_eq_getElem hjz] at h1
        refine ⟨a, rfl, blk_lt h1, ?_⟩
        have := hnn _ (List.getElem_mem hjz)
        have e : (((zs[j]).toNat : Nat) : Int) = zs[j] := by omega
        rw [h1, ← hu]
        simp [e]
      · rw [List.getElem?_take, if_neg hj] at hu
        cases hu
    · rw [List.mem_map] at hx
      obtain ⟨y, hy, rfl⟩ := hx
      have := hnn y (List.mem_of_mem_take hy)
      show y.toNat < 2 ^ 64
      omega
end
theorem gTab : Tryd.prog.globalNamed "math/bits.deBruijn64tab" = some 0 := by kernel_rfl
theorem gTabType : (Tryd.prog.globals[0]?).map (·.type) = some 70 := by kernel_rfl
theorem cells70 : Tryd.prog.cellsOf 70 = 64 := by kernel_rfl
theorem cells5 : Tryd.prog.cellsOf 5 = 1 := by kernel_rfl
theorem tab_of {W : World} (h : laidMetH Tryd.prog [("math/bits.deBruijn64tab", Rows.laid_math_bits_deBruijn64tab)] W) : Tab W := by
  have ht : Lib.TabIs Tryd.prog W "math/bits.deBruijn64tab" .u8 (Lib.deBruijn64tab.map (fun (x : Nat) => (x : Int))) :=
    Lib.tabIs_of_head (rest := []) gTab gTabType Tryd.underlying70 Tryd.underlying5 cells5 cells70 h
  have hc : ∀ j, j < 64 → W.cell? ⟨0, j, none⟩ = some (.int .u8 ((Go.Lib.deBruijn64tab.getD j 0 : Nat) : Int)) := fun j hj => by
    rw [ht.cell gTab j (by simpa [Lib.deBruijn64tab] using hj)]
    rw [List.getD_eq_getElem?_getD, List.getD_eq_getElem?_getD, List.getElem?_map, List.getElem?_eq_getElem (by simpa [Lib.deBruijn64tab] using hj)]
    rfl
  exact ⟨blk_lt (hc 0 (by decide)), hc⟩
/-- a world for the witness: the table as its initialiser lays it -/
noncomputable def laidWorld (os : Os) : World :=
  { World.holding Tryd.prog os ⟨#[], #[], []⟩ with heap := (World.holding Tryd.prog os ⟨#[], #[], []⟩).heap.modify 0 fun
      | .cells _ t frozen => .cells (Lib.deBruijn64tab.map (fun (x : Nat) => Value.int .u8 (x : Int))).toArray t frozen
      | o => o }
end Go.Proofs.YtfinldppcdkeoaaDoor
