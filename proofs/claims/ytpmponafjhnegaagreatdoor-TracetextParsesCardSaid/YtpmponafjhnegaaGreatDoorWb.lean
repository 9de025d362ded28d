/-
  A strings.Builder of the call's own: its two writing methods, walked at this dump after the library's proofs for any dump. An assignment written, and the line of an event, walked.
  Conditions: as each theorem says.
-/
import Derived.Test.YtpmponafjhnegaaGreatDoorHt
import Derived.Lib.FrozenHead
import Derived.Lib.Strings
import Derived.Lib.Slices
import Derived.Lib.Walk
import Derived.Lib.Builder
import Derived.Lib.UnsafeStr
import Derived.Laws.Externs
import Derived.Laws.IdiomCopy
import Derived.Laws.BitsLemmas
import Derived.Test.YtpmponafjhnegaaGreatDoorMm
import Derived.Lib.ItoaLen
import Derived.BigRegion
import Derived.BigQuiet
import Derived.StillTailTactics
import Derived.RegionTactic
import Derived.ChangeAlike
import Derived.Deep.Cut
import Derived.Deep.CutBlock
import Derived.Deep.CutRange
import Derived.Deep.LoopGhost
import Derived.Deep.RegionHeld3
namespace Go.Proofs.YtpmponafjhnegaaGreatDoor
section
open Go.RowKit
theorem infoBd : (Tryz.prog.info? 78).map (fun i => i.size) = some 2 := by kernel_rfl
theorem liesBd : liesAt Tryz.prog Tryz.prog.depth 78 (2 / Tryz.prog.cellsOf 78) 0 78 1 = true := by kernel_rfl
theorem infoBy : (Tryz.prog.info? 5).map (fun i => (i.zero, i.size, i.bytes)) = some (some (.int .u8 0), 1, 1) := by kernel_rfl
set_option maxRecDepth 100000 in
theorem ccheck_used (b : Nat) (w : World) (h0 : w.cell? ⟨b, 0, none⟩ = some (.pointer (some ⟨b, 0, none⟩))) :
    Calls Tryz.prog 78 #[.pointer (some ⟨b, 0, none⟩)] w fun e w' => e = .returned (.tuple #[]) ∧ w' = w := by
  obtain ⟨j, hj, _⟩ := Option.map_eq_some_iff.1 infoBd
  go_enter Tryz.func78, Tryz.ntmps78
  go_wp2
  rw [Lib.run_neq_ptr_same w _ Tryz.underlying76 hj]
  go_wp2
  go_end0
  exact ⟨rfl, rfl⟩
set_option maxRecDepth 100000 in
theorem ccheck_fresh (b : Nat) (w : World) (h0 : w.cell? ⟨b, 0, none⟩ = some (.pointer none)) (hsh : w.shape? b = some (78, 2)) (hfz : w.frozen? ⟨b, 0, none⟩ = false) :
    Calls Tryz.prog 78 #[.pointer (some ⟨b, 0, none⟩)] w fun e w' => e = .returned (.tuple #[]) ∧ w' = w.setCell ⟨b, 0, none⟩ (.pointer (some ⟨b, 0, none⟩)) := by
  obtain ⟨j, hj, hjs⟩ := Option.map_eq_some_iff.1 infoBd
  go_enter Tryz.func78, Tryz.ntmps78
  go_wp2
  rw [Lib.run_to_unsafe w ⟨b, 0, none⟩ Tryz.underlying76 Tryz.underlying163 hj (by rw [hjs]; decide) hsh (Nat.zero_lt_succ 1)]
  simp only [Result.andThen]
  rw [Oper.upon_value]
  go_wp2
  rw [run_callFunc_extern Tryz.func107 (by kernel_rfl) (by kernel_rfl) (by kernel_rfl) (e := Extern.AbiNoEscape.same) (by kernel_rfl)]
  rw [Lib.run_noEscape]
  simp only [Result.andThen]
  rw [Oper.upon_value]
  go_wp2
  rw [Lib.run_from_unsafe w ⟨b, 0, none⟩ Tryz.underlying163 Tryz.underlying76 hj hsh liesBd]
  simp only [Result.andThen]
  rw [Oper.upon_value]
  go_wp2
  go_end0
  exact ⟨rfl, rfl⟩
/-- a builder that holds some bytes -/
def BdO (w : World) (B b : Nat) (l : List UInt8) : Prop := Lib.IsBuilder 78 5 B b (Lib.byteCells l) w
/-- what is no byte and not the builder stays -/
def KeepB (b : Nat) (w w' : World) : Prop := ∀ g T cs, Blk w g T cs → T ≠ 5 → g ≠ b → Blk w' g T cs
theorem KeepB.trans {b : Nat} {u v w : World} (h : KeepB b u v) (k : KeepB b v w) : KeepB b u w := fun g T cs hg hT hb => k g T cs (h g T cs hg hT hb) hT hb
theorem KeepB.of {b : Nat} {w w' : World} (h : Ex w w') : KeepB b w w' := fun _ _ _ hg _ _ => Blk.ex hg h
theorem ccheck_c (B b : Nat) (bs : List Value) (w : World) (h : Lib.IsBuilder 78 5 B b bs w) :
    Calls Tryz.prog 78 #[.pointer (some ⟨b, 0, none⟩)] w fun e w' => e = .returned (.tuple #[]) ∧ (Lib.BuilderAt 78 5 B b (.pointer (some ⟨b, 0, none⟩)) bs w' ∧ Below B w w' ∧ KeepB b w w') := by
  rcases h with h | h
  · refine (ccheck_fresh b w h.cell0 h.shape h.frozen0).mono ?_
    rintro e w' ⟨rfl, rfl⟩
    exact ⟨rfl, h.used _, (Below.refl B w).setCell (p := ⟨b, 0, none⟩) h.1 _, fun _ _ _ hg _ hne => Blk.far (p := ⟨b, 0, none⟩) hg hne _⟩
  · refine (ccheck_used b w h.cell0).mono ?_
    rintro e w' ⟨rfl, rfl⟩
    exact ⟨rfl, h, Below.refl B _, fun _ _ _ hg _ _ => hg⟩
set_option maxRecDepth 100000 in
set_option maxHeartbeats 2000000 in
theorem wstrK_c (B b : Nat) (l : List UInt8) (s : ByteArray) (w : World) (h : BdO w B b l) (hlen : l.length + s.size ≤ 140737488355328) (hBw : B ≤ w.heap.size) :
    Calls Tryz.prog 37 #[.pointer (some ⟨b, 0, none⟩), .string s] w fun e w' => e = .returned (.tuple #[.int .i64 s.size, .nilIface]) ∧ (BdO w' B b (l ++ s.data.toList) ∧ Below B w w' ∧ KeepB b w w') := by
  obtain ⟨i0, hi, hz0, hz1, hz2⟩ := info_parts infoBy
  go_enter Tryz.func37, Tryz.ntmps37
  go_wp2_with (go_at_call 78; refine (ccheck_c B b _ _ h).mono ?_)
  rintro e w1 ⟨rfl, h1, hb1, hk1⟩
  obtain ⟨hB, v, hbk, hown, hne⟩ := h1
  have c0 : w1.cell? ⟨b, 0, none⟩ = some (.pointer (some ⟨b, 0, none⟩)) := by rw [Lib.cell_of_heap hbk]; rfl
  have c1 : w1.cell? ⟨b, 1, none⟩ = some v := by rw [Lib.cell_of_heap hbk]; rfl
  have hbl : (Lib.byteCells l).length = l.length := Lib.byteCells_length l
  go_wp2_with (at_builtin; refine Lib.wpList_append_own_string _ rfl _ _ 56 9 rfl B 5 i0 Tryz.underlying56 Tryz.underlying9 hi hz0 hz1 hz2 _ _ _ rfl hown s rfl ?c3 ?c4 ?c5 ?_)
  case c3 => unfold maxLen; omega
  case c4 => omega
  case c5 => have := hb1.size; omega
  intro v' w2 hown' hgrow _
  have hlt : b < w1.heap.size := by
    rcases Nat.lt_or_ge b w1.heap.size with h' | h'
    · exact h'
    · simp [Array.getElem?_eq_none h'] at hbk
  have hb2 : w2.heap[b]? = some (.cells #[.pointer (some ⟨b, 0, none⟩), v] 78 (0, 0)) := by
    rw [hgrow.block b hlt (fun e => hne e.symm)]
    exact hbk
  have d0 : w2.cell? ⟨b, 0, none⟩ = some (.pointer (some ⟨b, 0, none⟩)) := by rw [Lib.cell_of_heap hb2]; rfl
  have d1 : w2.cell? ⟨b, 1, none⟩ = some v := by rw [Lib.cell_of_heap hb2]; rfl
  have f1 : w2.frozen? ⟨b, 1, none⟩ = false := Lib.frozen_of_heap hb2 1
  obtain ⟨ao, n', cap, rfl⟩ : ∃ ao n' cap, v' = .slice ao n' cap := by
    rcases hown'.2 with ⟨hv, _⟩ | ⟨g, cap, cur, hv, _⟩
    · exact ⟨_, _, _, hv⟩
    · exact ⟨_, _, _, hv⟩
  go_wp2
  go_ret2
  refine ⟨rfl, ?_, ?_, ?_⟩
  · refine .inr (Lib.BuilderAt.put (T := 78) (e := 5) hB hb2 (bs' := Lib.byteCells (l ++ s.data.toList)) ?_ (by decide))
    rw [Lib.byteCells_append, ← Lib.strCells_eq]
    simpa [Lib.strCells_length, hbl] using hown'
  · exact (hb1.grown hgrow (by have := hb1.size; omega) (fun k hk => (hown.lt k hk).1)).setCell (p := ⟨b, 1, none⟩) hB _
  · intro g T cs hg hT hgb
    have hg1 : Blk w1 g T cs := hk1 g T cs hg hT hgb
    refine (hg1.grown hgrow fun e => ?_).far (p := ⟨b, 1, none⟩) hgb _
    rcases hown.2 with ⟨hv, _⟩ | ⟨g', cap', cur, hv, _, hcur, _⟩
    · rw [hv] at e; simp [Value.ownBlock] at e
    · rw [hv] at e
      simp only [Value.ownBlock, Option.some.injEq] at e
      subst e
      unfold Blk at hg1
      rw [hcur] at hg1
      injection hg1 with hg1
      injection hg1 with _ h2
      exact hT h2.symm
theorem wstr_c (B b : Nat) (l : List UInt8) (s : ByteArray) (w : World) (h : BdO w B b l) (hlen : l.length + s.size ≤ 140737488355328) (hBw : B ≤ w.heap.size) :
    Calls Tryz.prog 37 #[.pointer (some ⟨b, 0, none⟩), .string s] w fun e w' => e = .returned (.tuple #[.int .i64 s.size, .nilIface]) ∧ (BdO w' B b (l ++ s.data.toList) ∧ Below B w w') :=
  (wstrK_c B b l s w h hlen hBw).mono fun _ _ ⟨h1, h2, h3, _⟩ => ⟨h1, h2, h3⟩
theorem BdO.kept {w w' : World} {B b : Nat} {l : List UInt8} (h : BdO w B b l) (hx : Ex w w') : BdO w' B b l := by
  have hg : w.grownBy w' none := ⟨hx.below.os, hx.below.tape, hx.below.output, hx.below.size, fun k hk _ => hx.below.block k hk⟩
  have hk : ∀ p, Lib.BuilderAt 78 5 B b p (Lib.byteCells l) w → Lib.BuilderAt 78 5 B b p (Lib.byteCells l) w' := fun p h => by
    have hlt := h.lt
    obtain ⟨hB, v, hbk, hown, hne⟩ := h
    refine ⟨hB, v, (hx.below.block b hlt).trans hbk, hown.kept hg ?_, hne⟩
    cases hv : v.ownBlock with
    | none => exact .inl rfl
    | some k => exact .inr (by simp)
  exact h.imp (hk _) (hk _)
theorem BdO.lt {w : World} {B b : Nat} {l : List UInt8} (h : BdO w B b l) : b < w.heap.size ∧ B ≤ b := h.elim (fun h => ⟨h.lt, h.1⟩) (fun h => ⟨h.lt, h.1⟩)
end
section
open Go.RowKit Nu
set_option maxRecDepth 20000 in
theorem asgdK_c (B b : Nat) (l : List UInt8) (n : ByteArray) (v : Int) (w : World) (hE : Env w) (h : BdO w B b l) (hBw : B ≤ w.heap.size) (h0 : -1125899906842624 ≤ v) (h1 : v ≤ 1125899906842624) (hl : l.length + n.size ≤ 100000000000000) :
    Calls Tryz.prog 38 #[.pointer (some ⟨b, 0, none⟩), .string n, .int .i64 v] w fun e w' => e = .returned (.tuple #[]) ∧ BdO w' B b (l ++ wAsg n v) ∧ Below B w w' ∧ KeepB b w w' := by
  have HI := Lib.hid (itoa_c v w hE h0 h1)
  have hil : (Lib.itoa v).length ≤ 21 := Lib.itoa_length_le v (by omega) (by omega)
  have HW := Lib.hid (fun w1 s (hx : Ex w w1) (hs : l.length + s.size ≤ 140737488355328) => wstrK_c B b l s w1 (h.kept hx) hs (Nat.le_trans hBw hx.below.size))
  have HBw := Lib.hid hBw
  unfold wAsg
  clear h hE h0 h1 hBw
  generalize Lib.itoa v = iv at *
  have hbi : (bs iv).size = iv.length := rfl
  have hb1 : (⟨#[32]⟩ : ByteArray).size = 1 := rfl
  have hb2 : (⟨#[61]⟩ : ByteArray).size = 1 := rfl
  go_enter Tryz.func38, Tryz.ntmps38
  go_wp2_with fail
  refine (HI.out).mono ?_
  rintro e9 w1 ⟨rfl, hx⟩
  have HX := Lib.hid hx
  clear hx
  go_wp2_with fail
  refine (HW.out _ _ HX.out (by simp [ByteArray.size_append]; omega)).mono ?_
  rintro e9 w2 ⟨rfl, hb, hbel, hkb⟩
  have HB := Lib.hid hb
  have HL := Lib.hid hbel
  have HK := Lib.hid ((KeepB.of HX.out).trans hkb)
  clear hb hbel hkb
  go_wp2_with fail
  go_end0
  refine ⟨rfl, ?_, (HX.out.below.mono HBw.out).trans HL.out, HK.out⟩
  have := HB.out
  simpa using this
theorem asgd_c (B b : Nat) (l : List UInt8) (n : ByteArray) (v : Int) (w : World) (hE : Env w) (h : BdO w B b l) (hBw : B ≤ w.heap.size) (h0 : -1125899906842624 ≤ v) (h1 : v ≤ 1125899906842624) (hl : l.length + n.size ≤ 100000000000000) :
    Calls Tryz.prog 38 #[.pointer (some ⟨b, 0, none⟩), .string n, .int .i64 v] w fun e w' => e = .returned (.tuple #[]) ∧ BdO w' B b (l ++ wAsg n v) ∧ Below B w w' :=
  (asgdK_c B b l n v w hE h hBw h0 h1 hl).mono fun _ _ ⟨h1, h2, h3, _⟩ => ⟨h1, h2, h3⟩
theorem BdO.new (W : World) (B : Nat) (hB : B ≤ W.heap.size) : BdO (W.alloc (.cells #[.pointer none, .slice none 0 0] 78)) B W.heap.size [] :=
  .inl ⟨hB, .slice none 0 0, heap_alloc_new W _, World.ownsRow_nil _ _ _ _, by simp [Value.ownBlock]⟩
theorem blk_below {B : Nat} {w w' : World} (h : Below B w w') {g T : Nat} {cs : List Value} (hb : Blk w g T cs) (hg : g < B) : Blk w' g T cs := (h.block g hg).trans hb
theorem str_app (a b : ByteArray) : (a ++ b).data.toList = a.data.toList ++ b.data.toList := by simp
theorem str_new (l : List UInt8) : (bs l).data.toList = l := rfl
theorem wAsgs_len {vars : List (ByteArray × Int)} : ∀ l : List (Int × Int), (∀ a ∈ l, nameB (vNm vars a.1) = true ∧ -1125899906842624 ≤ a.2 ∧ a.2 ≤ 1125899906842624) → (wAsgs vars l).length ≤ 39 * l.length
  | [], _ => by simp [wAsgs]
  | a :: l, h => by
    have h1 := wAsgs_len l fun b hb => h b (List.mem_cons_of_mem _ hb)
    obtain ⟨h2, h3, h4⟩ := h a (by simp)
    have h5 := nameB_size h2
    have h6 := Lib.itoa_length_le a.2 (by omega) (by omega)
    unfold vNm at h5
    have h7 : wAsgs vars (a :: l) = wAsg ((vars[a.1.toNat]?).elim (bs []) (·.1)) a.2 ++ wAsgs vars l := rfl
    have h8 : (wAsg ((vars[a.1.toNat]?).elim (bs []) (·.1)) a.2).length = ((vars[a.1.toNat]?).elim (bs []) (·.1)).size + (Lib.itoa a.2).length + 2 := by
      unfold wAsg
      simp only [List.length_cons, List.length_append, Array.length_toList]
      show _ + ((Lib.itoa a.2).length + 1) + 1 = _
      have : ((vars[a.1.toNat]?).elim (bs []) (·.1)).data.size = ((vars[a.1.toNat]?).elim (bs []) (·.1)).size := rfl
      omega
    rw [h7, List.length_append, h8, List.length_cons]
    omega
theorem wHead_len {t : List Pr} {vars : List (ByteArray × Int)} {e : Ev} (h : EvW t vars e) : (wHead t e).length ≤ 100 := by
  unfold wHead
  split
  · decide
  · rename_i hk
    have h1 := nameB_size (h.nm hk)
    have h2 := Lib.itoa_length_le e.msg (by have := h.msg; omega) (by have := h.msg; omega)
    have h3 : (bs (nmOf t e.peer)).size = (nmOf t e.peer).length := rfl
    have h4 : (if e.kind = 2 then wSend else wReceive).length ≤ 7 := by split <;> decide
    simp only [List.length_append, List.length_cons]
    omega
theorem wAsgs_snoc {vars : List (ByteArray × Int)} {l : List (Int × Int)} {k : Nat} {a : Int × Int} (h : l[k]? = some a) : wAsgs vars (l.take (k + 1)) = wAsgs vars (l.take k) ++ wAsg ((vars[a.1.toNat]?).elim (bs []) (·.1)) a.2 := by
  rw [List.take_add_one, h]
  unfold wAsgs
  simp
set_option maxRecDepth 100000 in
set_option maxHeartbeats 12800000 in
theorem line_c (t : List Pr) (A : Option Addr) (c p i : Nat) (x : Pr) (e : Ev) (w : World) (hE : Env w) (hT : TcC w A t) (hs : TSm t) (hx : t[p]? = some x) (he : x.evs[i]? = some e) (hf : (faultO t).2 = 0) :
    Calls Tryz.prog 39 #[.agg #[.slice A t.length c], .agg #[.int .i64 (p : Int), .int .i64 ((i : Int) + 1)]] w (Ret w (.string (bs (wEv t x.vars e)))) := by
  have HE : Hid (∀ w', Ex w w' → Env w') := fun w' h => hE.ex h
  obtain ⟨hw, -, hpe⟩ := good_ev hf hx he
  have htl := hs.procs
  obtain ⟨sm1, sm2, sm3, sm4, sm5⟩ := hs.each x (List.mem_of_getElem? hx)
  have sm6 := sm5 e (List.mem_of_getElem? he)
  have hpl := (List.getElem?_eq_some_iff.1 hx).1
  have hil := (List.getElem?_eq_some_iff.1 he).1
  obtain ⟨ba, oa, rfl, hba, V, vc, E, ec, g0, g1, g2, ⟨hV, -, -⟩, hEv⟩ := hT p x hx
  obtain ⟨be, oe, rfl, hbe, B, bc, k0, k1, k2, k3, k4, hR, -⟩ := hEv i e he
  have HT := Lib.hid hT
  have HWk := Lib.hid hw
  have HPe := Lib.hid hpe
  have HV := Lib.hid hV
  have HR := Lib.hid hR
  have HSm := Lib.hid hs
  have HSv : Hid (∀ v, v ∈ x.vars → v.1.size ≤ 100000) := Lib.hid sm4
  have m0 : (0 : Int) ≤ (p : Int) := by omega
  have m1 : (p : Int) < (t.length : Int) := by omega
  have i0 : (0 : Int) ≤ (i : Int) := by omega
  have i1 : (i : Int) < (x.evs.length : Int) := by omega
  have q1 : IntKind.i64.wrap ((i : Int) + 1 - 1) = (i : Int) := by rw [Int.add_sub_cancel]; exact IntWalk.i64_in _ (by omega)
  clear hT hw hpe hV hR hs hE hEv hf hx he sm4 sm5
  have hz1 : ∀ o : Obj, (w.alloc o).heap.size = w.heap.size + 1 := fun o => Array.size_push _
  obtain ⟨W2, hW2⟩ : ∃ W2, W2 = (w.alloc (.cells #[.slice (some ⟨ba, oa, none⟩) t.length c] 24)).alloc (.cells #[.int .i64 (p : Int), .int .i64 ((i : Int) + 1)] 40) := ⟨_, rfl⟩
  have hs2 : W2.heap.size = w.heap.size + 2 := by rw [hW2]; exact (Array.size_push _).trans (by rw [hz1])
  have hX2 : Ex w W2 := by rw [hW2]; exact ((Ex.refl w).alloc _).alloc _
  have hb0 : Blk W2 w.heap.size 24 [.slice (some ⟨ba, oa, none⟩) t.length c] := by rw [hW2]; exact (Blk.new w _ _).alloc _
  have hb1 : Blk W2 (w.heap.size + 1) 40 [.int .i64 (p : Int), .int .i64 ((i : Int) + 1)] := by rw [hW2, ← hz1]; exact Blk.new _ _ _
  obtain ⟨W4, hW4⟩ : ∃ W4, W4 = (W2.alloc (.cells #[.string x.name, .slice V x.vars.length vc, .slice (some ⟨be, oe, none⟩) x.evs.length ec] 35)).alloc (.cells #[.int .i64 e.kind, .int .i64 e.peer, .int .i64 e.msg, .int .i64 e.time, .slice B e.asg.length bc] 38) := ⟨_, rfl⟩
  have hz2 : ∀ o : Obj, (W2.alloc o).heap.size = w.heap.size + 3 := fun o => (Array.size_push _).trans (by rw [hs2])
  have hs4 : W4.heap.size = w.heap.size + 4 := by rw [hW4]; exact (Array.size_push _).trans (by rw [hz2])
  have hX4 : Ex W2 W4 := by rw [hW4]; exact ((Ex.refl W2).alloc _).alloc _
  have hb2 : Blk W4 (w.heap.size + 2) 35 [.string x.name, .slice V x.vars.length vc, .slice (some ⟨be, oe, none⟩) x.evs.length ec] := by rw [hW4, ← hs2]; exact (Blk.new W2 _ _).alloc _
  have hb3 : Blk W4 (w.heap.size + 3) 38 [.int .i64 e.kind, .int .i64 e.peer, .int .i64 e.msg, .int .i64 e.time, .slice B e.asg.length bc] := by rw [hW4, ← hz2]; exact Blk.new _ _ _
  obtain ⟨W5, hW5⟩ : ∃ W5, W5 = W4.alloc (.cells #[.pointer none, .slice none 0 0] 78) := ⟨_, rfl⟩
  have hX5 : Ex W4 W5 := by rw [hW5]; exact (Ex.refl W4).alloc _
  have hb4 : BdO W5 (w.heap.size + 4) (w.heap.size + 4) [] := by rw [hW5, ← hs4]; exact BdO.new W4 _ (Nat.le_refl _)
  have HW2 := Lib.hid hW2
  have HW4 := Lib.hid hW4
  have HW5 := Lib.hid hW5
  have HS := Lib.hid (And.intro hs2 hs4)
  have HX := Lib.hid (And.intro hX2 (And.intro hX4 hX5))
  have HB := Lib.hid (And.intro hb0 (And.intro hb1 (And.intro hb2 (And.intro hb3 hb4))))
  have x0 := hb0.cell 0
  have x1 := hb1.cell 0
  have x2 := hb1.cell 1
  have xl := hb0.lt
  have yl := hb1.lt
  have hl2 := fun (a : Nat) (h : a < w.heap.size) => Nat.lt_of_lt_of_le h hX2.below.size
  have r0 := (hX2.below.cell (p := ⟨ba, oa + p * 3, none⟩) hba).trans g0
  have r1 := (hX2.below.cell (p := ⟨ba, oa + p * 3 + 1, none⟩) hba).trans g1
  have r2 := (hX2.below.cell (p := ⟨ba, oa + p * 3 + 2, none⟩) hba).trans g2
  have s0 := (hX2.below.cell (p := ⟨be, oe + i * 5, none⟩) hbe).trans k0
  have s1 := (hX2.below.cell (p := ⟨be, oe + i * 5 + 1, none⟩) hbe).trans k1
  have s2 := (hX2.below.cell (p := ⟨be, oe + i * 5 + 2, none⟩) hbe).trans k2
  have s3 := (hX2.below.cell (p := ⟨be, oe + i * 5 + 3, none⟩) hbe).trans k3
  have s4 := (hX2.below.cell (p := ⟨be, oe + i * 5 + 4, none⟩) hbe).trans k4
  have hba2 := hl2 ba hba
  have hbe2 := hl2 be hbe
  have n1 : be ≠ W2.heap.size := by omega
  have n4 : W2.heap.size ≠ be := by omega
  clear hW2 hW4 hW5 hs2 hs4 hz1 hz2 hX2 hX4 hX5 hb0 hb1 hb2 hb3 hb4 hl2 g0 g1 g2 k0 k1 k2 k3 k4
  go_enter Tryz.func39, Tryz.ntmps39
  go_upto_region 1 with fail
  rw [← HW2.out]
  go_upto_block 0 with fail
  rw [← HW4.out, ← HW5.out, HS.out.1]
  have e3 : w.heap.size + 2 + 1 = w.heap.size + 3 := rfl
  have e4 : w.heap.size + 3 + 1 = w.heap.size + 4 := rfl
  rw [e3, e4]
  clear e3 e4 x0 x1 x2 xl yl r0 r1 r2 s0 s1 s2 s3 s4 hba2 hbe2 n1 n4 m0 m1 i0 i1 q1
  obtain ⟨bb, hbb⟩ : ∃ bb, bb = w.heap.size + 4 := ⟨_, rfl⟩
  obtain ⟨eb, heb⟩ : ∃ eb, eb = w.heap.size + 3 := ⟨_, rfl⟩
  obtain ⟨pb, hpb⟩ : ∃ pb, pb = w.heap.size + 2 := ⟨_, rfl⟩
  have hX5 : Ex w W5 := HX.out.1.trans (HX.out.2.1.trans HX.out.2.2)
  have hT5 := (HB.out.1.ex HX.out.2.1).ex HX.out.2.2
  have hP5 := HB.out.2.2.1.ex HX.out.2.2
  have hE5 := HB.out.2.2.2.1.ex HX.out.2.2
  have hB5 := HB.out.2.2.2.2
  have hwl : w.heap.size ≤ bb := by omega
  rw [← hbb, ← heb, ← hpb]
  rw [← hbb] at hB5
  rw [← heb] at hE5
  rw [← hpb] at hP5
  have h1 : w.heap.size < bb := by omega
  have h2 : pb < bb := by omega
  have h3 : eb < bb := by omega
  have HXo : Hid (∀ wx, Below bb W5 wx → Ex w wx) := fun wx h => Ex.of (hX5.below.trans (h.mono hwl))
  have HT5 : Hid (∀ wx, Below bb W5 wx → Blk wx w.heap.size 24 [.slice (some ⟨ba, oa, none⟩) t.length c]) := fun wx h => blk_below h hT5 h1
  have HP5 : Hid (∀ wx, Below bb W5 wx → Blk wx pb 35 [.string x.name, .slice V x.vars.length vc, .slice (some ⟨be, oe, none⟩) x.evs.length ec]) := fun wx h => blk_below h hP5 h2
  have HE5 : Hid (∀ wx, Below bb W5 wx → Blk wx eb 38 [.int .i64 e.kind, .int .i64 e.peer, .int .i64 e.msg, .int .i64 e.time, .slice B e.asg.length bc]) := fun wx h => blk_below h hE5 h3
  have HB5 := Lib.hid hB5
  have HWs : Hid (∀ wx l s, BdO wx bb bb l → Below bb W5 wx → l.length + s.size ≤ 140737488355328 → Calls Tryz.prog 37 #[.pointer (some ⟨bb, 0, none⟩), .string s] wx (fun e w' => e = .returned (.tuple #[.int .i64 s.size, .nilIface]) ∧ BdO w' bb bb (l ++ s.data.toList) ∧ Below bb W5 w')) := fun wx l s hb hl hs => (wstr_c bb bb l s wx hb hs (Nat.le_of_lt hb.lt.1)).mono fun e w' ⟨g1, g2, g3⟩ => ⟨g1, g2, hl.trans g3⟩
  have HIt : Hid (∀ v wx, Below bb W5 wx → -1125899906842624 ≤ v → v ≤ 1125899906842624 → Calls Tryz.prog 44 #[.int .i64 v] wx (Ret wx (.string (bs (Lib.itoa v))))) := fun v wx hl h0 h1 => itoa_c v wx (HE.out wx (HXo.out wx hl)) h0 h1
  have HIu : Hid (∀ v wx l, BdO wx bb bb l → Below bb W5 wx → -1125899906842624 ≤ v → v ≤ 1125899906842624 → Calls Tryz.prog 44 #[.int .i64 v] wx (fun e w' => e = .returned (.string (bs (Lib.itoa v))) ∧ BdO w' bb bb l ∧ Below bb W5 w')) := fun v wx l hb hl h0 h1 => (HIt.out v wx hl h0 h1).mono fun e w' ⟨g1, g2⟩ => ⟨g1, hb.kept g2, hl.trans (g2.below.mono (Nat.le_of_lt hb.lt.1))⟩
  have HLe : Hid (∀ v : Int, -1125899906842624 ≤ v → v ≤ 1125899906842624 → (Lib.itoa v).length ≤ 21) := fun v h0 h1 => Lib.itoa_length_le v (by omega) (by omega)
  have HBl : Hid (∀ wx, Below bb W5 wx → bb ≤ wx.heap.size) := fun wx hl => Nat.le_trans (Nat.le_of_lt hB5.lt.1) hl.size
  have y0 := hE5.cell 0
  have yl := hE5.lt
  clear hX5 hT5 hP5 hE5 hB5 hbb heb hpb h1 h2 h3 HB HX HS HW2 HW4 HW5
  go_cut [] from 23 to 57 (fun wx => Hid (BdO wx bb bb (wHead t e) ∧ Below bb W5 wx))
  case first =>
    rcases HWk.out.kind with hk | hk | hk
    · have c1 : (e.kind == 1) = true := by rw [hk]; rfl
      have hh : wHead t e = [] ++ (bs wLocal).data.toList := by unfold wHead; rw [if_pos hk]; rfl
      have HH := Lib.hid hh
      clear hh hk
      go_wp2_with fail
      refine (HWs.out _ [] _ HB5.out (Below.refl _ _) (by simp [ByteArray.size])).mono ?_
      rintro e9 w6 ⟨rfl, h1, h2⟩
      have H6 := Lib.hid (And.intro h1 h2)
      clear h1 h2
      go_wp2_with fail
      go_meet
      case rel => rw [HH.out]; exact H6
    · have c1 : (e.kind == 1) = false := by rw [hk]; rfl
      have c2 : (e.kind == 2) = true := by rw [hk]; rfl
      obtain ⟨h0, yq, hy⟩ := HPe.out (by rw [hk]; decide)
      obtain ⟨q, hq⟩ : ∃ q : Nat, e.peer = (q : Int) := ⟨e.peer.toNat, by omega⟩
      rw [hq, Int.toNat_natCast] at hy
      have hql := (List.getElem?_eq_some_iff.1 hy).1
      have hyn := (HSm.out.each yq (List.mem_of_getElem? hy)).1
      obtain ⟨b', o', hbo, hb', -, -, -, -, f0, -⟩ := HT.out q yq hy
      cases hbo
      have HF0 : Hid (∀ wx, Below bb W5 wx → wx.cell? ⟨ba, oa + q * 3, none⟩ = some (.string yq.name)) := fun wx h => ((HXo.out wx h).below.cell hb').trans f0
      have HF1 : Hid (∀ wx, Below bb W5 wx → ba < wx.heap.size) := fun wx h => Nat.lt_of_lt_of_le hb' (HXo.out wx h).below.size
      have hh : wHead t e = [] ++ (((⟨#[115, 101, 110, 100, 32]⟩ : ByteArray) ++ yq.name) ++ ⟨#[32]⟩ ++ bs (Lib.itoa e.msg)).data.toList := by
        unfold wHead nmOf
        rw [if_neg (by rw [hk]; decide), if_pos hk, hq, Int.toNat_natCast, hy]
        simp [wSend]
      have HH := Lib.hid hh
      have hm := HWk.out.msg
      have hil := HLe.out e.msg hm.1 hm.2
      have hib : (bs (Lib.itoa e.msg)).size = (Lib.itoa e.msg).length := rfl
      have hsa : (⟨#[32]⟩ : ByteArray).size = 1 := rfl
      have hsb : (⟨#[115, 101, 110, 100, 32]⟩ : ByteArray).size = 5 := rfl
      have hsc : (⟨#[114, 101, 99, 101, 105, 118, 101, 32]⟩ : ByteArray).size = 8 := rfl
      have HM := Lib.hid hm
      have m0 : (0 : Int) ≤ (q : Int) := by omega
      have m1 : (q : Int) < (t.length : Int) := by omega
      have hb5 := (HT5.out W5 (Below.refl _ _))
      have he5 := (HE5.out W5 (Below.refl _ _))
      rw [hq] at he5
      have v0 := hb5.cell 0
      have v1 := he5.cell 1
      have v2 := he5.cell 2
      have vl := hb5.lt
      have ul := he5.lt
      have v3 := HF0.out W5 (Below.refl _ _)
      have v4 := HF1.out W5 (Below.refl _ _)
      have HE6 : Hid (∀ wx, Below bb W5 wx → Blk wx eb 38 [.int .i64 e.kind, .int .i64 (q : Int), .int .i64 e.msg, .int .i64 e.time, .slice B e.asg.length bc]) := fun wx h => by rw [← hq]; exact HE5.out wx h
      clear hh hk hy hm h0 hq f0 hb5 he5 hb'
      have z1 : ¬ 9223372036854775807 < 5 + yq.name.size := by omega
      have z2 : ¬ 9223372036854775807 < 5 + yq.name.size + 1 := by omega
      have z3 : ¬ 9223372036854775807 < 5 + yq.name.size + 1 + (Lib.itoa e.msg).length := by omega
      go_upto_region 9 with fail
      go_region_held3 (fun (w' : World) => w'.cell? ⟨w.heap.size, 0, none⟩ = some (.slice (some ⟨ba, oa, none⟩) t.length c) ∧ w'.cell? ⟨eb, 1, none⟩ = some (.int .i64 (q : Int)) ∧ w'.cell? ⟨eb, 2, none⟩ = some (.int .i64 e.msg) ∧ w'.cell? ⟨ba, oa + q * 3, none⟩ = some (.string yq.name))
        (first | exact ⟨v0, v1, v2, v3⟩ | exact ⟨a0, a1, a2, a3⟩ | exact ⟨d0, d1, d2, d3⟩ | go_keep)
        (first
          | (go_at_call 44; refine (HIu.out _ _ [] (by first | exact HB5.out | exact HB5.out.kept (Ex.refl _).drew | exact HB5.out.kept (Ex.refl _).drew.drew) (by first | exact Below.refl _ _ | exact (Below.refl _ _).drew | exact (Below.refl _ _).drew.drew) HM.out.1 HM.out.2).mono ?_; rintro e9 w6 ⟨rfl, g1, g2⟩; have H6 := Lib.hid (And.intro g1 g2); have a0 := (HT5.out w6 g2).cell 0; have a1 := (HE6.out w6 g2).cell 1; have a2 := (HE6.out w6 g2).cell 2; have a3 := HF0.out w6 g2; clear g1 g2)
          | (go_at_call 37; refine (HWs.out _ [] _ (by first | exact H6.out.1 | exact H6.out.1.kept (Ex.refl _).drew | exact H6.out.1.kept (Ex.refl _).drew.drew) (by first | exact H6.out.2 | exact H6.out.2.drew | exact H6.out.2.drew.drew) (by simp [ByteArray.size_append]; omega)).mono ?_; rintro e9 w7 ⟨rfl, g1, g2⟩; have H7 := Lib.hid (And.intro g1 g2); have d0 := (HT5.out w7 g2).cell 0; have d1 := (HE6.out w7 g2).cell 1; have d2 := (HE6.out w7 g2).cell 2; have d3 := HF0.out w7 g2; clear g1 g2))
      try go_wp2_with fail
      go_meet
      case rel => rw [HH.out]; first | exact H7 | exact Lib.hid ⟨H7.out.1.kept (Ex.refl _).drew, H7.out.2.drew⟩
    · have c1 : (e.kind == 1) = false := by rw [hk]; rfl
      have c2 : (e.kind == 2) = false := by rw [hk]; rfl
      obtain ⟨h0, yq, hy⟩ := HPe.out (by rw [hk]; decide)
      obtain ⟨q, hq⟩ : ∃ q : Nat, e.peer = (q : Int) := ⟨e.peer.toNat, by omega⟩
      rw [hq, Int.toNat_natCast] at hy
      have hql := (List.getElem?_eq_some_iff.1 hy).1
      have hyn := (HSm.out.each yq (List.mem_of_getElem? hy)).1
      obtain ⟨b', o', hbo, hb', -, -, -, -, f0, -⟩ := HT.out q yq hy
      cases hbo
      have HF0 : Hid (∀ wx, Below bb W5 wx → wx.cell? ⟨ba, oa + q * 3, none⟩ = some (.string yq.name)) := fun wx h => ((HXo.out wx h).below.cell hb').trans f0
      have HF1 : Hid (∀ wx, Below bb W5 wx → ba < wx.heap.size) := fun wx h => Nat.lt_of_lt_of_le hb' (HXo.out wx h).below.size
      have hh : wHead t e = [] ++ (((⟨#[114, 101, 99, 101, 105, 118, 101, 32]⟩ : ByteArray) ++ yq.name) ++ ⟨#[32]⟩ ++ bs (Lib.itoa e.msg)).data.toList := by
        unfold wHead nmOf
        rw [if_neg (by rw [hk]; decide), if_neg (by rw [hk]; decide), hq, Int.toNat_natCast, hy]
        simp [wReceive]
      have HH := Lib.hid hh
      have hm := HWk.out.msg
      have hil := HLe.out e.msg hm.1 hm.2
      have hib : (bs (Lib.itoa e.msg)).size = (Lib.itoa e.msg).length := rfl
      have hsa : (⟨#[32]⟩ : ByteArray).size = 1 := rfl
      have hsb : (⟨#[115, 101, 110, 100, 32]⟩ : ByteArray).size = 5 := rfl
      have hsc : (⟨#[114, 101, 99, 101, 105, 118, 101, 32]⟩ : ByteArray).size = 8 := rfl
      have HM := Lib.hid hm
      have m0 : (0 : Int) ≤ (q : Int) := by omega
      have m1 : (q : Int) < (t.length : Int) := by omega
      have hb5 := (HT5.out W5 (Below.refl _ _))
      have he5 := (HE5.out W5 (Below.refl _ _))
      rw [hq] at he5
      have v0 := hb5.cell 0
      have v1 := he5.cell 1
      have v2 := he5.cell 2
      have vl := hb5.lt
      have ul := he5.lt
      have v3 := HF0.out W5 (Below.refl _ _)
      have v4 := HF1.out W5 (Below.refl _ _)
      have HE6 : Hid (∀ wx, Below bb W5 wx → Blk wx eb 38 [.int .i64 e.kind, .int .i64 (q : Int), .int .i64 e.msg, .int .i64 e.time, .slice B e.asg.length bc]) := fun wx h => by rw [← hq]; exact HE5.out wx h
      clear hh hk hy hm h0 hq f0 hb5 he5 hb'
      have z1 : ¬ 9223372036854775807 < 8 + yq.name.size := by omega
      have z2 : ¬ 9223372036854775807 < 8 + yq.name.size + 1 := by omega
      have z3 : ¬ 9223372036854775807 < 8 + yq.name.size + 1 + (Lib.itoa e.msg).length := by omega
      go_upto_region 5 with fail
      go_region_held3 (fun (w' : World) => w'.cell? ⟨w.heap.size, 0, none⟩ = some (.slice (some ⟨ba, oa, none⟩) t.length c) ∧ w'.cell? ⟨eb, 1, none⟩ = some (.int .i64 (q : Int)) ∧ w'.cell? ⟨eb, 2, none⟩ = some (.int .i64 e.msg) ∧ w'.cell? ⟨ba, oa + q * 3, none⟩ = some (.string yq.name))
        (first | exact ⟨v0, v1, v2, v3⟩ | exact ⟨a0, a1, a2, a3⟩ | exact ⟨d0, d1, d2, d3⟩ | go_keep)
        (first
          | (go_at_call 44; refine (HIu.out _ _ [] (by first | exact HB5.out | exact HB5.out.kept (Ex.refl _).drew | exact HB5.out.kept (Ex.refl _).drew.drew) (by first | exact Below.refl _ _ | exact (Below.refl _ _).drew | exact (Below.refl _ _).drew.drew) HM.out.1 HM.out.2).mono ?_; rintro e9 w6 ⟨rfl, g1, g2⟩; have H6 := Lib.hid (And.intro g1 g2); have a0 := (HT5.out w6 g2).cell 0; have a1 := (HE6.out w6 g2).cell 1; have a2 := (HE6.out w6 g2).cell 2; have a3 := HF0.out w6 g2; clear g1 g2)
          | (go_at_call 37; refine (HWs.out _ [] _ (by first | exact H6.out.1 | exact H6.out.1.kept (Ex.refl _).drew | exact H6.out.1.kept (Ex.refl _).drew.drew) (by first | exact H6.out.2 | exact H6.out.2.drew | exact H6.out.2.drew.drew) (by simp [ByteArray.size_append]; omega)).mono ?_; rintro e9 w7 ⟨rfl, g1, g2⟩; have H7 := Lib.hid (And.intro g1 g2); have d0 := (HT5.out w7 g2).cell 0; have d1 := (HE6.out w7 g2).cell 1; have d2 := (HE6.out w7 g2).cell 2; have d3 := HF0.out w7 g2; clear g1 g2))
      try go_wp2_with fail
      go_meet
      case rel => rw [HH.out]; first | exact H7 | exact Lib.hid ⟨H7.out.1.kept (Ex.refl _).drew, H7.out.2.drew⟩
  case rest =>
    have HC := hcut
    clear hcut y0 yl
    have htm := HWk.out.time
    have hil2 := HLe.out e.time htm.1 htm.2
    have hib : (bs (Lib.itoa e.time)).size = (Lib.itoa e.time).length := rfl
    have hsa : (⟨#[32, 64]⟩ : ByteArray).size = 2 := rfl
    have hhl := wHead_len HWk.out
    have z1 : ¬ 9223372036854775807 < 2 + (Lib.itoa e.time).length := by omega
    have x3 := (HE5.out wc HC.out.2).cell 3
    have xl := (HE5.out wc HC.out.2).lt
    have HTm := Lib.hid htm
    clear htm
    go_wp2_with fail
    refine (HIu.out _ _ _ HC.out.1 HC.out.2 HTm.out.1 HTm.out.2).mono ?_
    rintro e9 w6 ⟨rfl, g1, g2⟩
    have H6 := Lib.hid (And.intro g1 g2)
    clear g1 g2 x3 xl
    go_wp2_with fail
    refine (HWs.out _ _ _ H6.out.1 H6.out.2 (by simp [ByteArray.size_append]; omega)).mono ?_
    rintro e9 w7 ⟨rfl, g1, g2⟩
    have H7 := Lib.hid (And.intro g1 g2)
    have x4 := (HE5.out w7 g2).cell 4
    have xl := (HE5.out w7 g2).lt
    have hpre : wHead t e ++ ((⟨#[32, 64]⟩ : ByteArray) ++ bs (Lib.itoa e.time)).data.toList = wHead t e ++ 32 :: 64 :: Lib.itoa e.time := by simp
    have hpl : (wHead t e ++ 32 :: 64 :: Lib.itoa e.time).length ≤ 200 := by simp only [List.length_append, List.length_cons]; omega
    have hev : wEv t x.vars e = (wHead t e ++ 32 :: 64 :: Lib.itoa e.time) ++ wAsgs x.vars e.asg := by unfold wEv; simp
    have HPre := Lib.hid hpre
    have HEv := Lib.hid hev
    have HAl : Hid (∀ k, (wAsgs x.vars (e.asg.take k)).length ≤ 39 * k) := fun k => by
      have h1 := wAsgs_len (vars := x.vars) (e.asg.take k) fun a ha => by
        obtain ⟨q1, q2, q3, q4, q5⟩ := HWk.out.asg a (List.mem_of_mem_take ha)
        exact ⟨q1, q4, q5⟩
      have h2 : (e.asg.take k).length ≤ k := by rw [List.length_take]; omega
      exact Nat.le_trans h1 (by omega)
    have HAs : Hid (∀ wx l n v, BdO wx bb bb l → Below bb W5 wx → -1125899906842624 ≤ v → v ≤ 1125899906842624 → l.length + n.size ≤ 100000000000000 → Calls Tryz.prog 38 #[.pointer (some ⟨bb, 0, none⟩), .string n, .int .i64 v] wx (fun e w' => e = .returned (.tuple #[]) ∧ BdO w' bb bb (l ++ wAsg n v) ∧ Below bb W5 w')) := fun wx l n v hb hl h0 h1 hlen => (asgd_c bb bb l n v wx (HE.out wx (HXo.out wx hl)) hb (Nat.le_of_lt hb.lt.1) h0 h1 hlen).mono fun e w' ⟨g1, g2, g3⟩ => ⟨g1, g2, hl.trans g3⟩
    clear g1 g2 hpre hev H6 hil2 hib hsa z1
    rw [HPre.out] at H7
    generalize wHead t e ++ 32 :: 64 :: Lib.itoa e.time = PRE at *
    go_wp2_with fail
    go_loopg [66] e.asg.length (fun gg v wx => ∃ k : Nat, v = .int .i64 (k : Int) ∧ k ≤ e.asg.length ∧ e.asg.length ≤ k + gg ∧ Hid (BdO wx bb bb (PRE ++ wAsgs x.vars (e.asg.take k)) ∧ Below bb W5 wx))
    case atStart => exact ⟨0, rfl, Nat.zero_le _, by omega, Lib.hid ⟨by simpa [wAsgs] using H7.out.1, H7.out.2⟩⟩
    case round =>
      obtain ⟨k, rfl, hk, hkg, HJ⟩ := hrel
      clear x4 xl
      by_cases hkl : k < e.asg.length
      · obtain ⟨n8, rfl⟩ : ∃ n8, gk = n8 + 1 := ⟨gk - 1, by omega⟩
        obtain ⟨a, ha⟩ : ∃ a, e.asg[k]? = some a := ⟨_, List.getElem?_eq_getElem hkl⟩
        obtain ⟨-, hvi, ha0, ha1, ha2⟩ := HWk.out.asg a (List.mem_of_getElem? ha)
        obtain ⟨v, hv, -⟩ := vIdx_some hvi
        have hsn : wAsgs x.vars (e.asg.take (k + 1)) = wAsgs x.vars (e.asg.take k) ++ wAsg v.1 a.2 := by
          have h := wAsgs_snoc (vars := x.vars) ha
          rw [hv] at h
          exact h
        obtain ⟨q, hq⟩ : ∃ q : Nat, a.1 = (q : Int) := ⟨a.1.toNat, by omega⟩
        rw [hq, Int.toNat_natCast] at hv
        have hql := (List.getElem?_eq_some_iff.1 hv).1
        have hvs := HSv.out v (List.mem_of_getElem? hv)
        obtain ⟨b1, o1, rfl, hb1, p0, p1⟩ := (HR.out.ex (HXo.out wr HJ.out.2)).asg ha
        obtain ⟨b2, o2, rfl, hb2, r0, r1⟩ := (HV.out.ex (HXo.out wr HJ.out.2)).var hv
        rw [hq] at p0
        have m0 : (0 : Int) ≤ (k : Int) := by omega
        have m1 : (k : Int) < (e.asg.length : Int) := by omega
        have i0 : (0 : Int) ≤ (q : Int) := by omega
        have i1 : (q : Int) < (x.vars.length : Int) := by omega
        have x1 := (HP5.out wr HJ.out.2).cell 1
        have xl := (HP5.out wr HJ.out.2).lt
        have hal := HAl.out k
        have HSn := Lib.hid hsn
        have HA12 := Lib.hid (And.intro ha1 ha2)
        clear ha hvi ha0 ha1 ha2 hv hsn hq
        obtain ⟨a1, a2⟩ := a
        dsimp only at *
        go_upto_region 14 with fail
        refine wp_region_tail 9 (by kernel_rfl) (by kernel_rfl) ?_
        simp only [List.take_succ_cons, List.take_zero, List.drop_succ_cons, List.drop_zero]
        repeat (go_big_quiet_step (fail))
        refine wpQuiet_on ?_
        go_wp2_with fail
        refine (HAs.out _ _ _ _ (HJ.out.1.kept ((Ex.refl _).alloc _).drew) ((HJ.out.2.alloc (HBl.out _ HJ.out.2) _).drew) HA12.out.1 HA12.out.2 (by rw [List.length_append]; omega)).mono ?_
        rintro e9 w8 ⟨rfl, g1, g2⟩
        rw [List.append_assoc, ← HSn.out] at g1
        have H8 := Lib.hid (And.intro g1 g2)
        clear g1 g2
        go_wp2_with fail
        go_roundg n8
        case measure => omega
        case rel => exact ⟨k + 1, by go_num, by omega, by omega, H8⟩
      · obtain rfl : k = e.asg.length := by omega
        have m1 : decide ((e.asg.length : Int) < (e.asg.length : Int)) = false := decide_eq_false (by omega)
        have h9 := HJ.out.1
        rw [List.take_length, ← HEv.out] at h9
        have HJ9 := Lib.hid (And.intro h9 HJ.out.2)
        clear h9
        go_wp2_with fail
        refine (Tryz.Builder_String_any_f bb bb (wEv t x.vars e) _ (Lib.IsBuilderF.of HJ9.out.1) (HBl.out _ HJ9.out.2)).mono ?_
        rintro e9 w8 ⟨rfl, -, g2⟩
        have HX8 := Lib.hid (HXo.out _ (HJ9.out.2.trans g2))
        clear g2
        go_wp2_with fail
        go_ret
        exact Ret.mk rfl HX8.out
end
end Go.Proofs.YtpmponafjhnegaaGreatDoor
