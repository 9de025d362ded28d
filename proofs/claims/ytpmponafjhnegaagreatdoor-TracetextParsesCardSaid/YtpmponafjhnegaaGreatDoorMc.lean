/-
  The reader of words in memory, and its methods word, fail, more, name, number, assignment, walked.
  Conditions: as each theorem says; the world's tables are as laid (Env).
-/
import Derived.Test.YtpmponafjhnegaaGreatDoorMb
import Derived.BigQuiet
import Derived.BigRegion
import Derived.RegionTactic
import Derived.ChangeAlike
namespace Go.Proofs.YtpmponafjhnegaaGreatDoor
open Go.RowKit Nu
def strV (ws : List (List UInt8)) : List Value := ws.map fun w => .string (bs w)
def natV (l : List Nat) : List Value := l.map fun (n : Nat) => .int .i64 (n : Int)
theorem strV_get {ws : List (List UInt8)} {i : Nat} {w : List UInt8} (h : ws[i]? = some w) : (strV ws)[i]? = some (.string (bs w)) := by unfold strV; rw [List.getElem?_map, h]; rfl
theorem natV_get {l : List Nat} {i n : Nat} (h : l[i]? = some n) : (natV l)[i]? = some (.int .i64 (n : Int)) := by unfold natV; rw [List.getElem?_map, h]; rfl
/-- cells of a block of one type -/
def Rt (w : World) (t : TypeId) (b o : Nat) (xs : List Value) : Prop := Rw w b o xs ∧ ∃ cur, w.heap[b]? = some (.cells cur t (0, 0))
theorem Rt.far {w : World} {t b o : Nat} {xs : List Value} (h : Rt w t b o xs) {p : Addr} (hb : b ≠ p.block) (u : Value) : Rt (w.setCell p u) t b o xs := by
  obtain ⟨h1, cur, h2⟩ := h
  exact ⟨h1.far hb u, cur, (Below.heap_setCell w p u b hb).trans h2⟩
theorem Rt.ne {w : World} {t b o : Nat} {xs : List Value} (h : Rt w t b o xs) {g t' : Nat} {cs : List Value} (hB : Blk w g t' cs) (hne : t ≠ t') : b ≠ g := by
  obtain ⟨-, cur, h2⟩ := h
  rintro rfl
  unfold Blk at hB
  rw [hB] at h2
  injection h2 with h2
  injection h2 with _ ht
  exact hne ht.symm
/-- the reader at block g: its words, their columns, the end, and where it stands -/
def RdC (w : World) (g : Nat) (ws : List (List UInt8)) (cs : List Nat) (en : Nat) (s : Rst) : Prop :=
  ∃ ba oa ca bc oc cc, (ba ≠ g ∧ bc ≠ g) ∧ (ws.length ≤ ca ∧ ws.length ≤ cc ∧ s.at_ ≤ ws.length ∧ ws.length ≤ 100000 ∧ cs.length = ws.length) ∧
    Blk w g 95 [.slice (some ⟨ba, oa, none⟩) ws.length ca, .slice (some ⟨bc, oc, none⟩) ws.length cc, .int .i64 (en : Int), .int .i64 (s.at_ : Int), .int .i64 s.e, .int .i64 (s.c : Int)] ∧
    Rt w 9 ba oa (strV ws) ∧ Rt w 3 bc oc (natV cs)
theorem Rt.ex {w w' : World} {t b o : Nat} {xs : List Value} (h : Rt w t b o xs) (hx : Ex w w') : Rt w' t b o xs := by
  obtain ⟨h1, cur, h2⟩ := h
  exact ⟨h1.keep hx.below.size (hx.below.block b h1.1), cur, (hx.below.block b h1.1).trans h2⟩
theorem Rw.ex {w w' : World} {b o : Nat} {xs : List Value} (h : Rw w b o xs) (hx : Ex w w') : Rw w' b o xs := h.keep hx.below.size (hx.below.block b h.1)
section
variable {w w' : World} {g : Nat} {ws : List (List UInt8)} {cs : List Nat} {en : Nat} {s : Rst}
theorem RdC.ex (h : RdC w g ws cs en s) (hx : Ex w w') : RdC w' g ws cs en s := by
  obtain ⟨ba, oa, ca, bc, oc, cc, h1, h2, h3, h4, h5⟩ := h
  exact ⟨ba, oa, ca, bc, oc, cc, h1, h2, h3.ex hx, h4.ex hx, h5.ex hx⟩
theorem RdC.lt (h : RdC w g ws cs en s) : g < w.heap.size := by
  obtain ⟨ba, oa, ca, bc, oc, cc, h1, h2, h3, h4, h5⟩ := h
  exact h3.lt
theorem RdC.err {a c : Nat} {e : Int} (h : RdC w g ws cs en ⟨a, e, c⟩) (e' : Int) (c' : Nat) : RdC ((w.setCell ⟨g, 4, none⟩ (.int .i64 e')).setCell ⟨g, 5, none⟩ (.int .i64 (c' : Int))) g ws cs en ⟨a, e', c'⟩ := by
  obtain ⟨ba, oa, ca, bc, oc, cc, h1, h2, h3, h4, h5⟩ := h
  exact ⟨ba, oa, ca, bc, oc, cc, h1, h2, (h3.set_ 4 _).set_ 5 _, (h4.far (p := ⟨g, 4, none⟩) h1.1 _).far (p := ⟨g, 5, none⟩) h1.1 _, (h5.far (p := ⟨g, 4, none⟩) h1.2 _).far (p := ⟨g, 5, none⟩) h1.2 _⟩
theorem RdC.adv {a c : Nat} {e : Int} (h : RdC w g ws cs en ⟨a, e, c⟩) (ha : a < ws.length) : RdC (w.setCell ⟨g, 3, none⟩ (.int .i64 ((a + 1 : Nat) : Int))) g ws cs en ⟨a + 1, e, c⟩ := by
  obtain ⟨ba, oa, ca, bc, oc, cc, h1, h2, h3, h4, h5⟩ := h
  exact ⟨ba, oa, ca, bc, oc, cc, h1, ⟨h2.1, h2.2.1, ha, h2.2.2.2⟩, h3.set_ 3 _, h4.far (p := ⟨g, 3, none⟩) h1.1 _, h5.far (p := ⟨g, 3, none⟩) h1.2 _⟩
end
/-- a block of another kind is written -/
theorem RdC.other {w : World} {g : Nat} {ws : List (List UInt8)} {cs : List Nat} {en : Nat} {s : Rst} (h : RdC w g ws cs en s) {b t : Nat} {cs' : List Value} (hB : Blk w b t cs') (h1 : 95 ≠ t) (h2 : 9 ≠ t) (h3 : 3 ≠ t) (o : Nat) (u : Value) : RdC (w.setCell ⟨b, o, none⟩ u) g ws cs en s := by
  obtain ⟨ba, oa, ca, bc, oc, cc, k1, k2, k3, k4, k5⟩ := h
  exact ⟨ba, oa, ca, bc, oc, cc, k1, k2, k3.far (p := ⟨b, o, none⟩) (k3.ne hB h1) u, k4.far (p := ⟨b, o, none⟩) (k4.ne hB h2) u, k5.far (p := ⟨b, o, none⟩) (k5.ne hB h3) u⟩
theorem RdC.grown {w w' : World} {g : Nat} {ws : List (List UInt8)} {cs : List Nat} {en : Nat} {s : Rst} (h : RdC w g ws cs en s) {row : Option Nat} (hg : w.grownBy w' row) (h1 : some g ≠ row)
    (h2 : ∀ b, row = some b → (∃ cur, w.heap[b]? = some (.cells cur 9 (0, 0))) ∨ (∃ cur, w.heap[b]? = some (.cells cur 3 (0, 0))) → False) : RdC w' g ws cs en s := by
  obtain ⟨ba, oa, ca, bc, oc, cc, k1, k2, k3, k4, k5⟩ := h
  have e1 : w'.heap[ba]? = w.heap[ba]? := hg.block ba k4.1.1 fun e => h2 ba e.symm (.inl k4.2)
  have e2 : w'.heap[bc]? = w.heap[bc]? := hg.block bc k5.1.1 fun e => h2 bc e.symm (.inr k5.2)
  obtain ⟨k4a, cur, k4b⟩ := k4
  obtain ⟨k5a, cur', k5b⟩ := k5
  exact ⟨ba, oa, ca, bc, oc, cc, k1, k2, (hg.block g k3.lt h1).trans k3, ⟨k4a.keep hg.size e1, cur, e1.trans k4b⟩, ⟨k5a.keep hg.size e2, cur', e2.trans k5b⟩⟩
/-- a method that hands back v and leaves the reader at s -/
def Rdr (w : World) (g : Nat) (ws : List (List UInt8)) (cs : List Nat) (en : Nat) (v : Value) (s : Rst) (e : Ending) (w' : World) : Prop := e = .returned v ∧ RdC w' g ws cs en s ∧ Exg g w w'
section
variable (g : Nat) (ws : List (List UInt8)) (cs : List Nat) (en : Nat)
set_option maxRecDepth 20000 in
set_option maxHeartbeats 1600000 in
theorem word_c (s : Rst) (w : World) (h : RdC w g ws cs en s) :
    Calls Tryz.prog 54 #[.pointer (some ⟨g, 0, none⟩)] w (Rdr w g ws cs en (.string (bs (wordF ws en s).1)) (wordF ws en s).2) := by
  have HR := Lib.hid h
  obtain ⟨ba, oa, ca, bc, oc, cc, h1, h2, h3, h4, h5⟩ := h
  obtain ⟨a, e, c⟩ := s
  have lg := h3.lt
  have c3 : w.cell? ⟨g, 3, none⟩ = some (.int .i64 (a : Int)) := h3.cell 3
  have c4 : w.cell? ⟨g, 4, none⟩ = some (.int .i64 e) := h3.cell 4
  by_cases he : e = 0
  · subst he
    have c0 : w.cell? ⟨g, 0, none⟩ = some (.slice (some ⟨ba, oa, none⟩) ws.length ca) := h3.cell 0
    have c2 : w.cell? ⟨g, 2, none⟩ = some (.int .i64 (en : Int)) := h3.cell 2
    have c5 : w.cell? ⟨g, 5, none⟩ = some (.int .i64 (c : Int)) := h3.cell 5
    have f3 := h3.frozen 3
    have f4 := h3.frozen 4
    have f5 := h3.frozen 5
    obtain ⟨-, -, hal, hwl, -⟩ := h2
    dsimp only at hal
    by_cases ha : a = ws.length
    · have hw := word_end ws en (s := ⟨a, 0, c⟩) rfl (List.getElem?_eq_none_iff.2 (by dsimp only; omega))
      rw [hw]
      have b1 : ((a : Int) == (ws.length : Int)) = true := beq_iff_eq.2 (by omega)
      have HN := Lib.hid (fun w' (hx : Ex w w') => RdC.err (HR.out.ex hx) 3 en)
      clear h1 h3 h4 h5 hw ha hal
      unfold Rdr
      go_enter Tryz.func54, Tryz.ntmps54
      go_wp2_with fail
      go_quiet (fail)
      go_wp2_with fail
      go_ret
      exact ⟨rfl, HN.out _ ((Ex.refl _).drewN _), (((Exg.of ((Ex.refl w).drewN _))).seto _ _).seto _ _⟩
    · have ha2 : a < ws.length := by omega
      obtain ⟨W, hW⟩ : ∃ W, ws[a]? = some W := ⟨_, List.getElem?_eq_getElem ha2⟩
      have hw := word_at ws en (s := ⟨a, 0, c⟩) rfl hW
      rw [hw]
      dsimp only
      have b1 : ((a : Int) == (ws.length : Int)) = false := beq_eq_false_iff_ne.2 (by omega)
      have m0 : (0 : Int) ≤ (a : Int) := by omega
      have m1 : (a : Int) < (ws.length : Int) := by omega
      have q1 : IntKind.i64.wrap ((a : Int) + 1) = (a : Int) + 1 := IntWalk.i64_in _ (by omega)
      have q2 : IntKind.i64.wrap ((a : Int) + 1 - 1) = (a : Int) := by rw [Int.add_sub_cancel]; exact IntWalk.i64_in _ (by omega)
      have q3 : IntKind.i64.wrap (a : Int) = (a : Int) := IntWalk.i64_in _ (by omega)
      have d0 := h4.1.2 _ _ (strV_get hW)
      have HN := Lib.hid (fun w' (hx : Ex w w') => RdC.adv (HR.out.ex hx) ha2)
      have la := h4.1.1
      have hne := h1.1
      clear h1 h3 h4 h5 hw ha hal hW
      unfold Rdr
      go_enter Tryz.func54, Tryz.ntmps54
      go_wp2_with fail
      go_quiet (fail)
      go_wp2_with fail
      go_quiet (fail)
      go_wp2_with fail
      go_ret
      exact ⟨rfl, (HN.out _ ((Ex.refl _).drewN _)).ex ((Ex.refl _).drewN _), ((Exg.of ((Ex.refl w).drewN _)).seto _ _).ex ((Ex.refl _).drewN _)⟩
  · have hw := word_dead ws en (s := ⟨a, e, c⟩) he
    rw [hw]
    have be : (e != 0) = true := by rw [bne_iff_ne]; exact he
    have be2 : (e == 0) = false := beq_eq_false_iff_ne.2 he
    clear h1 h2 h3 h4 h5 he hw
    unfold Rdr
    go_enter Tryz.func54, Tryz.ntmps54
    go_wp2_with fail
    go_ret
    exact ⟨rfl, HR.out, Exg.refl g w⟩
set_option maxRecDepth 20000 in
set_option maxHeartbeats 1600000 in
theorem fail_c (E : Int) (s : Rst) (w : World) (h : RdC w g ws cs en s) (hs : s.e = 0 → 1 ≤ s.at_) :
    Calls Tryz.prog 55 #[.pointer (some ⟨g, 0, none⟩), .int .i64 E] w (Rdr w g ws cs en (.tuple #[]) (failF cs E s)) := by
  have HR := Lib.hid h
  obtain ⟨ba, oa, ca, bc, oc, cc, h1, h2, h3, h4, h5⟩ := h
  obtain ⟨a, e, c⟩ := s
  dsimp only at hs
  have lg := h3.lt
  have c4 : w.cell? ⟨g, 4, none⟩ = some (.int .i64 e) := h3.cell 4
  by_cases he : e = 0
  · subst he
    have ha1 := hs rfl
    have c1 : w.cell? ⟨g, 1, none⟩ = some (.slice (some ⟨bc, oc, none⟩) ws.length cc) := h3.cell 1
    have c3 : w.cell? ⟨g, 3, none⟩ = some (.int .i64 (a : Int)) := h3.cell 3
    have c5 : w.cell? ⟨g, 5, none⟩ = some (.int .i64 (c : Int)) := h3.cell 5
    have f4 := h3.frozen 4
    have f5 := h3.frozen 5
    obtain ⟨-, -, hal, hwl, hcl⟩ := h2
    dsimp only at hal
    obtain ⟨k, rfl⟩ : ∃ k, a = k + 1 := ⟨a - 1, by omega⟩
    obtain ⟨C, hC⟩ : ∃ C, cs[k]? = some C := ⟨_, List.getElem?_eq_getElem (by omega)⟩
    have hf : failF cs E ⟨k + 1, 0, c⟩ = ⟨k + 1, E, C⟩ := by
      unfold failF
      rw [if_pos rfl]
      dsimp only
      rw [Nat.add_sub_cancel, List.getD_eq_getElem?_getD, hC]
      rfl
    rw [hf]
    have m0 : (0 : Int) ≤ (k : Int) := by omega
    have m1 : (k : Int) < (ws.length : Int) := by omega
    have q2 : IntKind.i64.wrap ((k : Int) + 1 - 1) = (k : Int) := by rw [Int.add_sub_cancel]; exact IntWalk.i64_in _ (by omega)
    have q3 : IntKind.i64.wrap (k : Int) = (k : Int) := IntWalk.i64_in _ (by omega)
    have d0 := h5.1.2 _ _ (natV_get hC)
    have HN := Lib.hid (fun w' (hx : Ex w w') => RdC.err (HR.out.ex hx) E C)
    have lc := h5.1.1
    have hne := h1.2
    have hne2 := h1.2.symm
    clear h1 h3 h4 h5 hf ha1 hal hC hs hcl
    unfold Rdr
    go_enter Tryz.func55, Tryz.ntmps55
    go_wp2_with fail
    go_region
    go_wp2_with fail
    go_end0
    exact ⟨rfl, (HN.out _ (Ex.refl _)).ex (Ex.refl _).drew, (((Exg.refl g w).seto _ _).seto _ _).drew⟩
  · rw [fail_dead cs E (s := ⟨a, e, c⟩) he]
    have be : (e == 0) = false := beq_eq_false_iff_ne.2 he
    have be2 : (e != 0) = true := by rw [bne_iff_ne]; exact he
    clear h1 h2 h3 h4 h5 he hs
    unfold Rdr
    go_enter Tryz.func55, Tryz.ntmps55
    go_wp2_with fail
    go_end0
    exact ⟨rfl, HR.out, Exg.refl g w⟩
set_option maxRecDepth 20000 in
theorem more_c (s : Rst) (w : World) (h : RdC w g ws cs en s) :
    Calls Tryz.prog 57 #[.pointer (some ⟨g, 0, none⟩)] w (Ret w (.bool (moreF ws s))) := by
  obtain ⟨ba, oa, ca, bc, oc, cc, h1, h2, h3, h4, h5⟩ := h
  obtain ⟨a, e, c⟩ := s
  have lg := h3.lt
  have c4 : w.cell? ⟨g, 4, none⟩ = some (.int .i64 e) := h3.cell 4
  unfold moreF
  dsimp only
  by_cases he : e = 0
  · subst he
    have c0 : w.cell? ⟨g, 0, none⟩ = some (.slice (some ⟨ba, oa, none⟩) ws.length ca) := h3.cell 0
    have c3 : w.cell? ⟨g, 3, none⟩ = some (.int .i64 (a : Int)) := h3.cell 3
    by_cases ha : a < ws.length
    · have b1 : decide ((a : Int) < (ws.length : Int)) = true := decide_eq_true (by omega)
      clear h1 h2 h3 h4 h5 ha
      go_enter Tryz.func57, Tryz.ntmps57
      go_wp2_with fail
      go_quiet (fail)
      go_wp2_with fail
      go_ret
      exact Ret.mk (by simp) ((Ex.refl _).drewN _)
    · have b1 : decide ((a : Int) < (ws.length : Int)) = false := decide_eq_false (by omega)
      clear h1 h2 h3 h4 h5 ha
      go_enter Tryz.func57, Tryz.ntmps57
      go_wp2_with fail
      go_quiet (fail)
      go_wp2_with fail
      go_ret
      exact Ret.mk (by simp) ((Ex.refl _).drewN _)
  · rw [decide_eq_false he]
    have be : (e == 0) = false := beq_eq_false_iff_ne.2 he
    clear h1 h2 h3 h4 h5 he
    go_enter Tryz.func57, Tryz.ntmps57
    go_wp2_with fail
    go_quiet (fail)
    go_wp2_with fail
    go_ret
    exact Ret.mk rfl ((Ex.refl _).drewN _)
end
/-- in two at the first sign c -/
def cutG (c : UInt8) (l : List UInt8) : List UInt8 × List UInt8 × Bool := match cutC c l with | some (n, v) => (n, v, true) | none => (l, [], false)
theorem cutF_G (l : List UInt8) : cutF l = cutG 61 l := rfl
theorem cut_c (c : UInt8) (l : List UInt8) (w : World) (hE : Env w) (hl : l.length ≤ 100000) : Calls Tryz.prog 48 #[.string (bs l), .string ⟨#[c]⟩] w (Ret w (.tuple #[.string (bs (cutG c l).1), .string (bs (cutG c l).2.1), .bool (cutG c l).2.2])) := by
  obtain ⟨-, m, hm⟩ := hE.max
  refine (Tryz.strings_Cut (bs l) ⟨#[c]⟩ m w (by show l.length < _; omega) hm).mono ?_
  rintro e w' ⟨rfl, n, rfl⟩
  refine ⟨?_, (Ex.refl w).drewN n⟩
  have : Lib.cut (bs l).data.toList (⟨#[c]⟩ : ByteArray).data.toList = cutG c l := by
    show Lib.cut l [c] = _
    rw [lib_cut]
    unfold cutG
    cases cutC c l with
    | none => rfl
    | some x => rfl
  rw [this]
section
variable (g : Nat) (ws : List (List UInt8)) (cs : List Nat) (en : Nat)
theorem word_pos (s : Rst) (h : (wordF ws en s).2.e = 0) : 1 ≤ (wordF ws en s).2.at_ := by
  unfold wordF at h ⊢
  by_cases he : s.e = 0
  · rw [if_pos he] at h ⊢
    cases hw : ws[s.at_]? with
    | none => rw [hw] at h; exact absurd h (by simp)
    | some w => simp
  · rw [if_neg he] at h
    exact absurd h he
theorem word_len (hws : ∀ w ∈ ws, w.length ≤ 20000) (s : Rst) : (wordF ws en s).1.length ≤ 20000 := by
  unfold wordF
  by_cases he : s.e = 0
  · rw [if_pos he]
    cases hw : ws[s.at_]? with
    | none => simp
    | some w => exact hws w (List.mem_of_getElem? hw)
  · rw [if_neg he]; simp
theorem RdC.cell4 {w : World} {s : Rst} (h : RdC w g ws cs en s) : w.cell? ⟨g, 4, none⟩ = some (.int .i64 s.e) := by
  obtain ⟨ba, oa, ca, bc, oc, cc, h1, h2, h3, h4, h5⟩ := h
  exact h3.cell 4
set_option maxRecDepth 20000 in
set_option maxHeartbeats 1600000 in
theorem number_c (S : ByteArray) (ok : Bool) (s : Rst) (w : World) (hE : Env w) (h : RdC w g ws cs en s) (hs : s.e = 0 → 1 ≤ s.at_) (hS : S.size ≤ 20000) :
    Calls Tryz.prog 81 #[.pointer (some ⟨g, 0, none⟩), .string S, .bool ok] w (Rdr w g ws cs en (.int .i64 (numF cs S.data.toList ok s).1) (numF cs S.data.toList ok s).2) := by
  have HR := Lib.hid h
  have lg := h.lt
  have c4 := h.cell4
  have HFl := Lib.hid (fun E w' (hx : Ex w w') => fail_c g ws cs en E s w' (HR.out.ex hx) hs)
  unfold Rdr at *
  by_cases he : s.e = 0
  · rw [he] at c4
    cases ok with
    | false =>
      have hn : numF cs S.data.toList false s = (0, failF cs 3 s) := by unfold numF; rw [if_pos he]; rfl
      rw [hn]
      dsimp only
      have H3 := Lib.hid (HFl.out 3 w (Ex.refl w))
      clear h hE hs hn he HFl
      generalize failF cs 3 s = s2 at *
      go_enter Tryz.func81, Tryz.ntmps81
      go_wp2_with fail
      refine (H3.out).mono ?_
      rintro e9 w1 ⟨rfl, h1, h2⟩
      have HR1 := Lib.hid h1
      have HG := Lib.hid h2
      clear h1 h2
      go_wp2_with fail
      go_ret
      exact ⟨rfl, HR1.out, HG.out⟩
    | true =>
      have HD := Lib.hid (decimal_c S w hE hS)
      by_cases hp : parE S.data.toList = 0
      · have hn : numF cs S.data.toList true s = (parV S.data.toList, s) := by unfold numF; rw [if_pos he, if_pos rfl, if_pos hp]
        rw [hn]
        dsimp only
        rw [hp] at HD
        unfold Two at HD
        clear h hE hs hn he HFl hp
        generalize parV S.data.toList = V at *
        go_enter Tryz.func81, Tryz.ntmps81
        go_wp2_with fail
        refine (HD.out).mono ?_
        rintro e9 w1 ⟨rfl, hx1⟩
        have HX := Lib.hid hx1
        clear hx1
        go_wp2_with fail
        go_ret
        exact ⟨rfl, HR.out.ex HX.out, Exg.of HX.out⟩
      · have hn : numF cs S.data.toList true s = (parV S.data.toList, failF cs (parE S.data.toList) s) := by unfold numF; rw [if_pos he, if_pos rfl, if_neg hp]
        rw [hn]
        dsimp only
        have H3 := Lib.hid (HFl.out (parE S.data.toList))
        unfold Two at HD
        have be : (parE S.data.toList != 0) = true := by rw [bne_iff_ne]; exact hp
        have be2 : (parE S.data.toList == 0) = false := beq_eq_false_iff_ne.2 hp
        clear h hE hs hn he HFl hp
        generalize failF cs (parE S.data.toList) s = s2 at *
        generalize parV S.data.toList = V at *
        generalize parE S.data.toList = E at *
        go_enter Tryz.func81, Tryz.ntmps81
        go_wp2_with fail
        refine (HD.out).mono ?_
        rintro e9 w1 ⟨rfl, hx1⟩
        have HX := Lib.hid hx1
        clear hx1
        go_wp2_with fail
        refine (H3.out _ HX.out).mono ?_
        rintro e9 w2 ⟨rfl, h1, h2⟩
        have HR1 := Lib.hid h1
        have HG := Lib.hid ((Exg.of HX.out).trans h2)
        clear h1 h2
        go_wp2_with fail
        go_ret
        exact ⟨rfl, HR1.out, HG.out⟩
  · rw [num_dead cs _ ok he]
    have be : (s.e != 0) = true := by rw [bne_iff_ne]; exact he
    have be2 : (s.e == 0) = false := beq_eq_false_iff_ne.2 he
    clear h hE hs HFl he
    go_enter Tryz.func81, Tryz.ntmps81
    go_wp2_with fail
    go_ret
    exact ⟨rfl, HR.out, Exg.refl g w⟩
set_option maxRecDepth 20000 in
set_option maxHeartbeats 1600000 in
theorem name_c (hws : ∀ w ∈ ws, w.length ≤ 20000) (s : Rst) (w : World) (h : RdC w g ws cs en s) :
    Calls Tryz.prog 56 #[.pointer (some ⟨g, 0, none⟩)] w (Rdr w g ws cs en (.string (bs (nameF ws cs en s).1)) (nameF ws cs en s).2) := by
  have HW := Lib.hid (word_c g ws cs en s w h)
  have hpos := word_pos ws en s
  have hlen := word_len ws en hws s
  unfold nameF
  unfold Rdr at *
  generalize hW : wordF ws en s = W at *
  obtain ⟨l, s1⟩ := W
  dsimp only at *
  clear hW h
  have HN := Lib.hid (fun w' => tName_c (bs l) w' (by show l.length ≤ _; unfold maxLen; omega))
  by_cases he : s1.e = 0
  · rw [if_pos he]
    have HFl := Lib.hid (fun w' (h : RdC w' g ws cs en s1) => fail_c g ws cs en 3 s1 w' h hpos)
    unfold Rdr at HFl
    cases hb : nameB (bs l) with
    | true =>
      rw [hb] at HN
      rw [if_pos rfl]
      dsimp only
      clear hb hpos hlen HFl
      go_enter Tryz.func56, Tryz.ntmps56
      go_wp2_with fail
      refine (HW.out).mono ?_
      rintro e9 w1 ⟨rfl, h1, h2⟩
      have c4 := h1.cell4
      rw [he] at c4
      have lg := h1.lt
      have HR1 := Lib.hid h1
      have HG := Lib.hid h2
      clear h1 h2
      go_wp2_with fail
      refine (HN.out _).mono ?_
      rintro e9 w2 ⟨rfl, hx⟩
      have HX := Lib.hid hx
      clear hx
      go_wp2_with fail
      go_ret
      exact ⟨rfl, HR1.out.ex HX.out, HG.out.ex HX.out⟩
    | false =>
      rw [hb] at HN
      rw [if_neg (by decide)]
      dsimp only
      clear hb hpos hlen
      generalize failF cs 3 s1 = s2 at *
      go_enter Tryz.func56, Tryz.ntmps56
      go_wp2_with fail
      refine (HW.out).mono ?_
      rintro e9 w1 ⟨rfl, h1, h2⟩
      have c4 := h1.cell4
      rw [he] at c4
      have lg := h1.lt
      have HR1 := Lib.hid h1
      have HG := Lib.hid h2
      clear h1 h2
      go_wp2_with fail
      refine (HN.out _).mono ?_
      rintro e9 w2 ⟨rfl, hx⟩
      have HX := Lib.hid hx
      clear hx
      go_wp2_with fail
      refine (HFl.out _ (HR1.out.ex HX.out)).mono ?_
      rintro e9 w3 ⟨rfl, h1, h2⟩
      have HR3 := Lib.hid h1
      have HG3 := Lib.hid ((HG.out.ex HX.out).trans h2)
      clear h1 h2
      go_wp2_with fail
      go_ret
      exact ⟨rfl, HR3.out, HG3.out⟩
  · rw [if_neg he]
    dsimp only
    have be : (s1.e == 0) = false := beq_eq_false_iff_ne.2 he
    clear hpos hlen he HN
    go_enter Tryz.func56, Tryz.ntmps56
    go_wp2_with fail
    refine (HW.out).mono ?_
    rintro e9 w1 ⟨rfl, h1, h2⟩
    have c4 := h1.cell4
    have lg := h1.lt
    have HR1 := Lib.hid h1
    have HG := Lib.hid h2
    clear h1 h2
    go_wp2_with fail
    go_ret
    exact ⟨rfl, HR1.out, HG.out⟩
theorem cutC_len {c : UInt8} {l a b : List UInt8} (h : cutC c l = some (a, b)) : a.length ≤ l.length ∧ b.length ≤ l.length := by
  obtain ⟨rfl, -⟩ := cutC_some h
  simp
  omega
theorem cutG_len (c : UInt8) (l : List UInt8) : (cutG c l).1.length ≤ l.length ∧ (cutG c l).2.1.length ≤ l.length := by
  unfold cutG
  cases h : cutC c l with
  | none => simp
  | some x => obtain ⟨a, b⟩ := x; exact cutC_len h
set_option maxRecDepth 20000 in
set_option maxHeartbeats 3200000 in
theorem assignment_c (hws : ∀ w ∈ ws, w.length ≤ 20000) (s : Rst) (w : World) (h : RdC w g ws cs en s) (hgE : ∀ w', Exg g w w' → Env w') :
    Calls Tryz.prog 58 #[.pointer (some ⟨g, 0, none⟩)] w (Rdr w g ws cs en (.tuple #[.string (bs (asgF ws cs en s).1), .int .i64 (asgF ws cs en s).2.1]) (asgF ws cs en s).2.2) := by
  have HW := Lib.hid (word_c g ws cs en s w h)
  have hpos := word_pos ws en s
  have hlen := word_len ws en hws s
  unfold asgF
  unfold Rdr at *
  generalize hW : wordF ws en s = W at *
  obtain ⟨l, s1⟩ := W
  dsimp only at *
  have HC := Lib.hid (fun w' (hx : Exg g w w') => cut_c 61 l w' (hgE w' hx) (by omega))
  obtain ⟨hc1, hc2⟩ := cutG_len 61 l
  rw [cutF_G]
  generalize hG : cutG 61 l = G at *
  obtain ⟨nm, v, ok⟩ := G
  dsimp only at *
  have HN := Lib.hid (fun w' => tName_c (bs nm) w' (by show nm.length ≤ _; unfold maxLen; omega))
  have HNum := Lib.hid (fun ok w' (hx : Exg g w w') (h : RdC w' g ws cs en s1) => number_c g ws cs en (bs v) ok s1 w' (hgE w' hx) h hpos (by show v.length ≤ _; omega))
  unfold Rdr at HNum
  clear hW h hG hgE hpos hlen hc1 hc2 hws
  by_cases he : s1.e = 0
  · have HNu2 := Lib.hid (HNum.out (ok && nameB (bs nm)))
    cases hb : nameB (bs nm) with
    | true =>
      rw [hb] at HN HNu2
      rw [Bool.and_true] at HNu2 ⊢
      clear hb HNum
      generalize numF cs v ok s1 = M at *
      obtain ⟨mv, s2⟩ := M
      dsimp only at *
      go_enter Tryz.func58, Tryz.ntmps58
      go_wp2_with fail
      refine (HW.out).mono ?_
      rintro e9 w1 ⟨rfl, h1, h2⟩
      have c4 := h1.cell4
      rw [he] at c4
      have lg := h1.lt
      have HR1 := Lib.hid h1
      have HG := Lib.hid h2
      clear h1 h2
      go_wp2_with fail
      refine (HC.out _ HG.out).mono ?_
      rintro e9 w2 ⟨rfl, hx⟩
      have HX := Lib.hid hx
      have HR2 := Lib.hid (HR1.out.ex hx)
      have c42 := HR2.out.cell4
      rw [he] at c42
      have lg2 := HR2.out.lt
      clear hx c4 lg
      go_wp2_with fail
      refine (HN.out _).mono ?_
      rintro e9 w3 ⟨rfl, hx⟩
      have HX3 := Lib.hid (HX.out.trans hx)
      clear hx
      go_wp2_with fail
      refine (HNu2.out _ (HG.out.ex HX3.out) (HR1.out.ex HX3.out)).mono ?_
      rintro e9 w4 ⟨rfl, h1, h2⟩
      have HR4 := Lib.hid h1
      have HG4 := Lib.hid ((HG.out.ex HX3.out).trans h2)
      clear h1 h2
      go_wp2_with fail
      go_ret2
      exact ⟨rfl, HR4.out, HG4.out⟩
    | false =>
      rw [hb] at HN HNu2
      rw [Bool.and_false] at HNu2 ⊢
      clear hb HNum
      generalize numF cs v false s1 = M at *
      obtain ⟨mv, s2⟩ := M
      dsimp only at *
      go_enter Tryz.func58, Tryz.ntmps58
      go_wp2_with fail
      refine (HW.out).mono ?_
      rintro e9 w1 ⟨rfl, h1, h2⟩
      have c4 := h1.cell4
      rw [he] at c4
      have lg := h1.lt
      have HR1 := Lib.hid h1
      have HG := Lib.hid h2
      clear h1 h2
      go_wp2_with fail
      refine (HC.out _ HG.out).mono ?_
      rintro e9 w2 ⟨rfl, hx⟩
      have HX := Lib.hid hx
      have HR2 := Lib.hid (HR1.out.ex hx)
      have c42 := HR2.out.cell4
      rw [he] at c42
      have lg2 := HR2.out.lt
      clear hx c4 lg
      go_wp2_with fail
      refine (HN.out _).mono ?_
      rintro e9 w3 ⟨rfl, hx⟩
      have HX3 := Lib.hid (HX.out.trans hx)
      clear hx
      go_wp2_with fail
      refine (HNu2.out _ (HG.out.ex HX3.out) (HR1.out.ex HX3.out)).mono ?_
      rintro e9 w4 ⟨rfl, h1, h2⟩
      have HR4 := Lib.hid h1
      have HG4 := Lib.hid ((HG.out.ex HX3.out).trans h2)
      clear h1 h2
      go_wp2_with fail
      go_ret2
      exact ⟨rfl, HR4.out, HG4.out⟩
  · have be : (s1.e == 0) = false := beq_eq_false_iff_ne.2 he
    have hd : ∀ o, numF cs v o s1 = (0, s1) := fun o => num_dead cs v o he
    rw [hd]
    have HNu2 := Lib.hid (HNum.out ok)
    have hv : (bs v).data.toList = v := rfl
    rw [hv, hd] at HNu2
    dsimp only at *
    clear HNum he HN hd hv
    go_enter Tryz.func58, Tryz.ntmps58
    go_wp2_with fail
    refine (HW.out).mono ?_
    rintro e9 w1 ⟨rfl, h1, h2⟩
    have c4 := h1.cell4
    have lg := h1.lt
    have HR1 := Lib.hid h1
    have HG := Lib.hid h2
    clear h1 h2
    go_wp2_with fail
    refine (HC.out _ HG.out).mono ?_
    rintro e9 w2 ⟨rfl, hx⟩
    have HX := Lib.hid hx
    have HR2 := Lib.hid (HR1.out.ex hx)
    have c42 := HR2.out.cell4
    have lg2 := HR2.out.lt
    clear hx c4 lg
    go_wp2_with fail
    refine (HNu2.out _ (HG.out.ex HX.out) (HR1.out.ex HX.out)).mono ?_
    rintro e9 w4 ⟨rfl, h1, h2⟩
    have HR4 := Lib.hid h1
    have HG4 := Lib.hid ((HG.out.ex HX.out).trans h2)
    clear h1 h2
    go_wp2_with fail
    go_ret2
    exact ⟨rfl, HR4.out, HG4.out⟩
end
end Go.Proofs.YtpmponafjhnegaaGreatDoor
