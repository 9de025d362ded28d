/-
  The parser's levels, walked: what a level leaves; neg.
  Conditions: as each theorem says.
-/
import Derived.Test.YthjalkonlcjhnaaGreatDoorQd
import Derived.Deep.RegionWith
import Derived.Deep.LoopGhost
namespace Go.Proofs.YthjalkonlcjhnaaGreatDoor
open Go.RowKit
/-- what a level leaves behind a call at w -/
def TreeR (w : World) (g b : Nat) (r : Tr × St) (e : Ending) (w' : World) : Prop :=
  ∃ (k n p q : Int) (s : ByteArray) (A : Option Addr) (m c : Nat), e = .returned (.agg #[.int .i64 k, .int .i64 n, .int .i64 p, .int .i64 q, .string s, .slice A m c]) ∧
    TrC (fun c => w.heap.size ≤ c) w' r.1 [.int .i64 k, .int .i64 n, .int .i64 p, .int .i64 q, .string s, .slice A m c] ∧ Pst w' g b r.2 ∧ Exg g w w'
def LvC (N : FuncId) (f lv : Nat) : Prop := ∀ (g b : Nat) (s : St) (w : World), Pst w g b s → 10 * mS s + (20 - lv) ≤ f → Calls Tryz.prog N #[.pointer (some ⟨g, 0, none⟩)] w (TreeR w g b (lvS f lv none s))
abbrev st6 (W : World) (R : Nat) (a b c d e f : Value) : World :=
  (((((W.setCell ⟨R, 0, none⟩ a).setCell ⟨R, 1, none⟩ b).setCell ⟨R, 2, none⟩ c).setCell ⟨R, 3, none⟩ d).setCell ⟨R, 4, none⟩ e).setCell ⟨R, 5, none⟩ f
abbrev Zero6 (w : World) (R : Nat) : Prop := Blk w R 24 [.int .i64 0, .int .i64 0, .int .i64 0, .int .i64 0, .string ⟨#[]⟩, .slice none 0 0]
theorem blk6 {W : World} {R : Nat} {x0 x1 x2 x3 x4 x5 : Value} (hB : Blk W R 24 [x0, x1, x2, x3, x4, x5]) (a b c d e f : Value) : Blk (st6 W R a b c d e f) R 24 [a, b, c, d, e, f] :=
  (((((hB.set_ 0 a).set_ 1 b).set_ 2 c).set_ 3 d).set_ 4 e).set_ 5 f
theorem Pst.bounds {w : World} {g b : Nat} {s : St} (h : Pst w g b s) : g < w.heap.size ∧ b < w.heap.size ∧ b ≠ g := by
  obtain ⟨hw, o, c, hc, hbg, hB, hR⟩ := h
  exact ⟨hB.lt, hR.1, hbg⟩
theorem Pst.far {w : World} {g b : Nat} {s : St} (h : Pst w g b s) {p : Addr} (hg : g ≠ p.block) (hb : b ≠ p.block) (u : Value) : Pst (w.setCell p u) g b s := ⟨h.1, h.2.far hg hb u⟩
/-- the end of a level: its tree is stored into its result's block -/
theorem fin6 {w W : World} {g b R : Nat} {Q : Nat → Prop} {t : Tr} {s : St} {k n p q : Int} {S : ByteArray} {A : Option Addr} {m c : Nat} (hR : w.heap.size ≤ R)
    (ht : TrC Q W t [.int .i64 k, .int .i64 n, .int .i64 p, .int .i64 q, .string S, .slice A m c]) (hQ : ∀ c, Q c → w.heap.size ≤ c ∧ c ≠ R)
    (hp : Pst W g b s) (hg : g < w.heap.size) (hb : b < w.heap.size) (hx : Exg g w W) :
    TreeR w g b (t, s) (.returned (.agg #[.int .i64 k, .int .i64 n, .int .i64 p, .int .i64 q, .string S, .slice A m c])) (st6 W R (.int .i64 k) (.int .i64 n) (.int .i64 p) (.int .i64 q) (.string S) (.slice A m c)) := by
  have g1 : g ≠ R := by omega
  have b1 : b ≠ R := by omega
  have q1 : ∀ c, Q c → c ≠ R := fun c h => (hQ c h).2
  refine ⟨k, n, p, q, S, A, m, c, rfl, ?_, ?_, ?_⟩
  · exact ((((((ht.far q1 _).far q1 _).far q1 _).far q1 _).far q1 _).far q1 _).imp (fun c _ h => (hQ c h).1)
  · exact (((((hp.far g1 b1 _).far g1 b1 _).far g1 b1 _).far g1 b1 _).far g1 b1 _).far g1 b1 _
  · exact (((((hx.new_ hR _).new_ hR _).new_ hR _).new_ hR _).new_ hR _).new_ hR _
theorem size6 (W : World) (R : Nat) (a b c d e f : Value) : (st6 W R a b c d e f).heap.size = W.heap.size := by simp [World.setCell]
/-- the same, where the tree has one part that was laid into a new block -/
theorem fin6one {w W : World} {g b R : Nat} {Q : Nat → Prop} {t : Tr} {s : St} {k n p q kk : Int} {S : ByteArray} {v : Value} (hR : w.heap.size ≤ R)
    (ht : TrC Q W t [.int .i64 k, .int .i64 n, .int .i64 p, .int .i64 q, .string S, v]) (hQ : ∀ c, Q c → w.heap.size ≤ c ∧ c ≠ R)
    (hp : Pst W g b s) (hg : g < w.heap.size) (hb : b < w.heap.size) (hx : Exg g w W) :
    TreeR w g b (nd kk [t], s) (.returned (.agg #[.int .i64 kk, .int .i64 0, .int .i64 0, .int .i64 0, .string ⟨#[]⟩, .slice (some ⟨W.heap.size, 0, none⟩) 1 1]))
      ((st6 W R (.int .i64 kk) (.int .i64 0) (.int .i64 0) (.int .i64 0) (.string ⟨#[]⟩) (.slice (some ⟨W.heap.size, 0, none⟩) 1 1)).alloc (.cells #[.int .i64 k, .int .i64 n, .int .i64 p, .int .i64 q, .string S, v] 24)) := by
  have g1 : g ≠ R := by omega
  have b1 : b ≠ R := by omega
  have q1 : ∀ c, Q c → c ≠ R := fun c h => (hQ c h).2
  refine ⟨kk, 0, 0, 0, ⟨#[]⟩, _, _, _, rfl, ?_, ?_, ?_⟩
  · refine TrC.one (((((((ht.far q1 _).far q1 _).far q1 _).far q1 _).far q1 _).far q1 _).ex ((Ex.refl _).alloc _) |>.imp (fun c _ h => (hQ c h).1)) kk (Blk.new' _ (size6 _ _ _ _ _ _ _ _).symm _ _) (by have := hx.size; omega)
  · exact ((((((hp.far g1 b1 _).far g1 b1 _).far g1 b1 _).far g1 b1 _).far g1 b1 _).far g1 b1 _).ex ((Ex.refl _).alloc _)
  · exact ((((((hx.new_ hR _).new_ hR _).new_ hR _).new_ hR _).new_ hR _).new_ hR _).alloc _
/-- and two parts -/
theorem fin6two {w W : World} {g b R : Nat} {Q : Nat → Prop} {t t' : Tr} {s : St} {k n p q k' n' p' q' kk : Int} {S S' : ByteArray} {v v' : Value} (hR : w.heap.size ≤ R)
    (ht : TrC Q W t [.int .i64 k, .int .i64 n, .int .i64 p, .int .i64 q, .string S, v]) (ht' : TrC Q W t' [.int .i64 k', .int .i64 n', .int .i64 p', .int .i64 q', .string S', v']) (hQ : ∀ c, Q c → w.heap.size ≤ c ∧ c ≠ R)
    (hp : Pst W g b s) (hg : g < w.heap.size) (hb : b < w.heap.size) (hx : Exg g w W) :
    TreeR w g b (nd kk [t, t'], s) (.returned (.agg #[.int .i64 kk, .int .i64 0, .int .i64 0, .int .i64 0, .string ⟨#[]⟩, .slice (some ⟨W.heap.size, 0, none⟩) 2 2]))
      ((st6 W R (.int .i64 kk) (.int .i64 0) (.int .i64 0) (.int .i64 0) (.string ⟨#[]⟩) (.slice (some ⟨W.heap.size, 0, none⟩) 2 2)).alloc (.cells #[.int .i64 k, .int .i64 n, .int .i64 p, .int .i64 q, .string S, v, .int .i64 k', .int .i64 n', .int .i64 p', .int .i64 q', .string S', v'] 24)) := by
  have g1 : g ≠ R := by omega
  have b1 : b ≠ R := by omega
  have q1 : ∀ c, Q c → c ≠ R := fun c h => (hQ c h).2
  refine ⟨kk, 0, 0, 0, ⟨#[]⟩, _, _, _, rfl, ?_, ?_, ?_⟩
  · refine TrC.two (((((((ht.far q1 _).far q1 _).far q1 _).far q1 _).far q1 _).far q1 _).ex ((Ex.refl _).alloc _) |>.imp (fun c _ h => (hQ c h).1)) (((((((ht'.far q1 _).far q1 _).far q1 _).far q1 _).far q1 _).far q1 _).ex ((Ex.refl _).alloc _) |>.imp (fun c _ h => (hQ c h).1)) kk (Blk.new' _ (size6 _ _ _ _ _ _ _ _).symm _ _) (by have := hx.size; omega)
  · exact ((((((hp.far g1 b1 _).far g1 b1 _).far g1 b1 _).far g1 b1 _).far g1 b1 _).far g1 b1 _).ex ((Ex.refl _).alloc _)
  · exact ((((((hx.new_ hR _).new_ hR _).new_ hR _).new_ hR _).new_ hR _).new_ hR _).alloc _
theorem take_t (g b : Nat) (s : St) (S : ByteArray) (w : World) (h : Pst w g b s) (hb : takeB s S.data.toList = true) :
    Calls Tryz.prog 108 #[.pointer (some ⟨g, 0, none⟩), .string S] w (fun e w' => e = .returned (.bool true) ∧ Pst w' g b s.tl ∧ Exg g w w') := by
  have := take_c g b s S w h
  unfold takeS at this
  rw [hb] at this
  exact this
theorem take_f (g b : Nat) (s : St) (S : ByteArray) (w : World) (h : Pst w g b s) (hb : takeB s S.data.toList = false) :
    Calls Tryz.prog 108 #[.pointer (some ⟨g, 0, none⟩), .string S] w (fun e w' => e = .returned (.bool false) ∧ Pst w' g b s ∧ Exg g w w') := by
  have := take_c g b s S w h
  unfold takeS at this
  rw [hb] at this
  exact this
theorem lv6_t {f : Nat} {s : St} (h : takeB s [45] = true) : lvS (f + 1) 6 none s = (nd 5 [(lvS f 6 none s.tl).1], (lvS f 6 none s.tl).2) := by
  conv => lhs; unfold lvS
  simp [h]
theorem lv6_f {f : Nat} {s : St} (h : takeB s [45] = false) : lvS (f + 1) 6 none s = lvS f 7 none s := by
  conv => lhs; unfold lvS
  simp [h]
set_option maxRecDepth 20000 in
set_option maxHeartbeats 800000 in
theorem neg_lv {f : Nat} (hn : LvC 163 f 6) (hl : LvC 169 f 7) : LvC 163 (f + 1) 6 := by
  intro g b s w h hf
  obtain ⟨hg, hbz, hbg⟩ := h.bounds
  have HZ : Hid (Zero6 (w.alloc (.cells #[.int .i64 0, .int .i64 0, .int .i64 0, .int .i64 0, .string ⟨#[]⟩, .slice none 0 0] 24)) w.heap.size) := Blk.new w _ _
  have HP := Lib.hid h
  have HB := Lib.hid (And.intro hg (And.intro hbz hbg))
  cases hb : takeB s [45] with
  | true =>
    rw [lv6_t hb]
    have HT := Lib.hid (fun w' (hp : Pst w' g b s) => take_t g b s ⟨#[45]⟩ w' hp hb)
    have HN := Lib.hid (fun w' (hp : Pst w' g b s.tl) => hn g b s.tl w' hp (by have := take_m hb; omega))
    generalize lvS f 6 none s.tl = R at *
    unfold TreeR at HN
    clear h hf hb hn hl hg hbz hbg
    go_enter Tryz.func163, Tryz.ntmps163
    go_wp2_with fail
    refine (HT.out _ (HP.out.ex ((Ex.refl _).alloc _))).mono ?_
    rintro e w1 ⟨rfl, hp1, hx1⟩
    have HP1 := Lib.hid hp1
    have HX1 := Lib.hid hx1
    clear hp1 hx1
    go_wp2_with fail
    refine (HN.out _ HP1.out).mono ?_
    rintro e w2 ⟨k, n, p, q, S, A, m, c, rfl, ht2, hp2, hx2⟩
    have hne : w.heap.size ≠ g := Nat.ne_of_gt HB.out.1
    have hz := hx2.blk (HX1.out.blk HZ.out hne) hne
    have lz := hz.lt
    have r0 := hz.cell 0
    have r1 := hz.cell 1
    have r2 := hz.cell 2
    have r3 := hz.cell 3
    have r4 := hz.cell 4
    have r5 := hz.cell 5
    simp only [List.getElem?_cons_zero, List.getElem?_cons_succ] at r0 r1 r2 r3 r4 r5
    have f0 := hz.frozen 0
    have f1 := hz.frozen 1
    have f2 := hz.frozen 2
    have f3 := hz.frozen 3
    have f4 := hz.frozen 4
    have f5 := hz.frozen 5
    have Hz := Lib.hid hz
    have HT2 := Lib.hid ht2
    have HP2 := Lib.hid hp2
    have HX2 := Lib.hid hx2
    clear hz ht2 hp2 hx2 hne
    go_wp2_with fail
    have hs1 : w.heap.size + 1 ≤ w1.heap.size := by have := HX1.out.size; rw [World.size_alloc] at this; exact this
    refine bodyPost_ret (results_pred rfl rfl ((blk6 Hz.out _ _ _ _ _ _).alloc _)) rfl ?_
    exact fin6one (Q := fun c => w.heap.size + 1 ≤ c) (Nat.le_refl _) (HT2.out.imp (fun c _ h => Nat.le_trans hs1 h)) (fun c h => ⟨by omega, by omega⟩) HP2.out HB.out.1 HB.out.2.1 ((((Exg.refl g w).alloc _).trans HX1.out).trans HX2.out)
  | false =>
    rw [lv6_f hb]
    have HT := Lib.hid (fun w' (hp : Pst w' g b s) => take_f g b s ⟨#[45]⟩ w' hp hb)
    have HN := Lib.hid (fun w' (hp : Pst w' g b s) => hl g b s w' hp (by omega))
    generalize lvS f 7 none s = R at *
    unfold TreeR at HN
    clear h hf hb hn hl hg hbz hbg
    go_enter Tryz.func163, Tryz.ntmps163
    go_wp2_with fail
    refine (HT.out _ (HP.out.ex ((Ex.refl _).alloc _))).mono ?_
    rintro e w1 ⟨rfl, hp1, hx1⟩
    have HP1 := Lib.hid hp1
    have HX1 := Lib.hid hx1
    clear hp1 hx1
    go_wp2_with fail
    refine (HN.out _ HP1.out).mono ?_
    rintro e w2 ⟨k, n, p, q, S, A, m, c, rfl, ht2, hp2, hx2⟩
    have hne : w.heap.size ≠ g := Nat.ne_of_gt HB.out.1
    have hz := hx2.blk (HX1.out.blk HZ.out hne) hne
    have lz := hz.lt
    have r0 := hz.cell 0
    have r1 := hz.cell 1
    have r2 := hz.cell 2
    have r3 := hz.cell 3
    have r4 := hz.cell 4
    have r5 := hz.cell 5
    simp only [List.getElem?_cons_zero, List.getElem?_cons_succ] at r0 r1 r2 r3 r4 r5
    have f0 := hz.frozen 0
    have f1 := hz.frozen 1
    have f2 := hz.frozen 2
    have f3 := hz.frozen 3
    have f4 := hz.frozen 4
    have f5 := hz.frozen 5
    have Hz := Lib.hid hz
    have HT2 := Lib.hid ht2
    have HP2 := Lib.hid hp2
    have HX2 := Lib.hid hx2
    clear hz ht2 hp2 hx2 hne
    go_wp2_with fail
    have hs1 : w.heap.size + 1 ≤ w1.heap.size := by have := HX1.out.size; rw [World.size_alloc] at this; exact this
    refine bodyPost_ret (results_pred rfl rfl (blk6 Hz.out _ _ _ _ _ _)) rfl ?_
    refine fin6 (Q := fun c => w.heap.size + 1 ≤ c) (Nat.le_refl _) (HT2.out.imp (fun c _ h => Nat.le_trans hs1 h)) (fun c h => ⟨by omega, by omega⟩) HP2.out HB.out.1 HB.out.2.1 ?_
    exact (((Exg.refl g w).alloc _).trans HX1.out).trans HX2.out
end Go.Proofs.YthjalkonlcjhnaaGreatDoor
