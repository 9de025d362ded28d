/-
  The parser as a whole, walked.
  Conditions: the world's tables are as laid (Env).
-/
import Derived.Test.YthjalkonlcjhnaaGreatDoorQn
import Derived.Test.YthjalkonlcjhnaaGreatDoorQo
namespace Go.Proofs.YthjalkonlcjhnaaGreatDoor
open Go.RowKit
/-- what Parse answers -/
inductive PO where
  | tree (t : Tr)
  | err (p : Nat × Nat) (n : Nat)
/-- the word at which keys r are left of the words l -/
def atW (l : List Wd) (r : List K) : Wd := hdW (l.drop (l.length - r.length))
def smallB (t : Tr) : Bool := decide (t.size ≤ 200) && decide (t.depth ≤ 20)
def treeO (l : List Wd) : PR → PO
  | .ok t r => if (hd r).1 = 4 then (if smallB t then .tree t else .err (0, 0) 5) else .err (atW l r).pos (errAt (atW l r))
  | .bad r => .err (atW l r).pos (errAt (atW l r))
  | .stuck => .err (0, 0) 0
def parseO (s : List UInt8) : PO := if 16384 < s.length then .err (0, 0) 5 else match lexL 1000 s (1, 1) with
  | .bad p n => .err p n
  | .ok l => treeO l (parse (l.map key))
def ParseR (w : World) (o : PO) (e : Ending) (w' : World) : Prop := match o with
  | .tree t => ∃ (k n p q : Int) (s : ByteArray) (A : Option Addr) (m c : Nat), e = .returned (.tuple #[.agg #[.int .i64 k, .int .i64 n, .int .i64 p, .int .i64 q, .string s, .slice A m c], .agg #[.int .i64 0, .int .i64 0], .int .i64 0]) ∧ TrC (fun c => w.heap.size ≤ c) w' t (c6 k n p q s A m c) ∧ Ex w w'
  | .err p n => e = .returned (.tuple #[.agg #[.int .i64 0, .int .i64 0, .int .i64 0, .int .i64 0, .string ⟨#[]⟩, .slice none 0 0], .agg #[.int .i64 (p.1 : Nat), .int .i64 (p.2 : Nat)], .int .i64 (n : Nat)]) ∧ Ex w w'
theorem results_parse {fn : Func} {p g p2 g2 u : Nat} {a b c d e f x y v : Value} {w : World} {tmps : Array Value} (h : fn.results = #[.cell p 24, .cell p2 39, .tmp u]) (hp : tmps.getD p undef = .pointer (some ⟨g, 0, none⟩)) (hp2 : tmps.getD p2 undef = .pointer (some ⟨g2, 0, none⟩)) (hu : tmps.getD u undef = v) (hB : Blk w g 24 [a, b, c, d, e, f]) (hB2 : Blk w g2 39 [x, y]) :
    (results fn tmps).run Tryz.prog w = .ok (.tuple #[.agg #[a, b, c, d, e, f], .agg #[x, y], v]) w := by
  have h0 : w.cell? ⟨g, 0, none⟩ = some a := hB.cell 0
  have h1 : w.cell? ⟨g, 1, none⟩ = some b := hB.cell 1
  have h2 : w.cell? ⟨g, 2, none⟩ = some c := hB.cell 2
  have h3 : w.cell? ⟨g, 3, none⟩ = some d := hB.cell 3
  have h4 : w.cell? ⟨g, 4, none⟩ = some e := hB.cell 4
  have h5 : w.cell? ⟨g, 5, none⟩ = some f := hB.cell 5
  have k0 : w.cell? ⟨g2, 0, none⟩ = some x := hB2.cell 0
  have k1 : w.cell? ⟨g2, 1, none⟩ = some y := hB2.cell 1
  rw [Array.getD_eq_getD_getElem?] at hp hp2 hu
  simp [results, h, hp, hp2, hu, go_sem, h0, h1, h2, h3, h4, h5, k0, k1]
theorem small_t (t : Tr) (Q : Nat → Prop) (w : World) (k n p q : Int) (s : ByteArray) (A : Option Addr) (m c : Nat) (hs : t.size ≤ 1000000) (h : TrC Q w t (c6 k n p q s A m c)) :
    Calls Tryz.prog 30 #[.agg #[.int .i64 k, .int .i64 n, .int .i64 p, .int .i64 q, .string s, .slice A m c]] w (Ret w (.bool (smallB t))) := by
  have HS := Lib.hid (fun w' (hx : Ex w w') => size_c t.size t Q w' k n p q s A m c (Nat.le_refl _) hs (h.ex hx))
  have HD := Lib.hid (fun w' (hx : Ex w w') => depth_c t.size t Q w' k n p q s A m c (Nat.le_refl _) hs (h.ex hx))
  have hd := t.depth_le
  unfold smallB
  generalize t.depth = D at *
  generalize t.size = S at *
  clear h
  by_cases h1 : S ≤ 200
  · have m1 : decide ((S : Int) ≤ 200) = true := decide_eq_true (by omega)
    rw [decide_eq_true h1, Bool.true_and]
    have e : decide ((D : Int) ≤ 20) = decide (D ≤ 20) := by rw [Bool.eq_iff_iff]; simp; omega
    generalize decide (D ≤ 20) = qq at *
    clear hd hs h1
    go_enter Tryz.func30, Tryz.ntmps30
    go_wp2_with fail
    refine (HS.out _ ((Ex.refl _).alloc _)).mono ?_
    rintro e' w' ⟨rfl, z, rfl⟩
    go_wp2_with fail
    refine (HD.out _ (((Ex.refl _).alloc _).ext _)).mono ?_
    rintro e' w' ⟨rfl, z2, rfl⟩
    go_wp2_with fail
    go_ret
    exact Ret.mk rfl ((((Ex.refl _).alloc _).ext _).ext _)
  · have m1 : decide ((S : Int) ≤ 200) = false := decide_eq_false (by omega)
    rw [decide_eq_false h1, Bool.false_and]
    clear hd hs h1
    go_enter Tryz.func30, Tryz.ntmps30
    go_wp2_with fail
    refine (HS.out _ ((Ex.refl _).alloc _)).mono ?_
    rintro e' w' ⟨rfl, z, rfl⟩
    go_wp2_with fail
    go_ret
    exact Ret.mk rfl (((Ex.refl _).alloc _).ext _)
/-! the walks -/
abbrev st8 (W : World) (R R2 : Nat) (a b c d e f x y : Value) : World := ((st6 W R a b c d e f).setCell ⟨R2, 0, none⟩ x).setCell ⟨R2, 1, none⟩ y
theorem blk8 {W : World} {R R2 : Nat} {x0 x1 x2 x3 x4 x5 : Value} (hB : Blk W R 24 [x0, x1, x2, x3, x4, x5]) (hne : R ≠ R2) (a b c d e f x y : Value) : Blk (st8 W R R2 a b c d e f x y) R 24 [a, b, c, d, e, f] :=
  ((blk6 hB a b c d e f).far hne _).far hne _
theorem blk8p {W : World} {R R2 : Nat} {x0 x1 : Value} (hB : Blk W R2 39 [x0, x1]) (hne : R2 ≠ R) (a b c d e f x y : Value) : Blk (st8 W R R2 a b c d e f x y) R2 39 [x, y] :=
  (((((((hB.far hne a).far hne b).far hne c).far hne d).far hne e).far hne f).set_ 0 x).set_ 1 y
theorem ex8 {w W : World} {R R2 : Nat} (hx : Ex w W) (h : w.heap.size ≤ R) (h2 : w.heap.size ≤ R2) (a b c d e f x y : Value) : Ex w (st8 W R R2 a b c d e f x y) :=
  (((((((hx.setCell h _).setCell h _).setCell h _).setCell h _).setCell h _).setCell h _).setCell h2 _).setCell h2 _
theorem tree8 {Q : Nat → Prop} {W : World} {R R2 : Nat} {t : Tr} {cs : List Value} (ht : TrC Q W t cs) (h : ∀ b, Q b → b ≠ R) (h2 : ∀ b, Q b → b ≠ R2) (a b c d e f x y : Value) : TrC Q (st8 W R R2 a b c d e f x y) t cs :=
  (((((((ht.far h _).far h _).far h _).far h _).far h _).far h _).far h2 _).far h2 _
theorem wds_len : ∀ l : List Wd, (wdsV l).length = l.length * 4
  | [] => rfl
  | x :: l => by
    show (wdVs x ++ wdsV l).length = _
    rw [List.length_append, wds_len l, List.length_cons]
    show 4 + _ = _
    omega
theorem own_state {w : World} {base : Nat} {v : Value} {ws : List Wd} (h : w.ownsRow base 66 4 v ws.length (wdsV ws)) (hne : ws ≠ []) :
    ∃ b c, v = .slice (some ⟨b, 0, none⟩) ws.length c ∧ base ≤ b ∧ ws.length ≤ c ∧ Rw w b 0 (wdsV ws) := by
  have hpos : 0 < ws.length := List.length_pos_iff.2 hne
  rcases h.2 with ⟨_, hn⟩ | ⟨g, cap, cur, rfl, hb, hg, hn, hc, hsz, htk⟩
  · omega
  · refine ⟨g, cap, rfl, hb, hn, (Array.getElem?_eq_some_iff.1 hg).1, fun j u hj => ?_⟩
    rw [Nat.zero_add, cell_of_row w g j cur 66 (0, 0) hg]
    rw [← htk, List.getElem?_take] at hj
    split at hj
    · simpa using hj
    · cases hj
noncomputable def orS (ws : List Wd) : Tr × St := lvS (10 * ws.length + 20) 0 none ⟨ws, 0, (0, 0)⟩
theorem orS_c (g b : Nat) (ws : List Wd) (w : World) (h : Pst w g b ⟨ws, 0, (0, 0)⟩) : Calls Tryz.prog 49 #[.pointer (some ⟨g, 0, none⟩)] w (TreeR w g b (orS ws)) :=
  (all_lv _).1 g b _ w h (by show 10 * (if (0 : Nat) = 0 then ws.length else 0) + 20 ≤ _; rw [if_pos rfl]; omega)
theorem orS_sim (ws : List Wd) : Sim ⟨ws, 0, (0, 0)⟩ (parse (ws.map key)) (orS ws) := by
  have e : pz (10 * ws.length + 20) 0 none (ws.map key) = parse (ws.map key) := parse_at (by rw [List.length_map]; omega)
  rw [← e]
  exact lv_sim (10 * ws.length + 20) 0 none ⟨ws, 0, (0, 0)⟩ rfl
theorem atW_drop (l : List Wd) (n : Nat) : atW l ((l.drop n).map key) = hdW (l.drop n) := by
  unfold atW
  rw [List.length_map, List.length_drop]
  by_cases h : n ≤ l.length
  · rw [show l.length - (l.length - n) = n by omega]
  · rw [List.drop_eq_nil_of_le (by omega), List.drop_eq_nil_of_le (by omega)]
set_option maxRecDepth 20000 in
set_option maxHeartbeats 800000 in
theorem parse_bad (s : ByteArray) (p : Nat × Nat) (n : Nat) (w : World) (hn : n ≠ 0) (H0 : ∀ w', Ex w w' → Calls Tryz.prog 48 #[.string s] w' (WordsR w' (.bad p n))) :
    Calls Tryz.prog 23 #[.string s] w (ParseR w (.err p n)) := by
  have H := Lib.hid H0
  unfold WordsR at H
  unfold ParseR
  have bn : ((n : Int) != 0) = true := by rw [bne_iff_ne]; omega
  have bn2 : ((n : Int) == 0) = false := beq_eq_false_iff_ne.2 (by omega)
  have HZ : Hid (Zero6 ((w.alloc (.cells #[.int .i64 0, .int .i64 0, .int .i64 0, .int .i64 0, .string ⟨#[]⟩, .slice none 0 0] 24)).alloc (.cells #[.int .i64 0, .int .i64 0] 39)) w.heap.size) := (Blk.new w _ _).alloc _
  have HQ : Hid (Blk ((w.alloc (.cells #[.int .i64 0, .int .i64 0, .int .i64 0, .int .i64 0, .string ⟨#[]⟩, .slice none 0 0] 24)).alloc (.cells #[.int .i64 0, .int .i64 0] 39)) (w.heap.size + 1) 39 [.int .i64 0, .int .i64 0]) := Blk.new' _ (by simp) _ _
  obtain ⟨p1, p2⟩ := p
  dsimp only at H ⊢
  clear H0 hn
  go_enter Tryz.func23, Tryz.ntmps23
  go_wp2_with fail
  refine (H.out _ (((Ex.refl _).alloc _).alloc _)).mono ?_
  rintro e w1 ⟨rfl, hx⟩
  have HX := Lib.hid hx
  have HZ1 := Lib.hid (HZ.out.ex hx)
  have HQ1 := Lib.hid (HQ.out.ex hx)
  have lz := HZ1.out.lt
  have lq := HQ1.out.lt
  have r0 := HZ1.out.cell 0
  have r1 := HZ1.out.cell 1
  have r2 := HZ1.out.cell 2
  have r3 := HZ1.out.cell 3
  have r4 := HZ1.out.cell 4
  have r5 := HZ1.out.cell 5
  simp only [List.getElem?_cons_zero, List.getElem?_cons_succ] at r0 r1 r2 r3 r4 r5
  have f0 := HZ1.out.frozen 0
  have f1 := HZ1.out.frozen 1
  have f2 := HZ1.out.frozen 2
  have f3 := HZ1.out.frozen 3
  have f4 := HZ1.out.frozen 4
  have f5 := HZ1.out.frozen 5
  have q0 := HQ1.out.cell 0
  have q1 := HQ1.out.cell 1
  simp only [List.getElem?_cons_zero, List.getElem?_cons_succ] at q0 q1
  have g0 := HQ1.out.frozen 0
  have g1 := HQ1.out.frozen 1
  clear hx
  go_wp2_with fail
  go_region
  go_wp2_with fail
  refine bodyPost_ret (results_parse rfl rfl rfl rfl (Blk.drew ((blk8 HZ1.out (by omega) _ _ _ _ _ _ _ _).alloc _)) (Blk.drew ((blk8p HQ1.out (by omega) _ _ _ _ _ _ _ _).alloc _))) rfl ?_
  exact ⟨rfl, ((ex8 ((((Ex.refl w).alloc _).alloc _).trans HX.out) (Nat.le_refl _) (Nat.le_succ _) _ _ _ _ _ _ _ _).alloc _).drew⟩
set_option maxRecDepth 20000 in
set_option maxHeartbeats 1600000 in
theorem parse_dead (s : ByteArray) (ws : List Wd) (w : World) (hW : WfW ws) (H0 : ∀ w', Ex w w' → Calls Tryz.prog 48 #[.string s] w' (WordsR w' (.ok ws))) (T0 : Tr) (S0 : St) (HS0 : ∀ W g b, Pst W g b ⟨ws, 0, (0, 0)⟩ → Calls Tryz.prog 49 #[.pointer (some ⟨g, 0, none⟩)] W (TreeR W g b (T0, S0))) (hd : S0.e ≠ 0) :
    Calls Tryz.prog 23 #[.string s] w (ParseR w (.err S0.p S0.e)) := by
  have H := Lib.hid H0
  unfold WordsR at H
  unfold ParseR
  have HZ : Hid (Zero6 ((w.alloc (.cells #[.int .i64 0, .int .i64 0, .int .i64 0, .int .i64 0, .string ⟨#[]⟩, .slice none 0 0] 24)).alloc (.cells #[.int .i64 0, .int .i64 0] 39)) w.heap.size) := (Blk.new w _ _).alloc _
  have HQ : Hid (Blk ((w.alloc (.cells #[.int .i64 0, .int .i64 0, .int .i64 0, .int .i64 0, .string ⟨#[]⟩, .slice none 0 0] 24)).alloc (.cells #[.int .i64 0, .int .i64 0] 39)) (w.heap.size + 1) 39 [.int .i64 0, .int .i64 0]) := Blk.new' _ (by simp) _ _
  have HS := Lib.hid HS0
  have HWf := Lib.hid hW
  have HNe : Hid (ws ≠ []) := by obtain ⟨x, r, rfl⟩ := hW.cons; exact List.cons_ne_nil _ _
  unfold TreeR at HS
  dsimp only at H ⊢
  obtain ⟨ws2, e2, p21, p22⟩ := S0
  dsimp only at hd ⊢
  have bn : ((e2 : Int) == 0) = false := beq_eq_false_iff_ne.2 (by omega)
  have bn2 : ((e2 : Int) != 0) = true := by rw [bne_iff_ne]; omega
  clear H0 hW HS0
  go_enter Tryz.func23, Tryz.ntmps23
  go_wp2_with fail
  refine (H.out _ (((Ex.refl _).alloc _).alloc _)).mono ?_
  rintro e w1 ⟨v, rfl, hown, hx⟩
  obtain ⟨b, cc, rfl, hbb, hlc, hrw⟩ := own_state hown HNe.out
  have hb1 : w.heap.size + 1 + 1 ≤ b := by rw [World.size_alloc, World.size_alloc] at hbb; exact hbb
  have hbl := hrw.1
  have HP : Hid (Pst ((w1.alloc (.cells #[.int .i64 0, .int .i64 0] 39)).alloc (.cells #[.slice (some ⟨b, 0, none⟩) ws.length cc, .int .i64 0, .int .i64 0, .int .i64 0] 63)) (w1.heap.size + 1) b ⟨ws, 0, (0, 0)⟩) :=
    ⟨HWf.out, 0, cc, hlc, by omega, Blk.new' _ (by simp) _ _, hrw.keep (by simp; omega) (((Ex.refl _).alloc _).alloc _ |>.below.block b hrw.1)⟩
  have HX := Lib.hid hx
  have HZ1 := Lib.hid (HZ.out.ex hx)
  have HQ1 := Lib.hid (HQ.out.ex hx)
  have HB1 := Lib.hid hb1
  clear hown hx hbb hlc hrw hb1 hbl
  go_wp2_with fail
  refine (HS.out _ _ _ HP.out).mono ?_
  rintro e w2 ⟨k, n, p, q, S, A, m, c, rfl, ht, hp, hx2⟩
  have hs1 : w.heap.size + 1 + 1 ≤ w1.heap.size := by have := HX.out.below.size; rw [World.size_alloc, World.size_alloc] at this; exact this
  have hg1 : w.heap.size ≠ w1.heap.size + 1 := by omega
  have hg2 : w.heap.size + 1 ≠ w1.heap.size + 1 := by omega
  have HZ2 := Lib.hid (hx2.blk ((HZ1.out.alloc (.cells #[.int .i64 0, .int .i64 0] 39)).alloc (.cells #[.slice (some ⟨b, 0, none⟩) ws.length cc, .int .i64 0, .int .i64 0, .int .i64 0] 63)) hg1)
  have HQ2 := Lib.hid (hx2.blk ((HQ1.out.alloc (.cells #[.int .i64 0, .int .i64 0] 39)).alloc (.cells #[.slice (some ⟨b, 0, none⟩) ws.length cc, .int .i64 0, .int .i64 0, .int .i64 0] 63)) hg2)
  have HX2 : Hid (Ex w w2) := Exg.out (((((Ex.refl w).alloc _).alloc _).trans HX.out).alloc _ |>.alloc _) hx2 (by omega)
  have HT := Lib.hid ht
  have HP2 := Lib.hid hp
  have hs2 : w1.heap.size + 1 + 1 ≤ w2.heap.size := by have := hx2.size; rw [World.size_alloc, World.size_alloc] at this; exact this
  have HSz : Hid (w.heap.size + 1 + 1 ≤ w1.heap.size ∧ w1.heap.size + 1 + 1 ≤ w2.heap.size) := ⟨hs1, hs2⟩
  have HPs := HP2.out.2
  clear ht hp hx2 hs1 hs2 hg1 hg2 HS HP
  obtain ⟨o, c2, hc2, hbg, hB, hRw⟩ := HPs
  have lg := hB.lt
  have c1 : w2.cell? ⟨w1.heap.size + 1, 1, none⟩ = some (.int .i64 p21) := hB.cell 1
  have c2' : w2.cell? ⟨w1.heap.size + 1, 2, none⟩ = some (.int .i64 p22) := hB.cell 2
  have c3 : w2.cell? ⟨w1.heap.size + 1, 3, none⟩ = some (.int .i64 e2) := hB.cell 3
  have lz := HZ2.out.lt
  have lq := HQ2.out.lt
  have r0 := HZ2.out.cell 0
  have r1 := HZ2.out.cell 1
  have r2 := HZ2.out.cell 2
  have r3 := HZ2.out.cell 3
  have r4 := HZ2.out.cell 4
  have r5 := HZ2.out.cell 5
  simp only [List.getElem?_cons_zero, List.getElem?_cons_succ] at r0 r1 r2 r3 r4 r5
  have f0 := HZ2.out.frozen 0
  have f1 := HZ2.out.frozen 1
  have f2 := HZ2.out.frozen 2
  have f3 := HZ2.out.frozen 3
  have f4 := HZ2.out.frozen 4
  have f5 := HZ2.out.frozen 5
  have q0 := HQ2.out.cell 0
  have q1 := HQ2.out.cell 1
  simp only [List.getElem?_cons_zero, List.getElem?_cons_succ] at q0 q1
  have g0 := HQ2.out.frozen 0
  have g1 := HQ2.out.frozen 1
  clear hc2 hbg hB hRw hd
  go_wp2_with fail
  have n1 : w.heap.size ≠ w1.heap.size + 1 := by have := HSz.out.1; omega
  have n2 : w.heap.size + 1 ≠ w1.heap.size + 1 := by have := HSz.out.1; omega
  go_region
  go_wp2_with fail
  refine bodyPost_ret (results_parse rfl rfl rfl rfl (Blk.drew ((blk8 HZ2.out (by omega) _ _ _ _ _ _ _ _).alloc _)) (Blk.drew ((blk8p HQ2.out (by omega) _ _ _ _ _ _ _ _).alloc _))) rfl ?_
  exact ⟨rfl, ((ex8 HX2.out (Nat.le_refl _) (Nat.le_succ _) _ _ _ _ _ _ _ _).alloc _).drew⟩
set_option maxRecDepth 20000 in
set_option maxHeartbeats 1600000 in
theorem parse_wrong (s : ByteArray) (ws : List Wd) (w : World) (hW : WfW ws) (H0 : ∀ w', Ex w w' → Calls Tryz.prog 48 #[.string s] w' (WordsR w' (.ok ws))) (T0 : Tr) (k0 : Nat) (TX : List UInt8) (x1 x2 : Nat) (r : List Wd) (p21 p22 : Nat) (HS0 : ∀ W g b, Pst W g b ⟨ws, 0, (0, 0)⟩ → Calls Tryz.prog 49 #[.pointer (some ⟨g, 0, none⟩)] W (TreeR W g b (T0, ⟨⟨k0, TX, (x1, x2)⟩ :: r, 0, (p21, p22)⟩))) (hk : k0 ≠ 4) :
    Calls Tryz.prog 23 #[.string s] w (ParseR w (.err (x1, x2) 3)) := by
  have H := Lib.hid H0
  unfold WordsR at H
  unfold ParseR
  have HZ : Hid (Zero6 ((w.alloc (.cells #[.int .i64 0, .int .i64 0, .int .i64 0, .int .i64 0, .string ⟨#[]⟩, .slice none 0 0] 24)).alloc (.cells #[.int .i64 0, .int .i64 0] 39)) w.heap.size) := (Blk.new w _ _).alloc _
  have HQ : Hid (Blk ((w.alloc (.cells #[.int .i64 0, .int .i64 0, .int .i64 0, .int .i64 0, .string ⟨#[]⟩, .slice none 0 0] 24)).alloc (.cells #[.int .i64 0, .int .i64 0] 39)) (w.heap.size + 1) 39 [.int .i64 0, .int .i64 0]) := Blk.new' _ (by simp) _ _
  have HS := Lib.hid HS0
  have HWf := Lib.hid hW
  have HNe : Hid (ws ≠ []) := by obtain ⟨x, r, rfl⟩ := hW.cons; exact List.cons_ne_nil _ _
  unfold TreeR at HS
  dsimp only at H ⊢
  have b4 : ((k0 : Int) == 4) = false := beq_eq_false_iff_ne.2 (by omega)
  have b5 : ((k0 : Int) != 4) = true := by rw [bne_iff_ne]; omega
  have HEr : Hid (errAt ⟨k0, TX, (x1, x2)⟩ = 3) := if_neg hk
  clear H0 hW HS0
  go_enter Tryz.func23, Tryz.ntmps23
  go_wp2_with fail
  refine (H.out _ (((Ex.refl _).alloc _).alloc _)).mono ?_
  rintro e w1 ⟨v, rfl, hown, hx⟩
  obtain ⟨b, cc, rfl, hbb, hlc, hrw⟩ := own_state hown HNe.out
  have hb1 : w.heap.size + 1 + 1 ≤ b := by rw [World.size_alloc, World.size_alloc] at hbb; exact hbb
  have hbl := hrw.1
  have HP : Hid (Pst ((w1.alloc (.cells #[.int .i64 0, .int .i64 0] 39)).alloc (.cells #[.slice (some ⟨b, 0, none⟩) ws.length cc, .int .i64 0, .int .i64 0, .int .i64 0] 63)) (w1.heap.size + 1) b ⟨ws, 0, (0, 0)⟩) :=
    ⟨HWf.out, 0, cc, hlc, by omega, Blk.new' _ (by simp) _ _, hrw.keep (by simp; omega) (((Ex.refl _).alloc _).alloc _ |>.below.block b hrw.1)⟩
  have HX := Lib.hid hx
  have HZ1 := Lib.hid (HZ.out.ex hx)
  have HQ1 := Lib.hid (HQ.out.ex hx)
  have HB1 := Lib.hid hb1
  clear hown hx hbb hlc hrw hb1 hbl
  go_wp2_with fail
  refine (HS.out _ _ _ HP.out).mono ?_
  rintro e w2 ⟨k, n, p, q, S, A, m, c, rfl, ht, hp, hx2⟩
  have hs1 : w.heap.size + 1 + 1 ≤ w1.heap.size := by have := HX.out.below.size; rw [World.size_alloc, World.size_alloc] at this; exact this
  have hg1 : w.heap.size ≠ w1.heap.size + 1 := by omega
  have hg2 : w.heap.size + 1 ≠ w1.heap.size + 1 := by omega
  have HZ2 := Lib.hid (hx2.blk ((HZ1.out.alloc (.cells #[.int .i64 0, .int .i64 0] 39)).alloc (.cells #[.slice (some ⟨b, 0, none⟩) ws.length cc, .int .i64 0, .int .i64 0, .int .i64 0] 63)) hg1)
  have HQ2 := Lib.hid (hx2.blk ((HQ1.out.alloc (.cells #[.int .i64 0, .int .i64 0] 39)).alloc (.cells #[.slice (some ⟨b, 0, none⟩) ws.length cc, .int .i64 0, .int .i64 0, .int .i64 0] 63)) hg2)
  have HX2 : Hid (Ex w w2) := Exg.out (((((Ex.refl w).alloc _).alloc _).trans HX.out).alloc _ |>.alloc _) hx2 (by omega)
  have HT := Lib.hid ht
  have HP2 := Lib.hid hp
  have hs2 : w1.heap.size + 1 + 1 ≤ w2.heap.size := by have := hx2.size; rw [World.size_alloc, World.size_alloc] at this; exact this
  have HSz : Hid (w.heap.size + 1 + 1 ≤ w1.heap.size ∧ w1.heap.size + 1 + 1 ≤ w2.heap.size) := ⟨hs1, hs2⟩
  have HPs := HP2.out.2
  clear ht hp hx2 hs1 hs2 hg1 hg2 HS HP
  have HN : Hid (∀ W, Ex w2 W → Calls Tryz.prog 50 #[.pointer (some ⟨w1.heap.size + 1, 0, none⟩)] W (Ret W (wdV ⟨k0, TX, (x1, x2)⟩))) := fun W hx => next_c _ b _ r 0 (p21, p22) W (HPs.ex hx)
  unfold wdV at HN
  dsimp only at HN
  have HPs2 := Lib.hid HP2.out
  obtain ⟨o, c2, hc2, hbg, hB, hRw⟩ := HPs
  have lg := hB.lt
  have c3 : w2.cell? ⟨w1.heap.size + 1, 3, none⟩ = some (.int .i64 0) := hB.cell 3
  clear hc2 hbg hB hRw
  have HWr : Hid (∀ W, Ex w2 W → Calls Tryz.prog 51 #[.pointer (some ⟨w1.heap.size + 1, 0, none⟩)] W (fun e w' => e = .returned unitV ∧ Pst w' (w1.heap.size + 1) b (wrongS ⟨⟨k0, TX, (x1, x2)⟩ :: r, 0, (p21, p22)⟩) ∧ Exg (w1.heap.size + 1) W w')) := fun W hx => wrong_s _ b _ W (HPs2.out.ex hx)
  unfold unitV at HWr
  clear hk
  go_wp2_with fail
  refine (HN.out _ ((Ex.refl _).alloc _)).mono ?_
  rintro e w3 ⟨rfl, z, rfl⟩
  have lg3 := lt_ext z (show w1.heap.size + 1 < (w2.alloc (.cells #[.int .i64 k, .int .i64 n, .int .i64 p, .int .i64 q, .string S, .slice A m c] 24)).heap.size by rw [World.size_alloc]; omega)
  go_wp2_with fail
  refine (HWr.out _ (((Ex.refl _).alloc _).ext z)).mono ?_
  rintro e w4 ⟨rfl, hp4, hx4⟩
  have n1 : w.heap.size ≠ w1.heap.size + 1 := by have := HSz.out.1; omega
  have n2 : w.heap.size + 1 ≠ w1.heap.size + 1 := by have := HSz.out.1; omega
  have HZ4 := Lib.hid (hx4.blk ((HZ2.out.alloc (.cells #[.int .i64 k, .int .i64 n, .int .i64 p, .int .i64 q, .string S, .slice A m c] 24)).ex ⟨z, rfl⟩) n1)
  have HQ4 := Lib.hid (hx4.blk ((HQ2.out.alloc (.cells #[.int .i64 k, .int .i64 n, .int .i64 p, .int .i64 q, .string S, .slice A m c] 24)).ex ⟨z, rfl⟩) n2)
  have HX4 : Hid (Ex w w4) := Exg.out ((HX2.out.alloc _).ext z) hx4 (by have := HSz.out.1; omega)
  obtain ⟨o4, c4, hc4, hbg4, hB4, hRw4⟩ := hp4.2
  have hB5 : Blk w4 (w1.heap.size + 1) 63 [.slice (some ⟨b, o4, none⟩) (r.length + 1) c4, .int .i64 x1, .int .i64 x2, .int .i64 (errAt ⟨k0, TX, (x1, x2)⟩ : Nat)] := hB4
  rw [HEr.out] at hB5
  have lg4 := hB5.lt
  have d1 : w4.cell? ⟨w1.heap.size + 1, 1, none⟩ = some (.int .i64 x1) := hB5.cell 1
  have d2 : w4.cell? ⟨w1.heap.size + 1, 2, none⟩ = some (.int .i64 x2) := hB5.cell 2
  have d3 : w4.cell? ⟨w1.heap.size + 1, 3, none⟩ = some (.int .i64 3) := hB5.cell 3
  have lz := HZ4.out.lt
  have lq := HQ4.out.lt
  have r0 := HZ4.out.cell 0
  have r1 := HZ4.out.cell 1
  have r2 := HZ4.out.cell 2
  have r3 := HZ4.out.cell 3
  have r4 := HZ4.out.cell 4
  have r5 := HZ4.out.cell 5
  simp only [List.getElem?_cons_zero, List.getElem?_cons_succ] at r0 r1 r2 r3 r4 r5
  have f0 := HZ4.out.frozen 0
  have f1 := HZ4.out.frozen 1
  have f2 := HZ4.out.frozen 2
  have f3 := HZ4.out.frozen 3
  have f4 := HZ4.out.frozen 4
  have f5 := HZ4.out.frozen 5
  have q0 := HQ4.out.cell 0
  have q1 := HQ4.out.cell 1
  simp only [List.getElem?_cons_zero, List.getElem?_cons_succ] at q0 q1
  have g0 := HQ4.out.frozen 0
  have g1 := HQ4.out.frozen 1
  clear hp4 hx4 hc4 hbg4 hB4 hB5 hRw4 lg3
  go_wp2_with fail
  go_region
  go_wp2_with fail
  refine bodyPost_ret (results_parse rfl rfl rfl rfl (Blk.drew (blk8 HZ4.out (by omega) _ _ _ _ _ _ _ _)) (Blk.drew (blk8p HQ4.out (by omega) _ _ _ _ _ _ _ _))) rfl ?_
  exact ⟨rfl, (ex8 HX4.out (Nat.le_refl _) (Nat.le_succ _) _ _ _ _ _ _ _ _).drew⟩
set_option maxRecDepth 20000 in
set_option maxHeartbeats 1600000 in
theorem parse_full (s : ByteArray) (ws : List Wd) (w : World) (hW : WfW ws) (H0 : ∀ w', Ex w w' → Calls Tryz.prog 48 #[.string s] w' (WordsR w' (.ok ws))) (T0 : Tr) (k0 : Nat) (TX : List UInt8) (x1 x2 : Nat) (r : List Wd) (p21 p22 : Nat) (HS0 : ∀ W g b, Pst W g b ⟨ws, 0, (0, 0)⟩ → Calls Tryz.prog 49 #[.pointer (some ⟨g, 0, none⟩)] W (TreeR W g b (T0, ⟨⟨k0, TX, (x1, x2)⟩ :: r, 0, (p21, p22)⟩))) (hk : k0 = 4) (hsz : T0.size ≤ 1000000) (hsb : smallB T0 = false) :
    Calls Tryz.prog 23 #[.string s] w (ParseR w (.err (0, 0) 5)) := by
  have H := Lib.hid H0
  unfold WordsR at H
  unfold ParseR
  have HZ : Hid (Zero6 ((w.alloc (.cells #[.int .i64 0, .int .i64 0, .int .i64 0, .int .i64 0, .string ⟨#[]⟩, .slice none 0 0] 24)).alloc (.cells #[.int .i64 0, .int .i64 0] 39)) w.heap.size) := (Blk.new w _ _).alloc _
  have HQ : Hid (Blk ((w.alloc (.cells #[.int .i64 0, .int .i64 0, .int .i64 0, .int .i64 0, .string ⟨#[]⟩, .slice none 0 0] 24)).alloc (.cells #[.int .i64 0, .int .i64 0] 39)) (w.heap.size + 1) 39 [.int .i64 0, .int .i64 0]) := Blk.new' _ (by simp) _ _
  have HS := Lib.hid HS0
  have HWf := Lib.hid hW
  have HNe : Hid (ws ≠ []) := by obtain ⟨x, r, rfl⟩ := hW.cons; exact List.cons_ne_nil _ _
  unfold TreeR at HS
  dsimp only at H ⊢
  have b4 : ((k0 : Int) == 4) = true := by rw [beq_iff_eq]; omega
  have b5 : ((k0 : Int) != 4) = false := by unfold bne; rw [b4]; rfl
  clear H0 hW HS0
  go_enter Tryz.func23, Tryz.ntmps23
  go_wp2_with fail
  refine (H.out _ (((Ex.refl _).alloc _).alloc _)).mono ?_
  rintro e w1 ⟨v, rfl, hown, hx⟩
  obtain ⟨b, cc, rfl, hbb, hlc, hrw⟩ := own_state hown HNe.out
  have hb1 : w.heap.size + 1 + 1 ≤ b := by rw [World.size_alloc, World.size_alloc] at hbb; exact hbb
  have hbl := hrw.1
  have HP : Hid (Pst ((w1.alloc (.cells #[.int .i64 0, .int .i64 0] 39)).alloc (.cells #[.slice (some ⟨b, 0, none⟩) ws.length cc, .int .i64 0, .int .i64 0, .int .i64 0] 63)) (w1.heap.size + 1) b ⟨ws, 0, (0, 0)⟩) :=
    ⟨HWf.out, 0, cc, hlc, by omega, Blk.new' _ (by simp) _ _, hrw.keep (by simp; omega) (((Ex.refl _).alloc _).alloc _ |>.below.block b hrw.1)⟩
  have HX := Lib.hid hx
  have HZ1 := Lib.hid (HZ.out.ex hx)
  have HQ1 := Lib.hid (HQ.out.ex hx)
  have HB1 := Lib.hid hb1
  clear hown hx hbb hlc hrw hb1 hbl
  go_wp2_with fail
  refine (HS.out _ _ _ HP.out).mono ?_
  rintro e w2 ⟨k, n, p, q, S, A, m, c, rfl, ht, hp, hx2⟩
  have hs1 : w.heap.size + 1 + 1 ≤ w1.heap.size := by have := HX.out.below.size; rw [World.size_alloc, World.size_alloc] at this; exact this
  have hg1 : w.heap.size ≠ w1.heap.size + 1 := by omega
  have hg2 : w.heap.size + 1 ≠ w1.heap.size + 1 := by omega
  have HZ2 := Lib.hid (hx2.blk ((HZ1.out.alloc (.cells #[.int .i64 0, .int .i64 0] 39)).alloc (.cells #[.slice (some ⟨b, 0, none⟩) ws.length cc, .int .i64 0, .int .i64 0, .int .i64 0] 63)) hg1)
  have HQ2 := Lib.hid (hx2.blk ((HQ1.out.alloc (.cells #[.int .i64 0, .int .i64 0] 39)).alloc (.cells #[.slice (some ⟨b, 0, none⟩) ws.length cc, .int .i64 0, .int .i64 0, .int .i64 0] 63)) hg2)
  have HX2 : Hid (Ex w w2) := Exg.out (((((Ex.refl w).alloc _).alloc _).trans HX.out).alloc _ |>.alloc _) hx2 (by omega)
  have HT := Lib.hid ht
  have HP2 := Lib.hid hp
  have hs2 : w1.heap.size + 1 + 1 ≤ w2.heap.size := by have := hx2.size; rw [World.size_alloc, World.size_alloc] at this; exact this
  have HSz : Hid (w.heap.size + 1 + 1 ≤ w1.heap.size ∧ w1.heap.size + 1 + 1 ≤ w2.heap.size) := ⟨hs1, hs2⟩
  have HPs := HP2.out.2
  clear ht hp hx2 hs1 hs2 hg1 hg2 HS HP
  have HN : Hid (∀ W, Ex w2 W → Calls Tryz.prog 50 #[.pointer (some ⟨w1.heap.size + 1, 0, none⟩)] W (Ret W (wdV ⟨k0, TX, (x1, x2)⟩))) := fun W hx => next_c _ b _ r 0 (p21, p22) W (HPs.ex hx)
  unfold wdV at HN
  dsimp only at HN
  have HPs2 := Lib.hid HP2.out
  obtain ⟨o, c2, hc2, hbg, hB, hRw⟩ := HPs
  have lg := hB.lt
  have c3 : w2.cell? ⟨w1.heap.size + 1, 3, none⟩ = some (.int .i64 0) := hB.cell 3
  clear hc2 hbg hB hRw
  have HSm : Hid (∀ W, Ex w2 W → Calls Tryz.prog 30 #[.agg #[.int .i64 k, .int .i64 n, .int .i64 p, .int .i64 q, .string S, .slice A m c]] W (Ret W (.bool (smallB T0)))) := fun W hx => small_t T0 _ W k n p q S A m c hsz (HT.out.ex hx)
  rw [hsb] at HSm
  clear hk hsz hsb
  go_wp2_with fail
  refine (HN.out _ ((Ex.refl _).alloc _)).mono ?_
  rintro e w3 ⟨rfl, z, rfl⟩
  have lg3 := lt_ext z (show w1.heap.size + 1 < (w2.alloc (.cells #[.int .i64 k, .int .i64 n, .int .i64 p, .int .i64 q, .string S, .slice A m c] 24)).heap.size by rw [World.size_alloc]; omega)
  have hP3 : Blk (ext (w2.alloc (.cells #[.int .i64 k, .int .i64 n, .int .i64 p, .int .i64 q, .string S, .slice A m c] 24)) z) w2.heap.size 24 (c6 k n p q S A m c) := (Blk.new w2 _ _).ex ⟨z, rfl⟩
  have s0 := hP3.cell 0
  have s1 := hP3.cell 1
  have s2 := hP3.cell 2
  have s3 := hP3.cell 3
  have s4 := hP3.cell 4
  have s5 := hP3.cell 5
  simp only [List.getElem?_cons_zero, List.getElem?_cons_succ] at s0 s1 s2 s3 s4 s5
  have t0 := hP3.frozen 0
  have t1 := hP3.frozen 1
  have t2 := hP3.frozen 2
  have t3 := hP3.frozen 3
  have t4 := hP3.frozen 4
  have t5 := hP3.frozen 5
  have ls := hP3.lt
  have c3e : (ext (w2.alloc (.cells #[.int .i64 k, .int .i64 n, .int .i64 p, .int .i64 q, .string S, .slice A m c] 24)) z).cell? ⟨w1.heap.size + 1, 3, none⟩ = some (.int .i64 0) := by
    obtain ⟨o5, c5, _, _, hB5, _⟩ := HPs2.out.2.ex (((Ex.refl _).alloc (.cells #[.int .i64 k, .int .i64 n, .int .i64 p, .int .i64 q, .string S, .slice A m c] 24)).ext z)
    exact hB5.cell 3
  have HP3 := Lib.hid hP3
  clear hP3
  go_wp2_with fail
  refine (HSm.out _ (((Ex.refl _).alloc _).ext z)).mono ?_
  rintro e w4 ⟨rfl, hx4⟩
  have HZ4 := Lib.hid (((HZ2.out.alloc (.cells #[.int .i64 k, .int .i64 n, .int .i64 p, .int .i64 q, .string S, .slice A m c] 24)).ex ⟨z, rfl⟩).ex hx4)
  have HQ4 := Lib.hid (((HQ2.out.alloc (.cells #[.int .i64 k, .int .i64 n, .int .i64 p, .int .i64 q, .string S, .slice A m c] 24)).ex ⟨z, rfl⟩).ex hx4)
  have HP4 := Lib.hid (HP3.out.ex hx4)
  have HX4 : Hid (Ex w w4) := ((HX2.out.alloc _).ext z).trans hx4
  have HT4 := Lib.hid ((((HT.out.ex ((Ex.refl _).alloc _)).ex ⟨z, rfl⟩).ex hx4).imp (Q' := fun c => w.heap.size + 1 + 1 ≤ c) (fun c _ h => by have h0 : _ ≤ c := h; rw [World.size_alloc, World.size_alloc] at h0; have := HSz.out.1; omega))
  have lz := HZ4.out.lt
  have lq := HQ4.out.lt
  have lp := HP4.out.lt
  have r0 := HZ4.out.cell 0
  have r1 := HZ4.out.cell 1
  have r2 := HZ4.out.cell 2
  have r3 := HZ4.out.cell 3
  have r4 := HZ4.out.cell 4
  have r5 := HZ4.out.cell 5
  simp only [List.getElem?_cons_zero, List.getElem?_cons_succ] at r0 r1 r2 r3 r4 r5
  have f0 := HZ4.out.frozen 0
  have f1 := HZ4.out.frozen 1
  have f2 := HZ4.out.frozen 2
  have f3 := HZ4.out.frozen 3
  have f4 := HZ4.out.frozen 4
  have f5 := HZ4.out.frozen 5
  have q0 := HQ4.out.cell 0
  have q1 := HQ4.out.cell 1
  simp only [List.getElem?_cons_zero, List.getElem?_cons_succ] at q0 q1
  have g0 := HQ4.out.frozen 0
  have g1 := HQ4.out.frozen 1
  have v0 := HP4.out.cell 0
  have v1 := HP4.out.cell 1
  have v2 := HP4.out.cell 2
  have v3 := HP4.out.cell 3
  have v4 := HP4.out.cell 4
  have v5 := HP4.out.cell 5
  simp only [List.getElem?_cons_zero, List.getElem?_cons_succ] at v0 v1 v2 v3 v4 v5
  have y0 := HP4.out.frozen 0
  have y1 := HP4.out.frozen 1
  have y2 := HP4.out.frozen 2
  have y3 := HP4.out.frozen 3
  have y4 := HP4.out.frozen 4
  have y5 := HP4.out.frozen 5
  clear hx4
  go_wp2_with fail
  refine bodyPost_ret (results_parse rfl rfl rfl rfl (blk8 HZ4.out (by omega) _ _ _ _ _ _ _ _) (blk8p HQ4.out (by omega) _ _ _ _ _ _ _ _)) rfl ?_
  exact ⟨rfl, ex8 HX4.out (Nat.le_refl _) (Nat.le_succ _) _ _ _ _ _ _ _ _⟩
set_option maxRecDepth 20000 in
set_option maxHeartbeats 1600000 in
theorem parse_tree (s : ByteArray) (ws : List Wd) (w : World) (hW : WfW ws) (H0 : ∀ w', Ex w w' → Calls Tryz.prog 48 #[.string s] w' (WordsR w' (.ok ws))) (T0 : Tr) (k0 : Nat) (TX : List UInt8) (x1 x2 : Nat) (r : List Wd) (p21 p22 : Nat) (HS0 : ∀ W g b, Pst W g b ⟨ws, 0, (0, 0)⟩ → Calls Tryz.prog 49 #[.pointer (some ⟨g, 0, none⟩)] W (TreeR W g b (T0, ⟨⟨k0, TX, (x1, x2)⟩ :: r, 0, (p21, p22)⟩))) (hk : k0 = 4) (hsz : T0.size ≤ 1000000) (hsb : smallB T0 = true) :
    Calls Tryz.prog 23 #[.string s] w (ParseR w (.tree T0)) := by
  have H := Lib.hid H0
  unfold WordsR at H
  unfold ParseR
  have HZ : Hid (Zero6 ((w.alloc (.cells #[.int .i64 0, .int .i64 0, .int .i64 0, .int .i64 0, .string ⟨#[]⟩, .slice none 0 0] 24)).alloc (.cells #[.int .i64 0, .int .i64 0] 39)) w.heap.size) := (Blk.new w _ _).alloc _
  have HQ : Hid (Blk ((w.alloc (.cells #[.int .i64 0, .int .i64 0, .int .i64 0, .int .i64 0, .string ⟨#[]⟩, .slice none 0 0] 24)).alloc (.cells #[.int .i64 0, .int .i64 0] 39)) (w.heap.size + 1) 39 [.int .i64 0, .int .i64 0]) := Blk.new' _ (by simp) _ _
  have HS := Lib.hid HS0
  have HWf := Lib.hid hW
  have HNe : Hid (ws ≠ []) := by obtain ⟨x, r, rfl⟩ := hW.cons; exact List.cons_ne_nil _ _
  unfold TreeR at HS
  dsimp only at H ⊢
  have b4 : ((k0 : Int) == 4) = true := by rw [beq_iff_eq]; omega
  have b5 : ((k0 : Int) != 4) = false := by unfold bne; rw [b4]; rfl
  clear H0 hW HS0
  go_enter Tryz.func23, Tryz.ntmps23
  go_wp2_with fail
  refine (H.out _ (((Ex.refl _).alloc _).alloc _)).mono ?_
  rintro e w1 ⟨v, rfl, hown, hx⟩
  obtain ⟨b, cc, rfl, hbb, hlc, hrw⟩ := own_state hown HNe.out
  have hb1 : w.heap.size + 1 + 1 ≤ b := by rw [World.size_alloc, World.size_alloc] at hbb; exact hbb
  have hbl := hrw.1
  have HP : Hid (Pst ((w1.alloc (.cells #[.int .i64 0, .int .i64 0] 39)).alloc (.cells #[.slice (some ⟨b, 0, none⟩) ws.length cc, .int .i64 0, .int .i64 0, .int .i64 0] 63)) (w1.heap.size + 1) b ⟨ws, 0, (0, 0)⟩) :=
    ⟨HWf.out, 0, cc, hlc, by omega, Blk.new' _ (by simp) _ _, hrw.keep (by simp; omega) (((Ex.refl _).alloc _).alloc _ |>.below.block b hrw.1)⟩
  have HX := Lib.hid hx
  have HZ1 := Lib.hid (HZ.out.ex hx)
  have HQ1 := Lib.hid (HQ.out.ex hx)
  have HB1 := Lib.hid hb1
  clear hown hx hbb hlc hrw hb1 hbl
  go_wp2_with fail
  refine (HS.out _ _ _ HP.out).mono ?_
  rintro e w2 ⟨k, n, p, q, S, A, m, c, rfl, ht, hp, hx2⟩
  have hs1 : w.heap.size + 1 + 1 ≤ w1.heap.size := by have := HX.out.below.size; rw [World.size_alloc, World.size_alloc] at this; exact this
  have hg1 : w.heap.size ≠ w1.heap.size + 1 := by omega
  have hg2 : w.heap.size + 1 ≠ w1.heap.size + 1 := by omega
  have HZ2 := Lib.hid (hx2.blk ((HZ1.out.alloc (.cells #[.int .i64 0, .int .i64 0] 39)).alloc (.cells #[.slice (some ⟨b, 0, none⟩) ws.length cc, .int .i64 0, .int .i64 0, .int .i64 0] 63)) hg1)
  have HQ2 := Lib.hid (hx2.blk ((HQ1.out.alloc (.cells #[.int .i64 0, .int .i64 0] 39)).alloc (.cells #[.slice (some ⟨b, 0, none⟩) ws.length cc, .int .i64 0, .int .i64 0, .int .i64 0] 63)) hg2)
  have HX2 : Hid (Ex w w2) := Exg.out (((((Ex.refl w).alloc _).alloc _).trans HX.out).alloc _ |>.alloc _) hx2 (by omega)
  have HT := Lib.hid ht
  have HP2 := Lib.hid hp
  have hs2 : w1.heap.size + 1 + 1 ≤ w2.heap.size := by have := hx2.size; rw [World.size_alloc, World.size_alloc] at this; exact this
  have HSz : Hid (w.heap.size + 1 + 1 ≤ w1.heap.size ∧ w1.heap.size + 1 + 1 ≤ w2.heap.size) := ⟨hs1, hs2⟩
  have HPs := HP2.out.2
  clear ht hp hx2 hs1 hs2 hg1 hg2 HS HP
  have HN : Hid (∀ W, Ex w2 W → Calls Tryz.prog 50 #[.pointer (some ⟨w1.heap.size + 1, 0, none⟩)] W (Ret W (wdV ⟨k0, TX, (x1, x2)⟩))) := fun W hx => next_c _ b _ r 0 (p21, p22) W (HPs.ex hx)
  unfold wdV at HN
  dsimp only at HN
  have HPs2 := Lib.hid HP2.out
  obtain ⟨o, c2, hc2, hbg, hB, hRw⟩ := HPs
  have lg := hB.lt
  have c3 : w2.cell? ⟨w1.heap.size + 1, 3, none⟩ = some (.int .i64 0) := hB.cell 3
  clear hc2 hbg hB hRw
  have HSm : Hid (∀ W, Ex w2 W → Calls Tryz.prog 30 #[.agg #[.int .i64 k, .int .i64 n, .int .i64 p, .int .i64 q, .string S, .slice A m c]] W (Ret W (.bool (smallB T0)))) := fun W hx => small_t T0 _ W k n p q S A m c hsz (HT.out.ex hx)
  rw [hsb] at HSm
  clear hk hsz hsb
  go_wp2_with fail
  refine (HN.out _ ((Ex.refl _).alloc _)).mono ?_
  rintro e w3 ⟨rfl, z, rfl⟩
  have lg3 := lt_ext z (show w1.heap.size + 1 < (w2.alloc (.cells #[.int .i64 k, .int .i64 n, .int .i64 p, .int .i64 q, .string S, .slice A m c] 24)).heap.size by rw [World.size_alloc]; omega)
  have hP3 : Blk (ext (w2.alloc (.cells #[.int .i64 k, .int .i64 n, .int .i64 p, .int .i64 q, .string S, .slice A m c] 24)) z) w2.heap.size 24 (c6 k n p q S A m c) := (Blk.new w2 _ _).ex ⟨z, rfl⟩
  have s0 := hP3.cell 0
  have s1 := hP3.cell 1
  have s2 := hP3.cell 2
  have s3 := hP3.cell 3
  have s4 := hP3.cell 4
  have s5 := hP3.cell 5
  simp only [List.getElem?_cons_zero, List.getElem?_cons_succ] at s0 s1 s2 s3 s4 s5
  have t0 := hP3.frozen 0
  have t1 := hP3.frozen 1
  have t2 := hP3.frozen 2
  have t3 := hP3.frozen 3
  have t4 := hP3.frozen 4
  have t5 := hP3.frozen 5
  have ls := hP3.lt
  have c3e : (ext (w2.alloc (.cells #[.int .i64 k, .int .i64 n, .int .i64 p, .int .i64 q, .string S, .slice A m c] 24)) z).cell? ⟨w1.heap.size + 1, 3, none⟩ = some (.int .i64 0) := by
    obtain ⟨o5, c5, _, _, hB5, _⟩ := HPs2.out.2.ex (((Ex.refl _).alloc (.cells #[.int .i64 k, .int .i64 n, .int .i64 p, .int .i64 q, .string S, .slice A m c] 24)).ext z)
    exact hB5.cell 3
  have HP3 := Lib.hid hP3
  clear hP3
  go_wp2_with fail
  refine (HSm.out _ (((Ex.refl _).alloc _).ext z)).mono ?_
  rintro e w4 ⟨rfl, hx4⟩
  have HZ4 := Lib.hid (((HZ2.out.alloc (.cells #[.int .i64 k, .int .i64 n, .int .i64 p, .int .i64 q, .string S, .slice A m c] 24)).ex ⟨z, rfl⟩).ex hx4)
  have HQ4 := Lib.hid (((HQ2.out.alloc (.cells #[.int .i64 k, .int .i64 n, .int .i64 p, .int .i64 q, .string S, .slice A m c] 24)).ex ⟨z, rfl⟩).ex hx4)
  have HP4 := Lib.hid (HP3.out.ex hx4)
  have HX4 : Hid (Ex w w4) := ((HX2.out.alloc _).ext z).trans hx4
  have HT4 := Lib.hid ((((HT.out.ex ((Ex.refl _).alloc _)).ex ⟨z, rfl⟩).ex hx4).imp (Q' := fun c => w.heap.size + 1 + 1 ≤ c) (fun c _ h => by have h0 : _ ≤ c := h; rw [World.size_alloc, World.size_alloc] at h0; have := HSz.out.1; omega))
  have lz := HZ4.out.lt
  have lq := HQ4.out.lt
  have lp := HP4.out.lt
  have r0 := HZ4.out.cell 0
  have r1 := HZ4.out.cell 1
  have r2 := HZ4.out.cell 2
  have r3 := HZ4.out.cell 3
  have r4 := HZ4.out.cell 4
  have r5 := HZ4.out.cell 5
  simp only [List.getElem?_cons_zero, List.getElem?_cons_succ] at r0 r1 r2 r3 r4 r5
  have f0 := HZ4.out.frozen 0
  have f1 := HZ4.out.frozen 1
  have f2 := HZ4.out.frozen 2
  have f3 := HZ4.out.frozen 3
  have f4 := HZ4.out.frozen 4
  have f5 := HZ4.out.frozen 5
  have q0 := HQ4.out.cell 0
  have q1 := HQ4.out.cell 1
  simp only [List.getElem?_cons_zero, List.getElem?_cons_succ] at q0 q1
  have g0 := HQ4.out.frozen 0
  have g1 := HQ4.out.frozen 1
  have v0 := HP4.out.cell 0
  have v1 := HP4.out.cell 1
  have v2 := HP4.out.cell 2
  have v3 := HP4.out.cell 3
  have v4 := HP4.out.cell 4
  have v5 := HP4.out.cell 5
  simp only [List.getElem?_cons_zero, List.getElem?_cons_succ] at v0 v1 v2 v3 v4 v5
  have y0 := HP4.out.frozen 0
  have y1 := HP4.out.frozen 1
  have y2 := HP4.out.frozen 2
  have y3 := HP4.out.frozen 3
  have y4 := HP4.out.frozen 4
  have y5 := HP4.out.frozen 5
  clear hx4
  go_wp2_with fail
  refine bodyPost_ret (results_parse rfl rfl rfl rfl (blk8 HZ4.out (by omega) _ _ _ _ _ _ _ _) (blk8p HQ4.out (by omega) _ _ _ _ _ _ _ _)) rfl ?_
  exact ⟨k, n, p, q, S, A, m, c, rfl, (tree8 HT4.out (fun b h => by omega) (fun b h => by omega) _ _ _ _ _ _ _ _).imp (fun c _ h => by omega), ex8 HX4.out (Nat.le_refl _) (Nat.le_succ _) _ _ _ _ _ _ _ _⟩
set_option maxRecDepth 20000 in
set_option maxHeartbeats 1600000 in
theorem parse_none (s : ByteArray) (ws : List Wd) (w : World) (hW : WfW ws) (H0 : ∀ w', Ex w w' → Calls Tryz.prog 48 #[.string s] w' (WordsR w' (.ok ws))) (T0 : Tr) (S0 : St) (HS0 : ∀ W g b, Pst W g b ⟨ws, 0, (0, 0)⟩ → Calls Tryz.prog 49 #[.pointer (some ⟨g, 0, none⟩)] W (TreeR W g b (T0, S0))) (hn : S0.ws = []) (O : PO) :
    Calls Tryz.prog 23 #[.string s] w (ParseR w (O)) := by
  have H := Lib.hid H0
  unfold WordsR at H
  unfold ParseR
  have HZ : Hid (Zero6 ((w.alloc (.cells #[.int .i64 0, .int .i64 0, .int .i64 0, .int .i64 0, .string ⟨#[]⟩, .slice none 0 0] 24)).alloc (.cells #[.int .i64 0, .int .i64 0] 39)) w.heap.size) := (Blk.new w _ _).alloc _
  have HQ : Hid (Blk ((w.alloc (.cells #[.int .i64 0, .int .i64 0, .int .i64 0, .int .i64 0, .string ⟨#[]⟩, .slice none 0 0] 24)).alloc (.cells #[.int .i64 0, .int .i64 0] 39)) (w.heap.size + 1) 39 [.int .i64 0, .int .i64 0]) := Blk.new' _ (by simp) _ _
  have HS := Lib.hid HS0
  have HWf := Lib.hid hW
  have HNe : Hid (ws ≠ []) := by obtain ⟨x, r, rfl⟩ := hW.cons; exact List.cons_ne_nil _ _
  unfold TreeR at HS
  dsimp only at H ⊢
  clear H0 hW HS0
  go_enter Tryz.func23, Tryz.ntmps23
  go_wp2_with fail
  refine (H.out _ (((Ex.refl _).alloc _).alloc _)).mono ?_
  rintro e w1 ⟨v, rfl, hown, hx⟩
  obtain ⟨b, cc, rfl, hbb, hlc, hrw⟩ := own_state hown HNe.out
  have hb1 : w.heap.size + 1 + 1 ≤ b := by rw [World.size_alloc, World.size_alloc] at hbb; exact hbb
  have hbl := hrw.1
  have HP : Hid (Pst ((w1.alloc (.cells #[.int .i64 0, .int .i64 0] 39)).alloc (.cells #[.slice (some ⟨b, 0, none⟩) ws.length cc, .int .i64 0, .int .i64 0, .int .i64 0] 63)) (w1.heap.size + 1) b ⟨ws, 0, (0, 0)⟩) :=
    ⟨HWf.out, 0, cc, hlc, by omega, Blk.new' _ (by simp) _ _, hrw.keep (by simp; omega) (((Ex.refl _).alloc _).alloc _ |>.below.block b hrw.1)⟩
  have HX := Lib.hid hx
  have HZ1 := Lib.hid (HZ.out.ex hx)
  have HQ1 := Lib.hid (HQ.out.ex hx)
  have HB1 := Lib.hid hb1
  clear hown hx hbb hlc hrw hb1 hbl
  go_wp2_with fail
  refine (HS.out _ _ _ HP.out).mono ?_
  rintro e w2 ⟨k, n, p, q, S, A, m, c, rfl, ht, hp, hx2⟩
  have hs1 : w.heap.size + 1 + 1 ≤ w1.heap.size := by have := HX.out.below.size; rw [World.size_alloc, World.size_alloc] at this; exact this
  have hg1 : w.heap.size ≠ w1.heap.size + 1 := by omega
  have hg2 : w.heap.size + 1 ≠ w1.heap.size + 1 := by omega
  have HZ2 := Lib.hid (hx2.blk ((HZ1.out.alloc (.cells #[.int .i64 0, .int .i64 0] 39)).alloc (.cells #[.slice (some ⟨b, 0, none⟩) ws.length cc, .int .i64 0, .int .i64 0, .int .i64 0] 63)) hg1)
  have HQ2 := Lib.hid (hx2.blk ((HQ1.out.alloc (.cells #[.int .i64 0, .int .i64 0] 39)).alloc (.cells #[.slice (some ⟨b, 0, none⟩) ws.length cc, .int .i64 0, .int .i64 0, .int .i64 0] 63)) hg2)
  have HX2 : Hid (Ex w w2) := Exg.out (((((Ex.refl w).alloc _).alloc _).trans HX.out).alloc _ |>.alloc _) hx2 (by omega)
  have HT := Lib.hid ht
  have HP2 := Lib.hid hp
  have hs2 : w1.heap.size + 1 + 1 ≤ w2.heap.size := by have := hx2.size; rw [World.size_alloc, World.size_alloc] at this; exact this
  have HSz : Hid (w.heap.size + 1 + 1 ≤ w1.heap.size ∧ w1.heap.size + 1 + 1 ≤ w2.heap.size) := ⟨hs1, hs2⟩
  have HPs := HP2.out.2
  clear ht hp hx2 hs1 hs2 hg1 hg2 HS HP
  obtain ⟨x, r, hx⟩ := HP2.out.1.cons
  rw [hn] at hx
  cases hx
end Go.Proofs.YthjalkonlcjhnaaGreatDoor
