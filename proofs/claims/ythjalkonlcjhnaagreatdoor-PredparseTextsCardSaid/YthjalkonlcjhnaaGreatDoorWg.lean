/-
  The reference's atom, walked. The reference's atom at names of channels and variables, walked. The reference's atom: its contract.
  Conditions: as each theorem says.
-/
import Derived.Test.YthjalkonlcjhnaaGreatDoorWd
import Derived.RegionTactic
import Derived.BigRegion
import Derived.ChangeAlike
import Derived.Test.YthjalkonlcjhnaaGreatDoorQv
namespace Go.Proofs.YthjalkonlcjhnaaGreatDoor
open Go.RowKit
theorem results_par {fn : Func} {p g u v : Nat} {a b c d e f x y : Value} {w : World} {tmps : Array Value} (h : fn.results = #[.cell p 24, .tmp u, .tmp v]) (hp : tmps.getD p undef = .pointer (some ⟨g, 0, none⟩)) (hu : tmps.getD u undef = x) (hv : tmps.getD v undef = y) (hB : Blk w g 24 [a, b, c, d, e, f]) :
    (results fn tmps).run Tryz.prog w = .ok (.tuple #[.agg #[a, b, c, d, e, f], x, y]) w := by
  have h0 : w.cell? ⟨g, 0, none⟩ = some a := hB.cell 0
  have h1 : w.cell? ⟨g, 1, none⟩ = some b := hB.cell 1
  have h2 : w.cell? ⟨g, 2, none⟩ = some c := hB.cell 2
  have h3 : w.cell? ⟨g, 3, none⟩ = some d := hB.cell 3
  have h4 : w.cell? ⟨g, 4, none⟩ = some e := hB.cell 4
  have h5 : w.cell? ⟨g, 5, none⟩ = some f := hB.cell 5
  rw [Array.getD_eq_getD_getElem?] at hp hu hv
  simp [results, h, hp, hu, hv, go_sem, h0, h1, h2, h3, h4, h5]
/-- the words ws, read at a slice -/
theorem word_cells {w : World} {b o : Nat} {ws : List Wd} (h : Rw w b o (wdsV ws)) {j : Nat} {x : Wd} (hj : ws[j]? = some x) :
    b < w.heap.size ∧ w.cell? ⟨b, o + j * 4, none⟩ = some (.int .i64 (x.kind : Nat)) ∧ w.cell? ⟨b, o + j * 4 + 1, none⟩ = some (.string ⟨x.text.toArray⟩) ∧ w.cell? ⟨b, o + j * 4 + 2, none⟩ = some (.int .i64 (x.pos.1 : Nat)) ∧ w.cell? ⟨b, o + j * 4 + 3, none⟩ = some (.int .i64 (x.pos.2 : Nat)) := by
  have hg := fun i hi => wds_get ws j x hj i hi
  refine ⟨h.1, ?_, ?_, ?_, ?_⟩
  · have := h.2 (j * 4 + 0) _ (hg 0 (by omega)); simpa using this
  · have := h.2 (j * 4 + 1) _ (hg 1 (by omega)); rw [← Nat.add_assoc] at this; exact this
  · have := h.2 (j * 4 + 2) _ (hg 2 (by omega)); rw [← Nat.add_assoc] at this; exact this
  · have := h.2 (j * 4 + 3) _ (hg 3 (by omega)); rw [← Nat.add_assoc] at this; exact this
theorem Rw.exx {w w' : World} {b o : Nat} {xs : List Value} (h : Rw w b o xs) (hx : Ex w w') : Rw w' b o xs := h.keep hx.below.size (hx.below.block b h.1)
def triV (k n : Int) (S : ByteArray) (j : Nat) (ok : Bool) : Value := .tuple #[.agg #[.int .i64 k, .int .i64 n, .int .i64 0, .int .i64 0, .string S, .slice none 0 0], .int .i64 (j : Nat), .bool ok]
theorem ex6 {w W : World} {R : Nat} (hR : w.heap.size ≤ R) (hx : Ex w W) (a b c d e f : Value) : Ex w (st6 W R a b c d e f) :=
  (((((hx.setCell (p := ⟨R, 0, none⟩) hR _).setCell (p := ⟨R, 1, none⟩) hR _).setCell (p := ⟨R, 2, none⟩) hR _).setCell (p := ⟨R, 3, none⟩) hR _).setCell (p := ⟨R, 4, none⟩) hR _).setCell (p := ⟨R, 5, none⟩) hR _
def isS (x : Wd) (S : List UInt8) : Bool := decide (x.kind = 3) && decide (x.text = S)
def nmS (x : Wd) : Bool := decide (x.kind = 2) && wordB ⟨x.text.toArray⟩
set_option maxRecDepth 100000 in
set_option maxHeartbeats 3200000 in
theorem at_num (ws : List Wd) (b o c i : Nat) (x0 : Wd) (w : World) (hrw : Rw w b o (wdsV ws)) (hlen : ws.length ≤ 100000) (hx0 : ws[i]? = some x0) (hk : x0.kind = 1) (hd : x0.text.all digB = true) (hv : valF 0 x0.text ≤ 1125899906842624) (htl : x0.text.length ≤ 16384) :
    Calls Tryz.prog 84 #[.slice (some ⟨b, o, none⟩) ws.length c, .int .i64 (i : Nat)] w (Ret w (triV (1) ((valF 0 x0.text : Nat)) (⟨#[]⟩) (i + 1) true)) := by
  have HW := Lib.hid hrw
  have HX0 := Lib.hid hx0
  have hil : i + 0 < ws.length := (List.getElem?_eq_some_iff.1 hx0).1
  have m0 : (i : Int) < (ws.length : Int) := by omega
  have mm : (0 : Int) ≤ (i : Int) := by omega
  have mw : (ws.length : Int) ≤ 100000 := by omega
  obtain ⟨TB0, hTB⟩ : ∃ T : ByteArray, T = ⟨x0.text.toArray⟩ := ⟨_, rfl⟩
  have HT0 := Lib.hid hTB
  clear hTB
  have HS0 : Hid (Ex w ((w.alloc (.cells #[.int .i64 0, .int .i64 0, .int .i64 0, .int .i64 0, .string ⟨#[]⟩, .slice none 0 0] 24)).alloc (.cells #[.int .i64 (x0.kind : Nat), .string TB0, .int .i64 (x0.pos.1 : Nat), .int .i64 (x0.pos.2 : Nat)] 66)) ∧ Zero6 ((w.alloc (.cells #[.int .i64 0, .int .i64 0, .int .i64 0, .int .i64 0, .string ⟨#[]⟩, .slice none 0 0] 24)).alloc (.cells #[.int .i64 (x0.kind : Nat), .string TB0, .int .i64 (x0.pos.1 : Nat), .int .i64 (x0.pos.2 : Nat)] 66)) w.heap.size ∧ Blk ((w.alloc (.cells #[.int .i64 0, .int .i64 0, .int .i64 0, .int .i64 0, .string ⟨#[]⟩, .slice none 0 0] 24)).alloc (.cells #[.int .i64 (x0.kind : Nat), .string TB0, .int .i64 (x0.pos.1 : Nat), .int .i64 (x0.pos.2 : Nat)] 66)) (w.heap.size + 1) 66 [.int .i64 (x0.kind : Nat), .string TB0, .int .i64 (x0.pos.1 : Nat), .int .i64 (x0.pos.2 : Nat)]) := ⟨((Ex.refl w).alloc _).alloc _, (Blk.new w _ _).alloc _, Blk.new' _ (by simp) _ _⟩
  have HN : Hid (∀ w, Calls Tryz.prog 113 #[.string TB0] w (Ret w (.int .i64 (valF 0 x0.text : Nat)))) := fun w => by
    rw [HT0.out]
    exact rNumK_c ⟨x0.text.toArray⟩ w (by rw [size_data]; exact htl) hd hv
  have e1 : (((x0.kind : Nat) : Int) == 1) = true := by rw [beq_iff_eq]; omega
  have e2 : (x0.kind == 1) = true := by rw [beq_iff_eq]; omega
  clear hk hd hv htl
  obtain ⟨lb, w00, w01, w02, w03⟩ := word_cells (HW.out.exx (Ex.refl w)) HX0.out
  rw [← HT0.out] at w01
  clear hrw hlen hil hx0
  go_enter Tryz.func84, Tryz.ntmps84
  go_wp2_with fail
  generalize w.heap.size + 1 = nb at *
  refine (HN.out _).mono ?_
  rintro e W1 ⟨rfl, hz⟩
  have HS1 : Hid (Ex w W1 ∧ Zero6 W1 w.heap.size ∧ Blk W1 nb 66 [.int .i64 (x0.kind : Nat), .string TB0, .int .i64 (x0.pos.1 : Nat), .int .i64 (x0.pos.2 : Nat)]) := ⟨HS0.out.1.trans hz, HS0.out.2.1.ex hz, HS0.out.2.2.ex hz⟩
  clear hz
  clear lb w00 w01 w02 w03
  have rz := HS1.out.2.1
  have lz := rz.lt
  have r0 := rz.cell 0
  have r1 := rz.cell 1
  have r2 := rz.cell 2
  have r3 := rz.cell 3
  have r4 := rz.cell 4
  have r5 := rz.cell 5
  have f0 := rz.frozen 0
  have f1 := rz.frozen 1
  have f2 := rz.frozen 2
  have f3 := rz.frozen 3
  have f4 := rz.frozen 4
  have f5 := rz.frozen 5
  simp only [List.getElem?_cons_zero, List.getElem?_cons_succ] at r0 r1 r2 r3 r4 r5
  have tz := HS1.out.2.2
  have lt := tz.lt
  have t0 := tz.cell 0
  have t1 := tz.cell 1
  have t2 := tz.cell 2
  have t3 := tz.cell 3
  simp only [List.getElem?_cons_zero, List.getElem?_cons_succ] at t0 t1 t2 t3
  clear rz tz
  obtain ⟨lb, w00, w01, w02, w03⟩ := word_cells (HW.out.exx HS1.out.1) HX0.out
  rw [← HT0.out] at w01
  go_wp2_with fail
  refine bodyPost_ret (results_par rfl rfl rfl rfl (blk6 HS1.out.2.1 _ _ _ _ _ _)) rfl ?_
  exact ⟨rfl, ex6 (Nat.le_refl _) HS1.out.1 _ _ _ _ _ _⟩
set_option maxRecDepth 100000 in
set_option maxHeartbeats 3200000 in
theorem at_kind (ws : List Wd) (b o c i : Nat) (x0 : Wd) (w : World) (hrw : Rw w b o (wdsV ws)) (hlen : ws.length ≤ 100000) (hx0 : ws[i]? = some x0) (hk : x0.kind ≠ 1) (hk2 : x0.kind ≠ 2) (h0 : isS x0 [40] = false) :
    Calls Tryz.prog 84 #[.slice (some ⟨b, o, none⟩) ws.length c, .int .i64 (i : Nat)] w (Ret w (triV (0) (0) (⟨#[]⟩) (i + 0) false)) := by
  have HW := Lib.hid hrw
  have HX0 := Lib.hid hx0
  have hil : i + 0 < ws.length := (List.getElem?_eq_some_iff.1 hx0).1
  have m0 : (i : Int) < (ws.length : Int) := by omega
  have mm : (0 : Int) ≤ (i : Int) := by omega
  have mw : (ws.length : Int) ≤ 100000 := by omega
  obtain ⟨TB0, hTB⟩ : ∃ T : ByteArray, T = ⟨x0.text.toArray⟩ := ⟨_, rfl⟩
  have HT0 := Lib.hid hTB
  clear hTB
  have HS0 : Hid (Ex w ((w.alloc (.cells #[.int .i64 0, .int .i64 0, .int .i64 0, .int .i64 0, .string ⟨#[]⟩, .slice none 0 0] 24)).alloc (.cells #[.int .i64 (x0.kind : Nat), .string TB0, .int .i64 (x0.pos.1 : Nat), .int .i64 (x0.pos.2 : Nat)] 66)) ∧ Zero6 ((w.alloc (.cells #[.int .i64 0, .int .i64 0, .int .i64 0, .int .i64 0, .string ⟨#[]⟩, .slice none 0 0] 24)).alloc (.cells #[.int .i64 (x0.kind : Nat), .string TB0, .int .i64 (x0.pos.1 : Nat), .int .i64 (x0.pos.2 : Nat)] 66)) w.heap.size ∧ Blk ((w.alloc (.cells #[.int .i64 0, .int .i64 0, .int .i64 0, .int .i64 0, .string ⟨#[]⟩, .slice none 0 0] 24)).alloc (.cells #[.int .i64 (x0.kind : Nat), .string TB0, .int .i64 (x0.pos.1 : Nat), .int .i64 (x0.pos.2 : Nat)] 66)) (w.heap.size + 1) 66 [.int .i64 (x0.kind : Nat), .string TB0, .int .i64 (x0.pos.1 : Nat), .int .i64 (x0.pos.2 : Nat)]) := ⟨((Ex.refl w).alloc _).alloc _, (Blk.new w _ _).alloc _, Blk.new' _ (by simp) _ _⟩
  have Hi0 : Hid (∀ w, Calls Tryz.prog 83 #[.agg #[.int .i64 (x0.kind : Nat), .string TB0, .int .i64 (x0.pos.1 : Nat), .int .i64 (x0.pos.2 : Nat)], .string ⟨#[40]⟩] w (Ret w (.bool false))) := fun w => by
    rw [HT0.out, ← h0]
    exact rIs_c x0 ⟨#[40]⟩ w
  clear h0
  have e1 : (((x0.kind : Nat) : Int) == 1) = false := beq_eq_false_iff_ne.2 (by omega)
  have e2 : (x0.kind == 1) = false := beq_eq_false_iff_ne.2 (by omega)
  have e3 : (((x0.kind : Nat) : Int) != 1) = true := by rw [bne_iff_ne]; omega
  have e4 : (x0.kind != 1) = true := by rw [bne_iff_ne]; omega
  have ee1 : (((x0.kind : Nat) : Int) == 2) = false := beq_eq_false_iff_ne.2 (by omega)
  have ee2 : (x0.kind == 2) = false := beq_eq_false_iff_ne.2 (by omega)
  have ee3 : (((x0.kind : Nat) : Int) != 2) = true := by rw [bne_iff_ne]; omega
  have ee4 : (x0.kind != 2) = true := by rw [bne_iff_ne]; omega
  clear hk hk2
  obtain ⟨lb, w00, w01, w02, w03⟩ := word_cells (HW.out.exx (Ex.refl w)) HX0.out
  rw [← HT0.out] at w01
  clear hrw hlen hil hx0
  go_enter Tryz.func84, Tryz.ntmps84
  go_wp2_with fail
  generalize w.heap.size + 1 = nb at *
  refine (Hi0.out _).mono ?_
  rintro e W1 ⟨rfl, hz⟩
  have HS1 : Hid (Ex w W1 ∧ Zero6 W1 w.heap.size ∧ Blk W1 nb 66 [.int .i64 (x0.kind : Nat), .string TB0, .int .i64 (x0.pos.1 : Nat), .int .i64 (x0.pos.2 : Nat)]) := ⟨HS0.out.1.trans hz, HS0.out.2.1.ex hz, HS0.out.2.2.ex hz⟩
  clear hz
  clear lb w00 w01 w02 w03
  have rz := HS1.out.2.1
  have lz := rz.lt
  have r0 := rz.cell 0
  have r1 := rz.cell 1
  have r2 := rz.cell 2
  have r3 := rz.cell 3
  have r4 := rz.cell 4
  have r5 := rz.cell 5
  have f0 := rz.frozen 0
  have f1 := rz.frozen 1
  have f2 := rz.frozen 2
  have f3 := rz.frozen 3
  have f4 := rz.frozen 4
  have f5 := rz.frozen 5
  simp only [List.getElem?_cons_zero, List.getElem?_cons_succ] at r0 r1 r2 r3 r4 r5
  have tz := HS1.out.2.2
  have lt := tz.lt
  have t0 := tz.cell 0
  have t1 := tz.cell 1
  have t2 := tz.cell 2
  have t3 := tz.cell 3
  simp only [List.getElem?_cons_zero, List.getElem?_cons_succ] at t0 t1 t2 t3
  clear rz tz
  obtain ⟨lb, w00, w01, w02, w03⟩ := word_cells (HW.out.exx HS1.out.1) HX0.out
  rw [← HT0.out] at w01
  go_wp2_with fail
  refine bodyPost_ret (results_par rfl rfl rfl rfl (blk6 HS1.out.2.1 _ _ _ _ _ _)) rfl ?_
  exact ⟨rfl, ex6 (Nat.le_refl _) HS1.out.1 _ _ _ _ _ _⟩
set_option maxRecDepth 100000 in
set_option maxHeartbeats 3200000 in
theorem at_true (ws : List Wd) (b o c i : Nat) (x0 : Wd) (w : World) (hrw : Rw w b o (wdsV ws)) (hlen : ws.length ≤ 100000) (hx0 : ws[i]? = some x0) (hk : x0.kind = 2) (htx : x0.text = [116, 114, 117, 101]) (h0 : isS x0 [40] = false) :
    Calls Tryz.prog 84 #[.slice (some ⟨b, o, none⟩) ws.length c, .int .i64 (i : Nat)] w (Ret w (triV (13) (0) (⟨#[]⟩) (i + 1) true)) := by
  have HW := Lib.hid hrw
  have HX0 := Lib.hid hx0
  have hil : i + 0 < ws.length := (List.getElem?_eq_some_iff.1 hx0).1
  have m0 : (i : Int) < (ws.length : Int) := by omega
  have mm : (0 : Int) ≤ (i : Int) := by omega
  have mw : (ws.length : Int) ≤ 100000 := by omega
  have HT0 : Hid ((⟨#[116, 114, 117, 101]⟩ : ByteArray) = ⟨x0.text.toArray⟩) := by rw [htx]; exact Lib.hid rfl
  have HS0 : Hid (Ex w ((w.alloc (.cells #[.int .i64 0, .int .i64 0, .int .i64 0, .int .i64 0, .string ⟨#[]⟩, .slice none 0 0] 24)).alloc (.cells #[.int .i64 (x0.kind : Nat), .string ⟨#[116, 114, 117, 101]⟩, .int .i64 (x0.pos.1 : Nat), .int .i64 (x0.pos.2 : Nat)] 66)) ∧ Zero6 ((w.alloc (.cells #[.int .i64 0, .int .i64 0, .int .i64 0, .int .i64 0, .string ⟨#[]⟩, .slice none 0 0] 24)).alloc (.cells #[.int .i64 (x0.kind : Nat), .string ⟨#[116, 114, 117, 101]⟩, .int .i64 (x0.pos.1 : Nat), .int .i64 (x0.pos.2 : Nat)] 66)) w.heap.size ∧ Blk ((w.alloc (.cells #[.int .i64 0, .int .i64 0, .int .i64 0, .int .i64 0, .string ⟨#[]⟩, .slice none 0 0] 24)).alloc (.cells #[.int .i64 (x0.kind : Nat), .string ⟨#[116, 114, 117, 101]⟩, .int .i64 (x0.pos.1 : Nat), .int .i64 (x0.pos.2 : Nat)] 66)) (w.heap.size + 1) 66 [.int .i64 (x0.kind : Nat), .string ⟨#[116, 114, 117, 101]⟩, .int .i64 (x0.pos.1 : Nat), .int .i64 (x0.pos.2 : Nat)]) := ⟨((Ex.refl w).alloc _).alloc _, (Blk.new w _ _).alloc _, Blk.new' _ (by simp) _ _⟩
  have Hi0 : Hid (∀ w, Calls Tryz.prog 83 #[.agg #[.int .i64 (x0.kind : Nat), .string ⟨#[116, 114, 117, 101]⟩, .int .i64 (x0.pos.1 : Nat), .int .i64 (x0.pos.2 : Nat)], .string ⟨#[40]⟩] w (Ret w (.bool false))) := fun w => by
    rw [HT0.out, ← h0]
    exact rIs_c x0 ⟨#[40]⟩ w
  clear h0
  have e1 : (((x0.kind : Nat) : Int) == 1) = false := beq_eq_false_iff_ne.2 (by omega)
  have e2 : (x0.kind == 1) = false := beq_eq_false_iff_ne.2 (by omega)
  have e3 : (((x0.kind : Nat) : Int) != 1) = true := by rw [bne_iff_ne]; omega
  have e4 : (x0.kind != 1) = true := by rw [bne_iff_ne]; omega
  have ee1 : (((x0.kind : Nat) : Int) == 2) = true := by rw [beq_iff_eq]; omega
  have ee2 : (x0.kind == 2) = true := by rw [beq_iff_eq]; omega
  have ee3 : (((x0.kind : Nat) : Int) != 2) = false := by unfold bne; rw [ee1]; rfl
  have ee4 : (x0.kind != 2) = false := by unfold bne; rw [ee2]; rfl
  clear hk
  obtain ⟨lb, w00, w01, w02, w03⟩ := word_cells (HW.out.exx (Ex.refl w)) HX0.out
  rw [← HT0.out] at w01
  clear hrw hlen hil hx0
  go_enter Tryz.func84, Tryz.ntmps84
  go_wp2_with fail
  generalize w.heap.size + 1 = nb at *
  refine (Hi0.out _).mono ?_
  rintro e W1 ⟨rfl, hz⟩
  have HS1 : Hid (Ex w W1 ∧ Zero6 W1 w.heap.size ∧ Blk W1 nb 66 [.int .i64 (x0.kind : Nat), .string ⟨#[116, 114, 117, 101]⟩, .int .i64 (x0.pos.1 : Nat), .int .i64 (x0.pos.2 : Nat)]) := ⟨HS0.out.1.trans hz, HS0.out.2.1.ex hz, HS0.out.2.2.ex hz⟩
  clear hz
  clear lb w00 w01 w02 w03
  have rz := HS1.out.2.1
  have lz := rz.lt
  have r0 := rz.cell 0
  have r1 := rz.cell 1
  have r2 := rz.cell 2
  have r3 := rz.cell 3
  have r4 := rz.cell 4
  have r5 := rz.cell 5
  have f0 := rz.frozen 0
  have f1 := rz.frozen 1
  have f2 := rz.frozen 2
  have f3 := rz.frozen 3
  have f4 := rz.frozen 4
  have f5 := rz.frozen 5
  simp only [List.getElem?_cons_zero, List.getElem?_cons_succ] at r0 r1 r2 r3 r4 r5
  have tz := HS1.out.2.2
  have lt := tz.lt
  have t0 := tz.cell 0
  have t1 := tz.cell 1
  have t2 := tz.cell 2
  have t3 := tz.cell 3
  simp only [List.getElem?_cons_zero, List.getElem?_cons_succ] at t0 t1 t2 t3
  clear rz tz
  obtain ⟨lb, w00, w01, w02, w03⟩ := word_cells (HW.out.exx HS1.out.1) HX0.out
  rw [← HT0.out] at w01
  go_wp2_with fail
  refine bodyPost_ret (results_par rfl rfl rfl rfl (blk6 HS1.out.2.1 _ _ _ _ _ _)) rfl ?_
  exact ⟨rfl, ex6 (Nat.le_refl _) HS1.out.1 _ _ _ _ _ _⟩
set_option maxRecDepth 100000 in
set_option maxHeartbeats 3200000 in
theorem at_false (ws : List Wd) (b o c i : Nat) (x0 : Wd) (w : World) (hrw : Rw w b o (wdsV ws)) (hlen : ws.length ≤ 100000) (hx0 : ws[i]? = some x0) (hk : x0.kind = 2) (htx : x0.text = [102, 97, 108, 115, 101]) (h0 : isS x0 [40] = false) :
    Calls Tryz.prog 84 #[.slice (some ⟨b, o, none⟩) ws.length c, .int .i64 (i : Nat)] w (Ret w (triV (14) (0) (⟨#[]⟩) (i + 1) true)) := by
  have HW := Lib.hid hrw
  have HX0 := Lib.hid hx0
  have hil : i + 0 < ws.length := (List.getElem?_eq_some_iff.1 hx0).1
  have m0 : (i : Int) < (ws.length : Int) := by omega
  have mm : (0 : Int) ≤ (i : Int) := by omega
  have mw : (ws.length : Int) ≤ 100000 := by omega
  have HT0 : Hid ((⟨#[102, 97, 108, 115, 101]⟩ : ByteArray) = ⟨x0.text.toArray⟩) := by rw [htx]; exact Lib.hid rfl
  have HS0 : Hid (Ex w ((w.alloc (.cells #[.int .i64 0, .int .i64 0, .int .i64 0, .int .i64 0, .string ⟨#[]⟩, .slice none 0 0] 24)).alloc (.cells #[.int .i64 (x0.kind : Nat), .string ⟨#[102, 97, 108, 115, 101]⟩, .int .i64 (x0.pos.1 : Nat), .int .i64 (x0.pos.2 : Nat)] 66)) ∧ Zero6 ((w.alloc (.cells #[.int .i64 0, .int .i64 0, .int .i64 0, .int .i64 0, .string ⟨#[]⟩, .slice none 0 0] 24)).alloc (.cells #[.int .i64 (x0.kind : Nat), .string ⟨#[102, 97, 108, 115, 101]⟩, .int .i64 (x0.pos.1 : Nat), .int .i64 (x0.pos.2 : Nat)] 66)) w.heap.size ∧ Blk ((w.alloc (.cells #[.int .i64 0, .int .i64 0, .int .i64 0, .int .i64 0, .string ⟨#[]⟩, .slice none 0 0] 24)).alloc (.cells #[.int .i64 (x0.kind : Nat), .string ⟨#[102, 97, 108, 115, 101]⟩, .int .i64 (x0.pos.1 : Nat), .int .i64 (x0.pos.2 : Nat)] 66)) (w.heap.size + 1) 66 [.int .i64 (x0.kind : Nat), .string ⟨#[102, 97, 108, 115, 101]⟩, .int .i64 (x0.pos.1 : Nat), .int .i64 (x0.pos.2 : Nat)]) := ⟨((Ex.refl w).alloc _).alloc _, (Blk.new w _ _).alloc _, Blk.new' _ (by simp) _ _⟩
  have Hi0 : Hid (∀ w, Calls Tryz.prog 83 #[.agg #[.int .i64 (x0.kind : Nat), .string ⟨#[102, 97, 108, 115, 101]⟩, .int .i64 (x0.pos.1 : Nat), .int .i64 (x0.pos.2 : Nat)], .string ⟨#[40]⟩] w (Ret w (.bool false))) := fun w => by
    rw [HT0.out, ← h0]
    exact rIs_c x0 ⟨#[40]⟩ w
  clear h0
  have e1 : (((x0.kind : Nat) : Int) == 1) = false := beq_eq_false_iff_ne.2 (by omega)
  have e2 : (x0.kind == 1) = false := beq_eq_false_iff_ne.2 (by omega)
  have e3 : (((x0.kind : Nat) : Int) != 1) = true := by rw [bne_iff_ne]; omega
  have e4 : (x0.kind != 1) = true := by rw [bne_iff_ne]; omega
  have ee1 : (((x0.kind : Nat) : Int) == 2) = true := by rw [beq_iff_eq]; omega
  have ee2 : (x0.kind == 2) = true := by rw [beq_iff_eq]; omega
  have ee3 : (((x0.kind : Nat) : Int) != 2) = false := by unfold bne; rw [ee1]; rfl
  have ee4 : (x0.kind != 2) = false := by unfold bne; rw [ee2]; rfl
  clear hk
  obtain ⟨lb, w00, w01, w02, w03⟩ := word_cells (HW.out.exx (Ex.refl w)) HX0.out
  rw [← HT0.out] at w01
  clear hrw hlen hil hx0
  go_enter Tryz.func84, Tryz.ntmps84
  go_wp2_with fail
  generalize w.heap.size + 1 = nb at *
  refine (Hi0.out _).mono ?_
  rintro e W1 ⟨rfl, hz⟩
  have HS1 : Hid (Ex w W1 ∧ Zero6 W1 w.heap.size ∧ Blk W1 nb 66 [.int .i64 (x0.kind : Nat), .string ⟨#[102, 97, 108, 115, 101]⟩, .int .i64 (x0.pos.1 : Nat), .int .i64 (x0.pos.2 : Nat)]) := ⟨HS0.out.1.trans hz, HS0.out.2.1.ex hz, HS0.out.2.2.ex hz⟩
  clear hz
  clear lb w00 w01 w02 w03
  have rz := HS1.out.2.1
  have lz := rz.lt
  have r0 := rz.cell 0
  have r1 := rz.cell 1
  have r2 := rz.cell 2
  have r3 := rz.cell 3
  have r4 := rz.cell 4
  have r5 := rz.cell 5
  have f0 := rz.frozen 0
  have f1 := rz.frozen 1
  have f2 := rz.frozen 2
  have f3 := rz.frozen 3
  have f4 := rz.frozen 4
  have f5 := rz.frozen 5
  simp only [List.getElem?_cons_zero, List.getElem?_cons_succ] at r0 r1 r2 r3 r4 r5
  have tz := HS1.out.2.2
  have lt := tz.lt
  have t0 := tz.cell 0
  have t1 := tz.cell 1
  have t2 := tz.cell 2
  have t3 := tz.cell 3
  simp only [List.getElem?_cons_zero, List.getElem?_cons_succ] at t0 t1 t2 t3
  clear rz tz
  obtain ⟨lb, w00, w01, w02, w03⟩ := word_cells (HW.out.exx HS1.out.1) HX0.out
  rw [← HT0.out] at w01
  go_wp2_with fail
  refine bodyPost_ret (results_par rfl rfl rfl rfl (blk6 HS1.out.2.1 _ _ _ _ _ _)) rfl ?_
  exact ⟨rfl, ex6 (Nat.le_refl _) HS1.out.1 _ _ _ _ _ _⟩
set_option maxRecDepth 100000 in
set_option maxHeartbeats 3200000 in
theorem at_count1 (ws : List Wd) (b o c i : Nat) (x0 x1 : Wd) (w : World) (hrw : Rw w b o (wdsV ws)) (hlen : ws.length ≤ 100000) (hx0 : ws[i]? = some x0) (hx1 : ws[i + 1]? = some x1) (hk : x0.kind = 2) (htx : x0.text = [99, 111, 117, 110, 116]) (h0 : isS x0 [40] = false) (h1 : isS x1 [40] = false) :
    Calls Tryz.prog 84 #[.slice (some ⟨b, o, none⟩) ws.length c, .int .i64 (i : Nat)] w (Ret w (triV (0) (0) (⟨#[]⟩) (i + 1) false)) := by
  have HW := Lib.hid hrw
  have HX0 := Lib.hid hx0
  have HX1 := Lib.hid hx1
  have hil : i + 1 < ws.length := (List.getElem?_eq_some_iff.1 hx1).1
  have m0 : (i : Int) < (ws.length : Int) := by omega
  have m1 : (i : Int) + 1 < (ws.length : Int) := by omega
  have mm : (0 : Int) ≤ (i : Int) := by omega
  have mw : (ws.length : Int) ≤ 100000 := by omega
  have HT0 : Hid ((⟨#[99, 111, 117, 110, 116]⟩ : ByteArray) = ⟨x0.text.toArray⟩) := by rw [htx]; exact Lib.hid rfl
  obtain ⟨TB1, hTB⟩ : ∃ T : ByteArray, T = ⟨x1.text.toArray⟩ := ⟨_, rfl⟩
  have HT1 := Lib.hid hTB
  clear hTB
  have HS0 : Hid (Ex w ((w.alloc (.cells #[.int .i64 0, .int .i64 0, .int .i64 0, .int .i64 0, .string ⟨#[]⟩, .slice none 0 0] 24)).alloc (.cells #[.int .i64 (x0.kind : Nat), .string ⟨#[99, 111, 117, 110, 116]⟩, .int .i64 (x0.pos.1 : Nat), .int .i64 (x0.pos.2 : Nat)] 66)) ∧ Zero6 ((w.alloc (.cells #[.int .i64 0, .int .i64 0, .int .i64 0, .int .i64 0, .string ⟨#[]⟩, .slice none 0 0] 24)).alloc (.cells #[.int .i64 (x0.kind : Nat), .string ⟨#[99, 111, 117, 110, 116]⟩, .int .i64 (x0.pos.1 : Nat), .int .i64 (x0.pos.2 : Nat)] 66)) w.heap.size ∧ Blk ((w.alloc (.cells #[.int .i64 0, .int .i64 0, .int .i64 0, .int .i64 0, .string ⟨#[]⟩, .slice none 0 0] 24)).alloc (.cells #[.int .i64 (x0.kind : Nat), .string ⟨#[99, 111, 117, 110, 116]⟩, .int .i64 (x0.pos.1 : Nat), .int .i64 (x0.pos.2 : Nat)] 66)) (w.heap.size + 1) 66 [.int .i64 (x0.kind : Nat), .string ⟨#[99, 111, 117, 110, 116]⟩, .int .i64 (x0.pos.1 : Nat), .int .i64 (x0.pos.2 : Nat)]) := ⟨((Ex.refl w).alloc _).alloc _, (Blk.new w _ _).alloc _, Blk.new' _ (by simp) _ _⟩
  have Hi0 : Hid (∀ w, Calls Tryz.prog 83 #[.agg #[.int .i64 (x0.kind : Nat), .string ⟨#[99, 111, 117, 110, 116]⟩, .int .i64 (x0.pos.1 : Nat), .int .i64 (x0.pos.2 : Nat)], .string ⟨#[40]⟩] w (Ret w (.bool false))) := fun w => by
    rw [HT0.out, ← h0]
    exact rIs_c x0 ⟨#[40]⟩ w
  clear h0
  have Hi1 : Hid (∀ w, Calls Tryz.prog 83 #[.agg #[.int .i64 (x1.kind : Nat), .string TB1, .int .i64 (x1.pos.1 : Nat), .int .i64 (x1.pos.2 : Nat)], .string ⟨#[40]⟩] w (Ret w (.bool false))) := fun w => by
    rw [HT1.out, ← h1]
    exact rIs_c x1 ⟨#[40]⟩ w
  clear h1
  have e1 : (((x0.kind : Nat) : Int) == 1) = false := beq_eq_false_iff_ne.2 (by omega)
  have e2 : (x0.kind == 1) = false := beq_eq_false_iff_ne.2 (by omega)
  have e3 : (((x0.kind : Nat) : Int) != 1) = true := by rw [bne_iff_ne]; omega
  have e4 : (x0.kind != 1) = true := by rw [bne_iff_ne]; omega
  have ee1 : (((x0.kind : Nat) : Int) == 2) = true := by rw [beq_iff_eq]; omega
  have ee2 : (x0.kind == 2) = true := by rw [beq_iff_eq]; omega
  have ee3 : (((x0.kind : Nat) : Int) != 2) = false := by unfold bne; rw [ee1]; rfl
  have ee4 : (x0.kind != 2) = false := by unfold bne; rw [ee2]; rfl
  clear hk
  obtain ⟨lb, w00, w01, w02, w03⟩ := word_cells (HW.out.exx (Ex.refl w)) HX0.out
  rw [← HT0.out] at w01
  obtain ⟨lb, w10, w11, w12, w13⟩ := word_cells (HW.out.exx (Ex.refl w)) HX1.out
  rw [← HT1.out] at w11
  clear hrw hlen hil hx0 hx1
  go_enter Tryz.func84, Tryz.ntmps84
  go_wp2_with fail
  generalize w.heap.size + 1 = nb at *
  refine (Hi0.out _).mono ?_
  rintro e W1 ⟨rfl, hz⟩
  have HS1 : Hid (Ex w W1 ∧ Zero6 W1 w.heap.size ∧ Blk W1 nb 66 [.int .i64 (x0.kind : Nat), .string ⟨#[99, 111, 117, 110, 116]⟩, .int .i64 (x0.pos.1 : Nat), .int .i64 (x0.pos.2 : Nat)]) := ⟨HS0.out.1.trans hz, HS0.out.2.1.ex hz, HS0.out.2.2.ex hz⟩
  clear hz
  clear lb w00 w01 w02 w03 w10 w11 w12 w13
  have rz := HS1.out.2.1
  have lz := rz.lt
  have r0 := rz.cell 0
  have r1 := rz.cell 1
  have r2 := rz.cell 2
  have r3 := rz.cell 3
  have r4 := rz.cell 4
  have r5 := rz.cell 5
  have f0 := rz.frozen 0
  have f1 := rz.frozen 1
  have f2 := rz.frozen 2
  have f3 := rz.frozen 3
  have f4 := rz.frozen 4
  have f5 := rz.frozen 5
  simp only [List.getElem?_cons_zero, List.getElem?_cons_succ] at r0 r1 r2 r3 r4 r5
  have tz := HS1.out.2.2
  have lt := tz.lt
  have t0 := tz.cell 0
  have t1 := tz.cell 1
  have t2 := tz.cell 2
  have t3 := tz.cell 3
  simp only [List.getElem?_cons_zero, List.getElem?_cons_succ] at t0 t1 t2 t3
  clear rz tz
  obtain ⟨lb, w00, w01, w02, w03⟩ := word_cells (HW.out.exx HS1.out.1) HX0.out
  rw [← HT0.out] at w01
  obtain ⟨lb, w10, w11, w12, w13⟩ := word_cells (HW.out.exx HS1.out.1) HX1.out
  rw [← HT1.out] at w11
  go_wp2_with fail
  refine (Hi1.out _).mono ?_
  rintro e W2 ⟨rfl, hz⟩
  have HS2 : Hid (Ex w W2 ∧ Zero6 W2 w.heap.size ∧ Blk W2 nb 66 [.int .i64 (x0.kind : Nat), .string ⟨#[99, 111, 117, 110, 116]⟩, .int .i64 (x0.pos.1 : Nat), .int .i64 (x0.pos.2 : Nat)]) := ⟨HS1.out.1.trans hz, HS1.out.2.1.ex hz, HS1.out.2.2.ex hz⟩
  clear hz
  clear lz r0 r1 r2 r3 r4 r5 f0 f1 f2 f3 f4 f5 lt t0 t1 t2 t3
  clear lb w00 w01 w02 w03 w10 w11 w12 w13
  have rz := HS2.out.2.1
  have lz := rz.lt
  have r0 := rz.cell 0
  have r1 := rz.cell 1
  have r2 := rz.cell 2
  have r3 := rz.cell 3
  have r4 := rz.cell 4
  have r5 := rz.cell 5
  have f0 := rz.frozen 0
  have f1 := rz.frozen 1
  have f2 := rz.frozen 2
  have f3 := rz.frozen 3
  have f4 := rz.frozen 4
  have f5 := rz.frozen 5
  simp only [List.getElem?_cons_zero, List.getElem?_cons_succ] at r0 r1 r2 r3 r4 r5
  have tz := HS2.out.2.2
  have lt := tz.lt
  have t0 := tz.cell 0
  have t1 := tz.cell 1
  have t2 := tz.cell 2
  have t3 := tz.cell 3
  simp only [List.getElem?_cons_zero, List.getElem?_cons_succ] at t0 t1 t2 t3
  clear rz tz
  obtain ⟨lb, w00, w01, w02, w03⟩ := word_cells (HW.out.exx HS2.out.1) HX0.out
  rw [← HT0.out] at w01
  obtain ⟨lb, w10, w11, w12, w13⟩ := word_cells (HW.out.exx HS2.out.1) HX1.out
  rw [← HT1.out] at w11
  go_wp2_with fail
  refine bodyPost_ret (results_par rfl rfl rfl rfl (blk6 HS2.out.2.1 _ _ _ _ _ _)) rfl ?_
  exact ⟨rfl, ex6 (Nat.le_refl _) HS2.out.1 _ _ _ _ _ _⟩
set_option maxRecDepth 100000 in
set_option maxHeartbeats 3200000 in
theorem at_count2 (ws : List Wd) (b o c i : Nat) (x0 x1 x2 : Wd) (w : World) (hrw : Rw w b o (wdsV ws)) (hlen : ws.length ≤ 100000) (hx0 : ws[i]? = some x0) (hx1 : ws[i + 1]? = some x1) (hx2 : ws[i + 2]? = some x2) (hk : x0.kind = 2) (htx : x0.text = [99, 111, 117, 110, 116]) (h0 : isS x0 [40] = false) (h1 : isS x1 [40] = true) (g2 : nmS x2 = false) (gl2 : x2.text.length ≤ 16384) :
    Calls Tryz.prog 84 #[.slice (some ⟨b, o, none⟩) ws.length c, .int .i64 (i : Nat)] w (Ret w (triV (0) (0) (⟨#[]⟩) (i + 2) false)) := by
  have HW := Lib.hid hrw
  have HX0 := Lib.hid hx0
  have HX1 := Lib.hid hx1
  have HX2 := Lib.hid hx2
  have hil : i + 2 < ws.length := (List.getElem?_eq_some_iff.1 hx2).1
  have m0 : (i : Int) < (ws.length : Int) := by omega
  have m1 : (i : Int) + 1 < (ws.length : Int) := by omega
  have m2 : (i : Int) + 2 < (ws.length : Int) := by omega
  have mm : (0 : Int) ≤ (i : Int) := by omega
  have mw : (ws.length : Int) ≤ 100000 := by omega
  have HT0 : Hid ((⟨#[99, 111, 117, 110, 116]⟩ : ByteArray) = ⟨x0.text.toArray⟩) := by rw [htx]; exact Lib.hid rfl
  obtain ⟨TB1, hTB⟩ : ∃ T : ByteArray, T = ⟨x1.text.toArray⟩ := ⟨_, rfl⟩
  have HT1 := Lib.hid hTB
  clear hTB
  obtain ⟨TB2, hTB⟩ : ∃ T : ByteArray, T = ⟨x2.text.toArray⟩ := ⟨_, rfl⟩
  have HT2 := Lib.hid hTB
  clear hTB
  have HS0 : Hid (Ex w ((w.alloc (.cells #[.int .i64 0, .int .i64 0, .int .i64 0, .int .i64 0, .string ⟨#[]⟩, .slice none 0 0] 24)).alloc (.cells #[.int .i64 (x0.kind : Nat), .string ⟨#[99, 111, 117, 110, 116]⟩, .int .i64 (x0.pos.1 : Nat), .int .i64 (x0.pos.2 : Nat)] 66)) ∧ Zero6 ((w.alloc (.cells #[.int .i64 0, .int .i64 0, .int .i64 0, .int .i64 0, .string ⟨#[]⟩, .slice none 0 0] 24)).alloc (.cells #[.int .i64 (x0.kind : Nat), .string ⟨#[99, 111, 117, 110, 116]⟩, .int .i64 (x0.pos.1 : Nat), .int .i64 (x0.pos.2 : Nat)] 66)) w.heap.size ∧ Blk ((w.alloc (.cells #[.int .i64 0, .int .i64 0, .int .i64 0, .int .i64 0, .string ⟨#[]⟩, .slice none 0 0] 24)).alloc (.cells #[.int .i64 (x0.kind : Nat), .string ⟨#[99, 111, 117, 110, 116]⟩, .int .i64 (x0.pos.1 : Nat), .int .i64 (x0.pos.2 : Nat)] 66)) (w.heap.size + 1) 66 [.int .i64 (x0.kind : Nat), .string ⟨#[99, 111, 117, 110, 116]⟩, .int .i64 (x0.pos.1 : Nat), .int .i64 (x0.pos.2 : Nat)]) := ⟨((Ex.refl w).alloc _).alloc _, (Blk.new w _ _).alloc _, Blk.new' _ (by simp) _ _⟩
  have Hi0 : Hid (∀ w, Calls Tryz.prog 83 #[.agg #[.int .i64 (x0.kind : Nat), .string ⟨#[99, 111, 117, 110, 116]⟩, .int .i64 (x0.pos.1 : Nat), .int .i64 (x0.pos.2 : Nat)], .string ⟨#[40]⟩] w (Ret w (.bool false))) := fun w => by
    rw [HT0.out, ← h0]
    exact rIs_c x0 ⟨#[40]⟩ w
  clear h0
  have Hi1 : Hid (∀ w, Calls Tryz.prog 83 #[.agg #[.int .i64 (x1.kind : Nat), .string TB1, .int .i64 (x1.pos.1 : Nat), .int .i64 (x1.pos.2 : Nat)], .string ⟨#[40]⟩] w (Ret w (.bool true))) := fun w => by
    rw [HT1.out, ← h1]
    exact rIs_c x1 ⟨#[40]⟩ w
  clear h1
  have Hn2 : Hid (∀ w, Calls Tryz.prog 114 #[.agg #[.int .i64 (x2.kind : Nat), .string TB2, .int .i64 (x2.pos.1 : Nat), .int .i64 (x2.pos.2 : Nat)]] w (Ret w (.bool false))) := fun w => by
    rw [HT2.out, ← g2]
    exact rName_c x2 w gl2
  clear g2
  have e1 : (((x0.kind : Nat) : Int) == 1) = false := beq_eq_false_iff_ne.2 (by omega)
  have e2 : (x0.kind == 1) = false := beq_eq_false_iff_ne.2 (by omega)
  have e3 : (((x0.kind : Nat) : Int) != 1) = true := by rw [bne_iff_ne]; omega
  have e4 : (x0.kind != 1) = true := by rw [bne_iff_ne]; omega
  have ee1 : (((x0.kind : Nat) : Int) == 2) = true := by rw [beq_iff_eq]; omega
  have ee2 : (x0.kind == 2) = true := by rw [beq_iff_eq]; omega
  have ee3 : (((x0.kind : Nat) : Int) != 2) = false := by unfold bne; rw [ee1]; rfl
  have ee4 : (x0.kind != 2) = false := by unfold bne; rw [ee2]; rfl
  clear hk
  obtain ⟨lb, w00, w01, w02, w03⟩ := word_cells (HW.out.exx (Ex.refl w)) HX0.out
  rw [← HT0.out] at w01
  obtain ⟨lb, w10, w11, w12, w13⟩ := word_cells (HW.out.exx (Ex.refl w)) HX1.out
  rw [← HT1.out] at w11
  obtain ⟨lb, w20, w21, w22, w23⟩ := word_cells (HW.out.exx (Ex.refl w)) HX2.out
  rw [← HT2.out] at w21
  clear hrw hlen hil hx0 hx1 hx2
  go_enter Tryz.func84, Tryz.ntmps84
  go_wp2_with fail
  generalize w.heap.size + 1 = nb at *
  refine (Hi0.out _).mono ?_
  rintro e W1 ⟨rfl, hz⟩
  have HS1 : Hid (Ex w W1 ∧ Zero6 W1 w.heap.size ∧ Blk W1 nb 66 [.int .i64 (x0.kind : Nat), .string ⟨#[99, 111, 117, 110, 116]⟩, .int .i64 (x0.pos.1 : Nat), .int .i64 (x0.pos.2 : Nat)]) := ⟨HS0.out.1.trans hz, HS0.out.2.1.ex hz, HS0.out.2.2.ex hz⟩
  clear hz
  clear lb w00 w01 w02 w03 w10 w11 w12 w13 w20 w21 w22 w23
  have rz := HS1.out.2.1
  have lz := rz.lt
  have r0 := rz.cell 0
  have r1 := rz.cell 1
  have r2 := rz.cell 2
  have r3 := rz.cell 3
  have r4 := rz.cell 4
  have r5 := rz.cell 5
  have f0 := rz.frozen 0
  have f1 := rz.frozen 1
  have f2 := rz.frozen 2
  have f3 := rz.frozen 3
  have f4 := rz.frozen 4
  have f5 := rz.frozen 5
  simp only [List.getElem?_cons_zero, List.getElem?_cons_succ] at r0 r1 r2 r3 r4 r5
  have tz := HS1.out.2.2
  have lt := tz.lt
  have t0 := tz.cell 0
  have t1 := tz.cell 1
  have t2 := tz.cell 2
  have t3 := tz.cell 3
  simp only [List.getElem?_cons_zero, List.getElem?_cons_succ] at t0 t1 t2 t3
  clear rz tz
  obtain ⟨lb, w00, w01, w02, w03⟩ := word_cells (HW.out.exx HS1.out.1) HX0.out
  rw [← HT0.out] at w01
  obtain ⟨lb, w10, w11, w12, w13⟩ := word_cells (HW.out.exx HS1.out.1) HX1.out
  rw [← HT1.out] at w11
  obtain ⟨lb, w20, w21, w22, w23⟩ := word_cells (HW.out.exx HS1.out.1) HX2.out
  rw [← HT2.out] at w21
  go_wp2_with fail
  refine (Hi1.out _).mono ?_
  rintro e W2 ⟨rfl, hz⟩
  have HS2 : Hid (Ex w W2 ∧ Zero6 W2 w.heap.size ∧ Blk W2 nb 66 [.int .i64 (x0.kind : Nat), .string ⟨#[99, 111, 117, 110, 116]⟩, .int .i64 (x0.pos.1 : Nat), .int .i64 (x0.pos.2 : Nat)]) := ⟨HS1.out.1.trans hz, HS1.out.2.1.ex hz, HS1.out.2.2.ex hz⟩
  clear hz
  clear lz r0 r1 r2 r3 r4 r5 f0 f1 f2 f3 f4 f5 lt t0 t1 t2 t3
  clear lb w00 w01 w02 w03 w10 w11 w12 w13 w20 w21 w22 w23
  have rz := HS2.out.2.1
  have lz := rz.lt
  have r0 := rz.cell 0
  have r1 := rz.cell 1
  have r2 := rz.cell 2
  have r3 := rz.cell 3
  have r4 := rz.cell 4
  have r5 := rz.cell 5
  have f0 := rz.frozen 0
  have f1 := rz.frozen 1
  have f2 := rz.frozen 2
  have f3 := rz.frozen 3
  have f4 := rz.frozen 4
  have f5 := rz.frozen 5
  simp only [List.getElem?_cons_zero, List.getElem?_cons_succ] at r0 r1 r2 r3 r4 r5
  have tz := HS2.out.2.2
  have lt := tz.lt
  have t0 := tz.cell 0
  have t1 := tz.cell 1
  have t2 := tz.cell 2
  have t3 := tz.cell 3
  simp only [List.getElem?_cons_zero, List.getElem?_cons_succ] at t0 t1 t2 t3
  clear rz tz
  obtain ⟨lb, w00, w01, w02, w03⟩ := word_cells (HW.out.exx HS2.out.1) HX0.out
  rw [← HT0.out] at w01
  obtain ⟨lb, w10, w11, w12, w13⟩ := word_cells (HW.out.exx HS2.out.1) HX1.out
  rw [← HT1.out] at w11
  obtain ⟨lb, w20, w21, w22, w23⟩ := word_cells (HW.out.exx HS2.out.1) HX2.out
  rw [← HT2.out] at w21
  go_wp2_with fail
  refine (Hn2.out _).mono ?_
  rintro e W3 ⟨rfl, hz⟩
  have HS3 : Hid (Ex w W3 ∧ Zero6 W3 w.heap.size ∧ Blk W3 nb 66 [.int .i64 (x0.kind : Nat), .string ⟨#[99, 111, 117, 110, 116]⟩, .int .i64 (x0.pos.1 : Nat), .int .i64 (x0.pos.2 : Nat)]) := ⟨HS2.out.1.trans hz, HS2.out.2.1.ex hz, HS2.out.2.2.ex hz⟩
  clear hz
  clear lz r0 r1 r2 r3 r4 r5 f0 f1 f2 f3 f4 f5 lt t0 t1 t2 t3
  clear lb w00 w01 w02 w03 w10 w11 w12 w13 w20 w21 w22 w23
  have rz := HS3.out.2.1
  have lz := rz.lt
  have r0 := rz.cell 0
  have r1 := rz.cell 1
  have r2 := rz.cell 2
  have r3 := rz.cell 3
  have r4 := rz.cell 4
  have r5 := rz.cell 5
  have f0 := rz.frozen 0
  have f1 := rz.frozen 1
  have f2 := rz.frozen 2
  have f3 := rz.frozen 3
  have f4 := rz.frozen 4
  have f5 := rz.frozen 5
  simp only [List.getElem?_cons_zero, List.getElem?_cons_succ] at r0 r1 r2 r3 r4 r5
  have tz := HS3.out.2.2
  have lt := tz.lt
  have t0 := tz.cell 0
  have t1 := tz.cell 1
  have t2 := tz.cell 2
  have t3 := tz.cell 3
  simp only [List.getElem?_cons_zero, List.getElem?_cons_succ] at t0 t1 t2 t3
  clear rz tz
  obtain ⟨lb, w00, w01, w02, w03⟩ := word_cells (HW.out.exx HS3.out.1) HX0.out
  rw [← HT0.out] at w01
  obtain ⟨lb, w10, w11, w12, w13⟩ := word_cells (HW.out.exx HS3.out.1) HX1.out
  rw [← HT1.out] at w11
  obtain ⟨lb, w20, w21, w22, w23⟩ := word_cells (HW.out.exx HS3.out.1) HX2.out
  rw [← HT2.out] at w21
  go_wp2_with fail
  refine bodyPost_ret (results_par rfl rfl rfl rfl (blk6 HS3.out.2.1 _ _ _ _ _ _)) rfl ?_
  exact ⟨rfl, ex6 (Nat.le_refl _) HS3.out.1 _ _ _ _ _ _⟩
set_option maxRecDepth 100000 in
set_option maxHeartbeats 3200000 in
theorem at_count3 (ws : List Wd) (b o c i : Nat) (x0 x1 x2 x3 : Wd) (w : World) (hrw : Rw w b o (wdsV ws)) (hlen : ws.length ≤ 100000) (hx0 : ws[i]? = some x0) (hx1 : ws[i + 1]? = some x1) (hx2 : ws[i + 2]? = some x2) (hx3 : ws[i + 3]? = some x3) (hk : x0.kind = 2) (htx : x0.text = [99, 111, 117, 110, 116]) (h0 : isS x0 [40] = false) (h1 : isS x1 [40] = true) (g2 : nmS x2 = true) (gl2 : x2.text.length ≤ 16384) (h3 : isS x3 [41] = false) :
    Calls Tryz.prog 84 #[.slice (some ⟨b, o, none⟩) ws.length c, .int .i64 (i : Nat)] w (Ret w (triV (0) (0) (⟨#[]⟩) (i + 3) false)) := by
  have HW := Lib.hid hrw
  have HX0 := Lib.hid hx0
  have HX1 := Lib.hid hx1
  have HX2 := Lib.hid hx2
  have HX3 := Lib.hid hx3
  have hil : i + 3 < ws.length := (List.getElem?_eq_some_iff.1 hx3).1
  have m0 : (i : Int) < (ws.length : Int) := by omega
  have m1 : (i : Int) + 1 < (ws.length : Int) := by omega
  have m2 : (i : Int) + 2 < (ws.length : Int) := by omega
  have m3 : (i : Int) + 3 < (ws.length : Int) := by omega
  have mm : (0 : Int) ≤ (i : Int) := by omega
  have mw : (ws.length : Int) ≤ 100000 := by omega
  have HT0 : Hid ((⟨#[99, 111, 117, 110, 116]⟩ : ByteArray) = ⟨x0.text.toArray⟩) := by rw [htx]; exact Lib.hid rfl
  obtain ⟨TB1, hTB⟩ : ∃ T : ByteArray, T = ⟨x1.text.toArray⟩ := ⟨_, rfl⟩
  have HT1 := Lib.hid hTB
  clear hTB
  obtain ⟨TB2, hTB⟩ : ∃ T : ByteArray, T = ⟨x2.text.toArray⟩ := ⟨_, rfl⟩
  have HT2 := Lib.hid hTB
  clear hTB
  obtain ⟨TB3, hTB⟩ : ∃ T : ByteArray, T = ⟨x3.text.toArray⟩ := ⟨_, rfl⟩
  have HT3 := Lib.hid hTB
  clear hTB
  have HS0 : Hid (Ex w ((w.alloc (.cells #[.int .i64 0, .int .i64 0, .int .i64 0, .int .i64 0, .string ⟨#[]⟩, .slice none 0 0] 24)).alloc (.cells #[.int .i64 (x0.kind : Nat), .string ⟨#[99, 111, 117, 110, 116]⟩, .int .i64 (x0.pos.1 : Nat), .int .i64 (x0.pos.2 : Nat)] 66)) ∧ Zero6 ((w.alloc (.cells #[.int .i64 0, .int .i64 0, .int .i64 0, .int .i64 0, .string ⟨#[]⟩, .slice none 0 0] 24)).alloc (.cells #[.int .i64 (x0.kind : Nat), .string ⟨#[99, 111, 117, 110, 116]⟩, .int .i64 (x0.pos.1 : Nat), .int .i64 (x0.pos.2 : Nat)] 66)) w.heap.size ∧ Blk ((w.alloc (.cells #[.int .i64 0, .int .i64 0, .int .i64 0, .int .i64 0, .string ⟨#[]⟩, .slice none 0 0] 24)).alloc (.cells #[.int .i64 (x0.kind : Nat), .string ⟨#[99, 111, 117, 110, 116]⟩, .int .i64 (x0.pos.1 : Nat), .int .i64 (x0.pos.2 : Nat)] 66)) (w.heap.size + 1) 66 [.int .i64 (x0.kind : Nat), .string ⟨#[99, 111, 117, 110, 116]⟩, .int .i64 (x0.pos.1 : Nat), .int .i64 (x0.pos.2 : Nat)]) := ⟨((Ex.refl w).alloc _).alloc _, (Blk.new w _ _).alloc _, Blk.new' _ (by simp) _ _⟩
  have Hi0 : Hid (∀ w, Calls Tryz.prog 83 #[.agg #[.int .i64 (x0.kind : Nat), .string ⟨#[99, 111, 117, 110, 116]⟩, .int .i64 (x0.pos.1 : Nat), .int .i64 (x0.pos.2 : Nat)], .string ⟨#[40]⟩] w (Ret w (.bool false))) := fun w => by
    rw [HT0.out, ← h0]
    exact rIs_c x0 ⟨#[40]⟩ w
  clear h0
  have Hi1 : Hid (∀ w, Calls Tryz.prog 83 #[.agg #[.int .i64 (x1.kind : Nat), .string TB1, .int .i64 (x1.pos.1 : Nat), .int .i64 (x1.pos.2 : Nat)], .string ⟨#[40]⟩] w (Ret w (.bool true))) := fun w => by
    rw [HT1.out, ← h1]
    exact rIs_c x1 ⟨#[40]⟩ w
  clear h1
  have Hn2 : Hid (∀ w, Calls Tryz.prog 114 #[.agg #[.int .i64 (x2.kind : Nat), .string TB2, .int .i64 (x2.pos.1 : Nat), .int .i64 (x2.pos.2 : Nat)]] w (Ret w (.bool true))) := fun w => by
    rw [HT2.out, ← g2]
    exact rName_c x2 w gl2
  clear g2
  have Hi3 : Hid (∀ w, Calls Tryz.prog 83 #[.agg #[.int .i64 (x3.kind : Nat), .string TB3, .int .i64 (x3.pos.1 : Nat), .int .i64 (x3.pos.2 : Nat)], .string ⟨#[41]⟩] w (Ret w (.bool false))) := fun w => by
    rw [HT3.out, ← h3]
    exact rIs_c x3 ⟨#[41]⟩ w
  clear h3
  have e1 : (((x0.kind : Nat) : Int) == 1) = false := beq_eq_false_iff_ne.2 (by omega)
  have e2 : (x0.kind == 1) = false := beq_eq_false_iff_ne.2 (by omega)
  have e3 : (((x0.kind : Nat) : Int) != 1) = true := by rw [bne_iff_ne]; omega
  have e4 : (x0.kind != 1) = true := by rw [bne_iff_ne]; omega
  have ee1 : (((x0.kind : Nat) : Int) == 2) = true := by rw [beq_iff_eq]; omega
  have ee2 : (x0.kind == 2) = true := by rw [beq_iff_eq]; omega
  have ee3 : (((x0.kind : Nat) : Int) != 2) = false := by unfold bne; rw [ee1]; rfl
  have ee4 : (x0.kind != 2) = false := by unfold bne; rw [ee2]; rfl
  clear hk
  obtain ⟨lb, w00, w01, w02, w03⟩ := word_cells (HW.out.exx (Ex.refl w)) HX0.out
  rw [← HT0.out] at w01
  obtain ⟨lb, w10, w11, w12, w13⟩ := word_cells (HW.out.exx (Ex.refl w)) HX1.out
  rw [← HT1.out] at w11
  obtain ⟨lb, w20, w21, w22, w23⟩ := word_cells (HW.out.exx (Ex.refl w)) HX2.out
  rw [← HT2.out] at w21
  obtain ⟨lb, w30, w31, w32, w33⟩ := word_cells (HW.out.exx (Ex.refl w)) HX3.out
  rw [← HT3.out] at w31
  clear hrw hlen hil hx0 hx1 hx2 hx3
  go_enter Tryz.func84, Tryz.ntmps84
  go_wp2_with fail
  generalize w.heap.size + 1 = nb at *
  refine (Hi0.out _).mono ?_
  rintro e W1 ⟨rfl, hz⟩
  have HS1 : Hid (Ex w W1 ∧ Zero6 W1 w.heap.size ∧ Blk W1 nb 66 [.int .i64 (x0.kind : Nat), .string ⟨#[99, 111, 117, 110, 116]⟩, .int .i64 (x0.pos.1 : Nat), .int .i64 (x0.pos.2 : Nat)]) := ⟨HS0.out.1.trans hz, HS0.out.2.1.ex hz, HS0.out.2.2.ex hz⟩
  clear hz
  clear lb w00 w01 w02 w03 w10 w11 w12 w13 w20 w21 w22 w23 w30 w31 w32 w33
  have rz := HS1.out.2.1
  have lz := rz.lt
  have r0 := rz.cell 0
  have r1 := rz.cell 1
  have r2 := rz.cell 2
  have r3 := rz.cell 3
  have r4 := rz.cell 4
  have r5 := rz.cell 5
  have f0 := rz.frozen 0
  have f1 := rz.frozen 1
  have f2 := rz.frozen 2
  have f3 := rz.frozen 3
  have f4 := rz.frozen 4
  have f5 := rz.frozen 5
  simp only [List.getElem?_cons_zero, List.getElem?_cons_succ] at r0 r1 r2 r3 r4 r5
  have tz := HS1.out.2.2
  have lt := tz.lt
  have t0 := tz.cell 0
  have t1 := tz.cell 1
  have t2 := tz.cell 2
  have t3 := tz.cell 3
  simp only [List.getElem?_cons_zero, List.getElem?_cons_succ] at t0 t1 t2 t3
  clear rz tz
  obtain ⟨lb, w00, w01, w02, w03⟩ := word_cells (HW.out.exx HS1.out.1) HX0.out
  rw [← HT0.out] at w01
  obtain ⟨lb, w10, w11, w12, w13⟩ := word_cells (HW.out.exx HS1.out.1) HX1.out
  rw [← HT1.out] at w11
  obtain ⟨lb, w20, w21, w22, w23⟩ := word_cells (HW.out.exx HS1.out.1) HX2.out
  rw [← HT2.out] at w21
  obtain ⟨lb, w30, w31, w32, w33⟩ := word_cells (HW.out.exx HS1.out.1) HX3.out
  rw [← HT3.out] at w31
  go_wp2_with fail
  refine (Hi1.out _).mono ?_
  rintro e W2 ⟨rfl, hz⟩
  have HS2 : Hid (Ex w W2 ∧ Zero6 W2 w.heap.size ∧ Blk W2 nb 66 [.int .i64 (x0.kind : Nat), .string ⟨#[99, 111, 117, 110, 116]⟩, .int .i64 (x0.pos.1 : Nat), .int .i64 (x0.pos.2 : Nat)]) := ⟨HS1.out.1.trans hz, HS1.out.2.1.ex hz, HS1.out.2.2.ex hz⟩
  clear hz
  clear lz r0 r1 r2 r3 r4 r5 f0 f1 f2 f3 f4 f5 lt t0 t1 t2 t3
  clear lb w00 w01 w02 w03 w10 w11 w12 w13 w20 w21 w22 w23 w30 w31 w32 w33
  have rz := HS2.out.2.1
  have lz := rz.lt
  have r0 := rz.cell 0
  have r1 := rz.cell 1
  have r2 := rz.cell 2
  have r3 := rz.cell 3
  have r4 := rz.cell 4
  have r5 := rz.cell 5
  have f0 := rz.frozen 0
  have f1 := rz.frozen 1
  have f2 := rz.frozen 2
  have f3 := rz.frozen 3
  have f4 := rz.frozen 4
  have f5 := rz.frozen 5
  simp only [List.getElem?_cons_zero, List.getElem?_cons_succ] at r0 r1 r2 r3 r4 r5
  have tz := HS2.out.2.2
  have lt := tz.lt
  have t0 := tz.cell 0
  have t1 := tz.cell 1
  have t2 := tz.cell 2
  have t3 := tz.cell 3
  simp only [List.getElem?_cons_zero, List.getElem?_cons_succ] at t0 t1 t2 t3
  clear rz tz
  obtain ⟨lb, w00, w01, w02, w03⟩ := word_cells (HW.out.exx HS2.out.1) HX0.out
  rw [← HT0.out] at w01
  obtain ⟨lb, w10, w11, w12, w13⟩ := word_cells (HW.out.exx HS2.out.1) HX1.out
  rw [← HT1.out] at w11
  obtain ⟨lb, w20, w21, w22, w23⟩ := word_cells (HW.out.exx HS2.out.1) HX2.out
  rw [← HT2.out] at w21
  obtain ⟨lb, w30, w31, w32, w33⟩ := word_cells (HW.out.exx HS2.out.1) HX3.out
  rw [← HT3.out] at w31
  go_wp2_with fail
  refine (Hn2.out _).mono ?_
  rintro e W3 ⟨rfl, hz⟩
  have HS3 : Hid (Ex w W3 ∧ Zero6 W3 w.heap.size ∧ Blk W3 nb 66 [.int .i64 (x0.kind : Nat), .string ⟨#[99, 111, 117, 110, 116]⟩, .int .i64 (x0.pos.1 : Nat), .int .i64 (x0.pos.2 : Nat)]) := ⟨HS2.out.1.trans hz, HS2.out.2.1.ex hz, HS2.out.2.2.ex hz⟩
  clear hz
  clear lz r0 r1 r2 r3 r4 r5 f0 f1 f2 f3 f4 f5 lt t0 t1 t2 t3
  clear lb w00 w01 w02 w03 w10 w11 w12 w13 w20 w21 w22 w23 w30 w31 w32 w33
  have rz := HS3.out.2.1
  have lz := rz.lt
  have r0 := rz.cell 0
  have r1 := rz.cell 1
  have r2 := rz.cell 2
  have r3 := rz.cell 3
  have r4 := rz.cell 4
  have r5 := rz.cell 5
  have f0 := rz.frozen 0
  have f1 := rz.frozen 1
  have f2 := rz.frozen 2
  have f3 := rz.frozen 3
  have f4 := rz.frozen 4
  have f5 := rz.frozen 5
  simp only [List.getElem?_cons_zero, List.getElem?_cons_succ] at r0 r1 r2 r3 r4 r5
  have tz := HS3.out.2.2
  have lt := tz.lt
  have t0 := tz.cell 0
  have t1 := tz.cell 1
  have t2 := tz.cell 2
  have t3 := tz.cell 3
  simp only [List.getElem?_cons_zero, List.getElem?_cons_succ] at t0 t1 t2 t3
  clear rz tz
  obtain ⟨lb, w00, w01, w02, w03⟩ := word_cells (HW.out.exx HS3.out.1) HX0.out
  rw [← HT0.out] at w01
  obtain ⟨lb, w10, w11, w12, w13⟩ := word_cells (HW.out.exx HS3.out.1) HX1.out
  rw [← HT1.out] at w11
  obtain ⟨lb, w20, w21, w22, w23⟩ := word_cells (HW.out.exx HS3.out.1) HX2.out
  rw [← HT2.out] at w21
  obtain ⟨lb, w30, w31, w32, w33⟩ := word_cells (HW.out.exx HS3.out.1) HX3.out
  rw [← HT3.out] at w31
  go_wp2_with fail
  refine (Hi3.out _).mono ?_
  rintro e W4 ⟨rfl, hz⟩
  have HS4 : Hid (Ex w W4 ∧ Zero6 W4 w.heap.size ∧ Blk W4 nb 66 [.int .i64 (x0.kind : Nat), .string ⟨#[99, 111, 117, 110, 116]⟩, .int .i64 (x0.pos.1 : Nat), .int .i64 (x0.pos.2 : Nat)]) := ⟨HS3.out.1.trans hz, HS3.out.2.1.ex hz, HS3.out.2.2.ex hz⟩
  clear hz
  clear lz r0 r1 r2 r3 r4 r5 f0 f1 f2 f3 f4 f5 lt t0 t1 t2 t3
  clear lb w00 w01 w02 w03 w10 w11 w12 w13 w20 w21 w22 w23 w30 w31 w32 w33
  have rz := HS4.out.2.1
  have lz := rz.lt
  have r0 := rz.cell 0
  have r1 := rz.cell 1
  have r2 := rz.cell 2
  have r3 := rz.cell 3
  have r4 := rz.cell 4
  have r5 := rz.cell 5
  have f0 := rz.frozen 0
  have f1 := rz.frozen 1
  have f2 := rz.frozen 2
  have f3 := rz.frozen 3
  have f4 := rz.frozen 4
  have f5 := rz.frozen 5
  simp only [List.getElem?_cons_zero, List.getElem?_cons_succ] at r0 r1 r2 r3 r4 r5
  have tz := HS4.out.2.2
  have lt := tz.lt
  have t0 := tz.cell 0
  have t1 := tz.cell 1
  have t2 := tz.cell 2
  have t3 := tz.cell 3
  simp only [List.getElem?_cons_zero, List.getElem?_cons_succ] at t0 t1 t2 t3
  clear rz tz
  obtain ⟨lb, w00, w01, w02, w03⟩ := word_cells (HW.out.exx HS4.out.1) HX0.out
  rw [← HT0.out] at w01
  obtain ⟨lb, w10, w11, w12, w13⟩ := word_cells (HW.out.exx HS4.out.1) HX1.out
  rw [← HT1.out] at w11
  obtain ⟨lb, w20, w21, w22, w23⟩ := word_cells (HW.out.exx HS4.out.1) HX2.out
  rw [← HT2.out] at w21
  obtain ⟨lb, w30, w31, w32, w33⟩ := word_cells (HW.out.exx HS4.out.1) HX3.out
  rw [← HT3.out] at w31
  go_wp2_with fail
  refine bodyPost_ret (results_par rfl rfl rfl rfl (blk6 HS4.out.2.1 _ _ _ _ _ _)) rfl ?_
  exact ⟨rfl, ex6 (Nat.le_refl _) HS4.out.1 _ _ _ _ _ _⟩
set_option maxRecDepth 100000 in
set_option maxHeartbeats 3200000 in
theorem at_count_ok (ws : List Wd) (b o c i : Nat) (x0 x1 x2 x3 : Wd) (w : World) (hrw : Rw w b o (wdsV ws)) (hlen : ws.length ≤ 100000) (hx0 : ws[i]? = some x0) (hx1 : ws[i + 1]? = some x1) (hx2 : ws[i + 2]? = some x2) (hx3 : ws[i + 3]? = some x3) (hk : x0.kind = 2) (htx : x0.text = [99, 111, 117, 110, 116]) (h0 : isS x0 [40] = false) (h1 : isS x1 [40] = true) (g2 : nmS x2 = true) (gl2 : x2.text.length ≤ 16384) (h3 : isS x3 [41] = true) :
    Calls Tryz.prog 84 #[.slice (some ⟨b, o, none⟩) ws.length c, .int .i64 (i : Nat)] w (Ret w (triV (3) (0) (⟨x2.text.toArray⟩) (i + 4) true)) := by
  have HW := Lib.hid hrw
  have HX0 := Lib.hid hx0
  have HX1 := Lib.hid hx1
  have HX2 := Lib.hid hx2
  have HX3 := Lib.hid hx3
  have hil : i + 3 < ws.length := (List.getElem?_eq_some_iff.1 hx3).1
  have m0 : (i : Int) < (ws.length : Int) := by omega
  have m1 : (i : Int) + 1 < (ws.length : Int) := by omega
  have m2 : (i : Int) + 2 < (ws.length : Int) := by omega
  have m3 : (i : Int) + 3 < (ws.length : Int) := by omega
  have mm : (0 : Int) ≤ (i : Int) := by omega
  have mw : (ws.length : Int) ≤ 100000 := by omega
  have HT0 : Hid ((⟨#[99, 111, 117, 110, 116]⟩ : ByteArray) = ⟨x0.text.toArray⟩) := by rw [htx]; exact Lib.hid rfl
  obtain ⟨TB1, hTB⟩ : ∃ T : ByteArray, T = ⟨x1.text.toArray⟩ := ⟨_, rfl⟩
  have HT1 := Lib.hid hTB
  clear hTB
  obtain ⟨TB2, hTB⟩ : ∃ T : ByteArray, T = ⟨x2.text.toArray⟩ := ⟨_, rfl⟩
  have HT2 := Lib.hid hTB
  clear hTB
  obtain ⟨TB3, hTB⟩ : ∃ T : ByteArray, T = ⟨x3.text.toArray⟩ := ⟨_, rfl⟩
  have HT3 := Lib.hid hTB
  clear hTB
  have HS0 : Hid (Ex w ((w.alloc (.cells #[.int .i64 0, .int .i64 0, .int .i64 0, .int .i64 0, .string ⟨#[]⟩, .slice none 0 0] 24)).alloc (.cells #[.int .i64 (x0.kind : Nat), .string ⟨#[99, 111, 117, 110, 116]⟩, .int .i64 (x0.pos.1 : Nat), .int .i64 (x0.pos.2 : Nat)] 66)) ∧ Zero6 ((w.alloc (.cells #[.int .i64 0, .int .i64 0, .int .i64 0, .int .i64 0, .string ⟨#[]⟩, .slice none 0 0] 24)).alloc (.cells #[.int .i64 (x0.kind : Nat), .string ⟨#[99, 111, 117, 110, 116]⟩, .int .i64 (x0.pos.1 : Nat), .int .i64 (x0.pos.2 : Nat)] 66)) w.heap.size ∧ Blk ((w.alloc (.cells #[.int .i64 0, .int .i64 0, .int .i64 0, .int .i64 0, .string ⟨#[]⟩, .slice none 0 0] 24)).alloc (.cells #[.int .i64 (x0.kind : Nat), .string ⟨#[99, 111, 117, 110, 116]⟩, .int .i64 (x0.pos.1 : Nat), .int .i64 (x0.pos.2 : Nat)] 66)) (w.heap.size + 1) 66 [.int .i64 (x0.kind : Nat), .string ⟨#[99, 111, 117, 110, 116]⟩, .int .i64 (x0.pos.1 : Nat), .int .i64 (x0.pos.2 : Nat)]) := ⟨((Ex.refl w).alloc _).alloc _, (Blk.new w _ _).alloc _, Blk.new' _ (by simp) _ _⟩
  have Hi0 : Hid (∀ w, Calls Tryz.prog 83 #[.agg #[.int .i64 (x0.kind : Nat), .string ⟨#[99, 111, 117, 110, 116]⟩, .int .i64 (x0.pos.1 : Nat), .int .i64 (x0.pos.2 : Nat)], .string ⟨#[40]⟩] w (Ret w (.bool false))) := fun w => by
    rw [HT0.out, ← h0]
    exact rIs_c x0 ⟨#[40]⟩ w
  clear h0
  have Hi1 : Hid (∀ w, Calls Tryz.prog 83 #[.agg #[.int .i64 (x1.kind : Nat), .string TB1, .int .i64 (x1.pos.1 : Nat), .int .i64 (x1.pos.2 : Nat)], .string ⟨#[40]⟩] w (Ret w (.bool true))) := fun w => by
    rw [HT1.out, ← h1]
    exact rIs_c x1 ⟨#[40]⟩ w
  clear h1
  have Hn2 : Hid (∀ w, Calls Tryz.prog 114 #[.agg #[.int .i64 (x2.kind : Nat), .string TB2, .int .i64 (x2.pos.1 : Nat), .int .i64 (x2.pos.2 : Nat)]] w (Ret w (.bool true))) := fun w => by
    rw [HT2.out, ← g2]
    exact rName_c x2 w gl2
  clear g2
  have Hi3 : Hid (∀ w, Calls Tryz.prog 83 #[.agg #[.int .i64 (x3.kind : Nat), .string TB3, .int .i64 (x3.pos.1 : Nat), .int .i64 (x3.pos.2 : Nat)], .string ⟨#[41]⟩] w (Ret w (.bool true))) := fun w => by
    rw [HT3.out, ← h3]
    exact rIs_c x3 ⟨#[41]⟩ w
  clear h3
  have e1 : (((x0.kind : Nat) : Int) == 1) = false := beq_eq_false_iff_ne.2 (by omega)
  have e2 : (x0.kind == 1) = false := beq_eq_false_iff_ne.2 (by omega)
  have e3 : (((x0.kind : Nat) : Int) != 1) = true := by rw [bne_iff_ne]; omega
  have e4 : (x0.kind != 1) = true := by rw [bne_iff_ne]; omega
  have ee1 : (((x0.kind : Nat) : Int) == 2) = true := by rw [beq_iff_eq]; omega
  have ee2 : (x0.kind == 2) = true := by rw [beq_iff_eq]; omega
  have ee3 : (((x0.kind : Nat) : Int) != 2) = false := by unfold bne; rw [ee1]; rfl
  have ee4 : (x0.kind != 2) = false := by unfold bne; rw [ee2]; rfl
  clear hk
  obtain ⟨lb, w00, w01, w02, w03⟩ := word_cells (HW.out.exx (Ex.refl w)) HX0.out
  rw [← HT0.out] at w01
  obtain ⟨lb, w10, w11, w12, w13⟩ := word_cells (HW.out.exx (Ex.refl w)) HX1.out
  rw [← HT1.out] at w11
  obtain ⟨lb, w20, w21, w22, w23⟩ := word_cells (HW.out.exx (Ex.refl w)) HX2.out
  rw [← HT2.out] at w21
  obtain ⟨lb, w30, w31, w32, w33⟩ := word_cells (HW.out.exx (Ex.refl w)) HX3.out
  rw [← HT3.out] at w31
  clear hrw hlen hil hx0 hx1 hx2 hx3
  go_enter Tryz.func84, Tryz.ntmps84
  go_wp2_with fail
  generalize w.heap.size + 1 = nb at *
  refine (Hi0.out _).mono ?_
  rintro e W1 ⟨rfl, hz⟩
  have HS1 : Hid (Ex w W1 ∧ Zero6 W1 w.heap.size ∧ Blk W1 nb 66 [.int .i64 (x0.kind : Nat), .string ⟨#[99, 111, 117, 110, 116]⟩, .int .i64 (x0.pos.1 : Nat), .int .i64 (x0.pos.2 : Nat)]) := ⟨HS0.out.1.trans hz, HS0.out.2.1.ex hz, HS0.out.2.2.ex hz⟩
  clear hz
  clear lb w00 w01 w02 w03 w10 w11 w12 w13 w20 w21 w22 w23 w30 w31 w32 w33
  have rz := HS1.out.2.1
  have lz := rz.lt
  have r0 := rz.cell 0
  have r1 := rz.cell 1
  have r2 := rz.cell 2
  have r3 := rz.cell 3
  have r4 := rz.cell 4
  have r5 := rz.cell 5
  have f0 := rz.frozen 0
  have f1 := rz.frozen 1
  have f2 := rz.frozen 2
  have f3 := rz.frozen 3
  have f4 := rz.frozen 4
  have f5 := rz.frozen 5
  simp only [List.getElem?_cons_zero, List.getElem?_cons_succ] at r0 r1 r2 r3 r4 r5
  have tz := HS1.out.2.2
  have lt := tz.lt
  have t0 := tz.cell 0
  have t1 := tz.cell 1
  have t2 := tz.cell 2
  have t3 := tz.cell 3
  simp only [List.getElem?_cons_zero, List.getElem?_cons_succ] at t0 t1 t2 t3
  clear rz tz
  obtain ⟨lb, w00, w01, w02, w03⟩ := word_cells (HW.out.exx HS1.out.1) HX0.out
  rw [← HT0.out] at w01
  obtain ⟨lb, w10, w11, w12, w13⟩ := word_cells (HW.out.exx HS1.out.1) HX1.out
  rw [← HT1.out] at w11
  obtain ⟨lb, w20, w21, w22, w23⟩ := word_cells (HW.out.exx HS1.out.1) HX2.out
  rw [← HT2.out] at w21
  obtain ⟨lb, w30, w31, w32, w33⟩ := word_cells (HW.out.exx HS1.out.1) HX3.out
  rw [← HT3.out] at w31
  go_wp2_with fail
  refine (Hi1.out _).mono ?_
  rintro e W2 ⟨rfl, hz⟩
  have HS2 : Hid (Ex w W2 ∧ Zero6 W2 w.heap.size ∧ Blk W2 nb 66 [.int .i64 (x0.kind : Nat), .string ⟨#[99, 111, 117, 110, 116]⟩, .int .i64 (x0.pos.1 : Nat), .int .i64 (x0.pos.2 : Nat)]) := ⟨HS1.out.1.trans hz, HS1.out.2.1.ex hz, HS1.out.2.2.ex hz⟩
  clear hz
  clear lz r0 r1 r2 r3 r4 r5 f0 f1 f2 f3 f4 f5 lt t0 t1 t2 t3
  clear lb w00 w01 w02 w03 w10 w11 w12 w13 w20 w21 w22 w23 w30 w31 w32 w33
  have rz := HS2.out.2.1
  have lz := rz.lt
  have r0 := rz.cell 0
  have r1 := rz.cell 1
  have r2 := rz.cell 2
  have r3 := rz.cell 3
  have r4 := rz.cell 4
  have r5 := rz.cell 5
  have f0 := rz.frozen 0
  have f1 := rz.frozen 1
  have f2 := rz.frozen 2
  have f3 := rz.frozen 3
  have f4 := rz.frozen 4
  have f5 := rz.frozen 5
  simp only [List.getElem?_cons_zero, List.getElem?_cons_succ] at r0 r1 r2 r3 r4 r5
  have tz := HS2.out.2.2
  have lt := tz.lt
  have t0 := tz.cell 0
  have t1 := tz.cell 1
  have t2 := tz.cell 2
  have t3 := tz.cell 3
  simp only [List.getElem?_cons_zero, List.getElem?_cons_succ] at t0 t1 t2 t3
  clear rz tz
  obtain ⟨lb, w00, w01, w02, w03⟩ := word_cells (HW.out.exx HS2.out.1) HX0.out
  rw [← HT0.out] at w01
  obtain ⟨lb, w10, w11, w12, w13⟩ := word_cells (HW.out.exx HS2.out.1) HX1.out
  rw [← HT1.out] at w11
  obtain ⟨lb, w20, w21, w22, w23⟩ := word_cells (HW.out.exx HS2.out.1) HX2.out
  rw [← HT2.out] at w21
  obtain ⟨lb, w30, w31, w32, w33⟩ := word_cells (HW.out.exx HS2.out.1) HX3.out
  rw [← HT3.out] at w31
  go_wp2_with fail
  refine (Hn2.out _).mono ?_
  rintro e W3 ⟨rfl, hz⟩
  have HS3 : Hid (Ex w W3 ∧ Zero6 W3 w.heap.size ∧ Blk W3 nb 66 [.int .i64 (x0.kind : Nat), .string ⟨#[99, 111, 117, 110, 116]⟩, .int .i64 (x0.pos.1 : Nat), .int .i64 (x0.pos.2 : Nat)]) := ⟨HS2.out.1.trans hz, HS2.out.2.1.ex hz, HS2.out.2.2.ex hz⟩
  clear hz
  clear lz r0 r1 r2 r3 r4 r5 f0 f1 f2 f3 f4 f5 lt t0 t1 t2 t3
  clear lb w00 w01 w02 w03 w10 w11 w12 w13 w20 w21 w22 w23 w30 w31 w32 w33
  have rz := HS3.out.2.1
  have lz := rz.lt
  have r0 := rz.cell 0
  have r1 := rz.cell 1
  have r2 := rz.cell 2
  have r3 := rz.cell 3
  have r4 := rz.cell 4
  have r5 := rz.cell 5
  have f0 := rz.frozen 0
  have f1 := rz.frozen 1
  have f2 := rz.frozen 2
  have f3 := rz.frozen 3
  have f4 := rz.frozen 4
  have f5 := rz.frozen 5
  simp only [List.getElem?_cons_zero, List.getElem?_cons_succ] at r0 r1 r2 r3 r4 r5
  have tz := HS3.out.2.2
  have lt := tz.lt
  have t0 := tz.cell 0
  have t1 := tz.cell 1
  have t2 := tz.cell 2
  have t3 := tz.cell 3
  simp only [List.getElem?_cons_zero, List.getElem?_cons_succ] at t0 t1 t2 t3
  clear rz tz
  obtain ⟨lb, w00, w01, w02, w03⟩ := word_cells (HW.out.exx HS3.out.1) HX0.out
  rw [← HT0.out] at w01
  obtain ⟨lb, w10, w11, w12, w13⟩ := word_cells (HW.out.exx HS3.out.1) HX1.out
  rw [← HT1.out] at w11
  obtain ⟨lb, w20, w21, w22, w23⟩ := word_cells (HW.out.exx HS3.out.1) HX2.out
  rw [← HT2.out] at w21
  obtain ⟨lb, w30, w31, w32, w33⟩ := word_cells (HW.out.exx HS3.out.1) HX3.out
  rw [← HT3.out] at w31
  go_wp2_with fail
  refine (Hi3.out _).mono ?_
  rintro e W4 ⟨rfl, hz⟩
  have HS4 : Hid (Ex w W4 ∧ Zero6 W4 w.heap.size ∧ Blk W4 nb 66 [.int .i64 (x0.kind : Nat), .string ⟨#[99, 111, 117, 110, 116]⟩, .int .i64 (x0.pos.1 : Nat), .int .i64 (x0.pos.2 : Nat)]) := ⟨HS3.out.1.trans hz, HS3.out.2.1.ex hz, HS3.out.2.2.ex hz⟩
  clear hz
  clear lz r0 r1 r2 r3 r4 r5 f0 f1 f2 f3 f4 f5 lt t0 t1 t2 t3
  clear lb w00 w01 w02 w03 w10 w11 w12 w13 w20 w21 w22 w23 w30 w31 w32 w33
  have rz := HS4.out.2.1
  have lz := rz.lt
  have r0 := rz.cell 0
  have r1 := rz.cell 1
  have r2 := rz.cell 2
  have r3 := rz.cell 3
  have r4 := rz.cell 4
  have r5 := rz.cell 5
  have f0 := rz.frozen 0
  have f1 := rz.frozen 1
  have f2 := rz.frozen 2
  have f3 := rz.frozen 3
  have f4 := rz.frozen 4
  have f5 := rz.frozen 5
  simp only [List.getElem?_cons_zero, List.getElem?_cons_succ] at r0 r1 r2 r3 r4 r5
  have tz := HS4.out.2.2
  have lt := tz.lt
  have t0 := tz.cell 0
  have t1 := tz.cell 1
  have t2 := tz.cell 2
  have t3 := tz.cell 3
  simp only [List.getElem?_cons_zero, List.getElem?_cons_succ] at t0 t1 t2 t3
  clear rz tz
  obtain ⟨lb, w00, w01, w02, w03⟩ := word_cells (HW.out.exx HS4.out.1) HX0.out
  rw [← HT0.out] at w01
  obtain ⟨lb, w10, w11, w12, w13⟩ := word_cells (HW.out.exx HS4.out.1) HX1.out
  rw [← HT1.out] at w11
  obtain ⟨lb, w20, w21, w22, w23⟩ := word_cells (HW.out.exx HS4.out.1) HX2.out
  rw [← HT2.out] at w21
  obtain ⟨lb, w30, w31, w32, w33⟩ := word_cells (HW.out.exx HS4.out.1) HX3.out
  rw [← HT3.out] at w31
  go_wp2_with fail
  refine bodyPost_ret (results_par rfl rfl rfl rfl (blk6 HS4.out.2.1 _ _ _ _ _ _)) rfl ?_
  exact ⟨by rw [← HT2.out]; rfl, ex6 (Nat.le_refl _) HS4.out.1 _ _ _ _ _ _⟩
set_option maxRecDepth 100000 in
set_option maxHeartbeats 3200000 in
theorem at_channel1 (ws : List Wd) (b o c i : Nat) (x0 x1 : Wd) (w : World) (hrw : Rw w b o (wdsV ws)) (hlen : ws.length ≤ 100000) (hx0 : ws[i]? = some x0) (hx1 : ws[i + 1]? = some x1) (hk : x0.kind = 2) (htx : x0.text = [99, 104, 97, 110, 110, 101, 108]) (h0 : isS x0 [40] = false) (h1 : isS x1 [40] = false) :
    Calls Tryz.prog 84 #[.slice (some ⟨b, o, none⟩) ws.length c, .int .i64 (i : Nat)] w (Ret w (triV (0) (0) (⟨#[]⟩) (i + 1) false)) := by
  have HW := Lib.hid hrw
  have HX0 := Lib.hid hx0
  have HX1 := Lib.hid hx1
  have hil : i + 1 < ws.length := (List.getElem?_eq_some_iff.1 hx1).1
  have m0 : (i : Int) < (ws.length : Int) := by omega
  have m1 : (i : Int) + 1 < (ws.length : Int) := by omega
  have mm : (0 : Int) ≤ (i : Int) := by omega
  have mw : (ws.length : Int) ≤ 100000 := by omega
  have HT0 : Hid ((⟨#[99, 104, 97, 110, 110, 101, 108]⟩ : ByteArray) = ⟨x0.text.toArray⟩) := by rw [htx]; exact Lib.hid rfl
  obtain ⟨TB1, hTB⟩ : ∃ T : ByteArray, T = ⟨x1.text.toArray⟩ := ⟨_, rfl⟩
  have HT1 := Lib.hid hTB
  clear hTB
  have HS0 : Hid (Ex w ((w.alloc (.cells #[.int .i64 0, .int .i64 0, .int .i64 0, .int .i64 0, .string ⟨#[]⟩, .slice none 0 0] 24)).alloc (.cells #[.int .i64 (x0.kind : Nat), .string ⟨#[99, 104, 97, 110, 110, 101, 108]⟩, .int .i64 (x0.pos.1 : Nat), .int .i64 (x0.pos.2 : Nat)] 66)) ∧ Zero6 ((w.alloc (.cells #[.int .i64 0, .int .i64 0, .int .i64 0, .int .i64 0, .string ⟨#[]⟩, .slice none 0 0] 24)).alloc (.cells #[.int .i64 (x0.kind : Nat), .string ⟨#[99, 104, 97, 110, 110, 101, 108]⟩, .int .i64 (x0.pos.1 : Nat), .int .i64 (x0.pos.2 : Nat)] 66)) w.heap.size ∧ Blk ((w.alloc (.cells #[.int .i64 0, .int .i64 0, .int .i64 0, .int .i64 0, .string ⟨#[]⟩, .slice none 0 0] 24)).alloc (.cells #[.int .i64 (x0.kind : Nat), .string ⟨#[99, 104, 97, 110, 110, 101, 108]⟩, .int .i64 (x0.pos.1 : Nat), .int .i64 (x0.pos.2 : Nat)] 66)) (w.heap.size + 1) 66 [.int .i64 (x0.kind : Nat), .string ⟨#[99, 104, 97, 110, 110, 101, 108]⟩, .int .i64 (x0.pos.1 : Nat), .int .i64 (x0.pos.2 : Nat)]) := ⟨((Ex.refl w).alloc _).alloc _, (Blk.new w _ _).alloc _, Blk.new' _ (by simp) _ _⟩
  have Hi0 : Hid (∀ w, Calls Tryz.prog 83 #[.agg #[.int .i64 (x0.kind : Nat), .string ⟨#[99, 104, 97, 110, 110, 101, 108]⟩, .int .i64 (x0.pos.1 : Nat), .int .i64 (x0.pos.2 : Nat)], .string ⟨#[40]⟩] w (Ret w (.bool false))) := fun w => by
    rw [HT0.out, ← h0]
    exact rIs_c x0 ⟨#[40]⟩ w
  clear h0
  have Hi1 : Hid (∀ w, Calls Tryz.prog 83 #[.agg #[.int .i64 (x1.kind : Nat), .string TB1, .int .i64 (x1.pos.1 : Nat), .int .i64 (x1.pos.2 : Nat)], .string ⟨#[40]⟩] w (Ret w (.bool false))) := fun w => by
    rw [HT1.out, ← h1]
    exact rIs_c x1 ⟨#[40]⟩ w
  clear h1
  have e1 : (((x0.kind : Nat) : Int) == 1) = false := beq_eq_false_iff_ne.2 (by omega)
  have e2 : (x0.kind == 1) = false := beq_eq_false_iff_ne.2 (by omega)
  have e3 : (((x0.kind : Nat) : Int) != 1) = true := by rw [bne_iff_ne]; omega
  have e4 : (x0.kind != 1) = true := by rw [bne_iff_ne]; omega
  have ee1 : (((x0.kind : Nat) : Int) == 2) = true := by rw [beq_iff_eq]; omega
  have ee2 : (x0.kind == 2) = true := by rw [beq_iff_eq]; omega
  have ee3 : (((x0.kind : Nat) : Int) != 2) = false := by unfold bne; rw [ee1]; rfl
  have ee4 : (x0.kind != 2) = false := by unfold bne; rw [ee2]; rfl
  clear hk
  obtain ⟨lb, w00, w01, w02, w03⟩ := word_cells (HW.out.exx (Ex.refl w)) HX0.out
  rw [← HT0.out] at w01
  obtain ⟨lb, w10, w11, w12, w13⟩ := word_cells (HW.out.exx (Ex.refl w)) HX1.out
  rw [← HT1.out] at w11
  clear hrw hlen hil hx0 hx1
  go_enter Tryz.func84, Tryz.ntmps84
  go_wp2_with fail
  generalize w.heap.size + 1 = nb at *
  refine (Hi0.out _).mono ?_
  rintro e W1 ⟨rfl, hz⟩
  have HS1 : Hid (Ex w W1 ∧ Zero6 W1 w.heap.size ∧ Blk W1 nb 66 [.int .i64 (x0.kind : Nat), .string ⟨#[99, 104, 97, 110, 110, 101, 108]⟩, .int .i64 (x0.pos.1 : Nat), .int .i64 (x0.pos.2 : Nat)]) := ⟨HS0.out.1.trans hz, HS0.out.2.1.ex hz, HS0.out.2.2.ex hz⟩
  clear hz
  clear lb w00 w01 w02 w03 w10 w11 w12 w13
  have rz := HS1.out.2.1
  have lz := rz.lt
  have r0 := rz.cell 0
  have r1 := rz.cell 1
  have r2 := rz.cell 2
  have r3 := rz.cell 3
  have r4 := rz.cell 4
  have r5 := rz.cell 5
  have f0 := rz.frozen 0
  have f1 := rz.frozen 1
  have f2 := rz.frozen 2
  have f3 := rz.frozen 3
  have f4 := rz.frozen 4
  have f5 := rz.frozen 5
  simp only [List.getElem?_cons_zero, List.getElem?_cons_succ] at r0 r1 r2 r3 r4 r5
  have tz := HS1.out.2.2
  have lt := tz.lt
  have t0 := tz.cell 0
  have t1 := tz.cell 1
  have t2 := tz.cell 2
  have t3 := tz.cell 3
  simp only [List.getElem?_cons_zero, List.getElem?_cons_succ] at t0 t1 t2 t3
  clear rz tz
  obtain ⟨lb, w00, w01, w02, w03⟩ := word_cells (HW.out.exx HS1.out.1) HX0.out
  rw [← HT0.out] at w01
  obtain ⟨lb, w10, w11, w12, w13⟩ := word_cells (HW.out.exx HS1.out.1) HX1.out
  rw [← HT1.out] at w11
  go_wp2_with fail
  refine (Hi1.out _).mono ?_
  rintro e W2 ⟨rfl, hz⟩
  have HS2 : Hid (Ex w W2 ∧ Zero6 W2 w.heap.size ∧ Blk W2 nb 66 [.int .i64 (x0.kind : Nat), .string ⟨#[99, 104, 97, 110, 110, 101, 108]⟩, .int .i64 (x0.pos.1 : Nat), .int .i64 (x0.pos.2 : Nat)]) := ⟨HS1.out.1.trans hz, HS1.out.2.1.ex hz, HS1.out.2.2.ex hz⟩
  clear hz
  clear lz r0 r1 r2 r3 r4 r5 f0 f1 f2 f3 f4 f5 lt t0 t1 t2 t3
  clear lb w00 w01 w02 w03 w10 w11 w12 w13
  have rz := HS2.out.2.1
  have lz := rz.lt
  have r0 := rz.cell 0
  have r1 := rz.cell 1
  have r2 := rz.cell 2
  have r3 := rz.cell 3
  have r4 := rz.cell 4
  have r5 := rz.cell 5
  have f0 := rz.frozen 0
  have f1 := rz.frozen 1
  have f2 := rz.frozen 2
  have f3 := rz.frozen 3
  have f4 := rz.frozen 4
  have f5 := rz.frozen 5
  simp only [List.getElem?_cons_zero, List.getElem?_cons_succ] at r0 r1 r2 r3 r4 r5
  have tz := HS2.out.2.2
  have lt := tz.lt
  have t0 := tz.cell 0
  have t1 := tz.cell 1
  have t2 := tz.cell 2
  have t3 := tz.cell 3
  simp only [List.getElem?_cons_zero, List.getElem?_cons_succ] at t0 t1 t2 t3
  clear rz tz
  obtain ⟨lb, w00, w01, w02, w03⟩ := word_cells (HW.out.exx HS2.out.1) HX0.out
  rw [← HT0.out] at w01
  obtain ⟨lb, w10, w11, w12, w13⟩ := word_cells (HW.out.exx HS2.out.1) HX1.out
  rw [← HT1.out] at w11
  go_wp2_with fail
  refine bodyPost_ret (results_par rfl rfl rfl rfl (blk6 HS2.out.2.1 _ _ _ _ _ _)) rfl ?_
  exact ⟨rfl, ex6 (Nat.le_refl _) HS2.out.1 _ _ _ _ _ _⟩
set_option maxRecDepth 100000 in
set_option maxHeartbeats 3200000 in
theorem at_channel2 (ws : List Wd) (b o c i : Nat) (x0 x1 x2 : Wd) (w : World) (hrw : Rw w b o (wdsV ws)) (hlen : ws.length ≤ 100000) (hx0 : ws[i]? = some x0) (hx1 : ws[i + 1]? = some x1) (hx2 : ws[i + 2]? = some x2) (hk : x0.kind = 2) (htx : x0.text = [99, 104, 97, 110, 110, 101, 108]) (h0 : isS x0 [40] = false) (h1 : isS x1 [40] = true) (g2 : nmS x2 = false) (gl2 : x2.text.length ≤ 16384) :
    Calls Tryz.prog 84 #[.slice (some ⟨b, o, none⟩) ws.length c, .int .i64 (i : Nat)] w (Ret w (triV (0) (0) (⟨#[]⟩) (i + 2) false)) := by
  have HW := Lib.hid hrw
  have HX0 := Lib.hid hx0
  have HX1 := Lib.hid hx1
  have HX2 := Lib.hid hx2
  have hil : i + 2 < ws.length := (List.getElem?_eq_some_iff.1 hx2).1
  have m0 : (i : Int) < (ws.length : Int) := by omega
  have m1 : (i : Int) + 1 < (ws.length : Int) := by omega
  have m2 : (i : Int) + 2 < (ws.length : Int) := by omega
  have mm : (0 : Int) ≤ (i : Int) := by omega
  have mw : (ws.length : Int) ≤ 100000 := by omega
  have HT0 : Hid ((⟨#[99, 104, 97, 110, 110, 101, 108]⟩ : ByteArray) = ⟨x0.text.toArray⟩) := by rw [htx]; exact Lib.hid rfl
  obtain ⟨TB1, hTB⟩ : ∃ T : ByteArray, T = ⟨x1.text.toArray⟩ := ⟨_, rfl⟩
  have HT1 := Lib.hid hTB
  clear hTB
  obtain ⟨TB2, hTB⟩ : ∃ T : ByteArray, T = ⟨x2.text.toArray⟩ := ⟨_, rfl⟩
  have HT2 := Lib.hid hTB
  clear hTB
  have HS0 : Hid (Ex w ((w.alloc (.cells #[.int .i64 0, .int .i64 0, .int .i64 0, .int .i64 0, .string ⟨#[]⟩, .slice none 0 0] 24)).alloc (.cells #[.int .i64 (x0.kind : Nat), .string ⟨#[99, 104, 97, 110, 110, 101, 108]⟩, .int .i64 (x0.pos.1 : Nat), .int .i64 (x0.pos.2 : Nat)] 66)) ∧ Zero6 ((w.alloc (.cells #[.int .i64 0, .int .i64 0, .int .i64 0, .int .i64 0, .string ⟨#[]⟩, .slice none 0 0] 24)).alloc (.cells #[.int .i64 (x0.kind : Nat), .string ⟨#[99, 104, 97, 110, 110, 101, 108]⟩, .int .i64 (x0.pos.1 : Nat), .int .i64 (x0.pos.2 : Nat)] 66)) w.heap.size ∧ Blk ((w.alloc (.cells #[.int .i64 0, .int .i64 0, .int .i64 0, .int .i64 0, .string ⟨#[]⟩, .slice none 0 0] 24)).alloc (.cells #[.int .i64 (x0.kind : Nat), .string ⟨#[99, 104, 97, 110, 110, 101, 108]⟩, .int .i64 (x0.pos.1 : Nat), .int .i64 (x0.pos.2 : Nat)] 66)) (w.heap.size + 1) 66 [.int .i64 (x0.kind : Nat), .string ⟨#[99, 104, 97, 110, 110, 101, 108]⟩, .int .i64 (x0.pos.1 : Nat), .int .i64 (x0.pos.2 : Nat)]) := ⟨((Ex.refl w).alloc _).alloc _, (Blk.new w _ _).alloc _, Blk.new' _ (by simp) _ _⟩
  have Hi0 : Hid (∀ w, Calls Tryz.prog 83 #[.agg #[.int .i64 (x0.kind : Nat), .string ⟨#[99, 104, 97, 110, 110, 101, 108]⟩, .int .i64 (x0.pos.1 : Nat), .int .i64 (x0.pos.2 : Nat)], .string ⟨#[40]⟩] w (Ret w (.bool false))) := fun w => by
    rw [HT0.out, ← h0]
    exact rIs_c x0 ⟨#[40]⟩ w
  clear h0
  have Hi1 : Hid (∀ w, Calls Tryz.prog 83 #[.agg #[.int .i64 (x1.kind : Nat), .string TB1, .int .i64 (x1.pos.1 : Nat), .int .i64 (x1.pos.2 : Nat)], .string ⟨#[40]⟩] w (Ret w (.bool true))) := fun w => by
    rw [HT1.out, ← h1]
    exact rIs_c x1 ⟨#[40]⟩ w
  clear h1
  have Hn2 : Hid (∀ w, Calls Tryz.prog 114 #[.agg #[.int .i64 (x2.kind : Nat), .string TB2, .int .i64 (x2.pos.1 : Nat), .int .i64 (x2.pos.2 : Nat)]] w (Ret w (.bool false))) := fun w => by
    rw [HT2.out, ← g2]
    exact rName_c x2 w gl2
  clear g2
  have e1 : (((x0.kind : Nat) : Int) == 1) = false := beq_eq_false_iff_ne.2 (by omega)
  have e2 : (x0.kind == 1) = false := beq_eq_false_iff_ne.2 (by omega)
  have e3 : (((x0.kind : Nat) : Int) != 1) = true := by rw [bne_iff_ne]; omega
  have e4 : (x0.kind != 1) = true := by rw [bne_iff_ne]; omega
  have ee1 : (((x0.kind : Nat) : Int) == 2) = true := by rw [beq_iff_eq]; omega
  have ee2 : (x0.kind == 2) = true := by rw [beq_iff_eq]; omega
  have ee3 : (((x0.kind : Nat) : Int) != 2) = false := by unfold bne; rw [ee1]; rfl
  have ee4 : (x0.kind != 2) = false := by unfold bne; rw [ee2]; rfl
  clear hk
  obtain ⟨lb, w00, w01, w02, w03⟩ := word_cells (HW.out.exx (Ex.refl w)) HX0.out
  rw [← HT0.out] at w01
  obtain ⟨lb, w10, w11, w12, w13⟩ := word_cells (HW.out.exx (Ex.refl w)) HX1.out
  rw [← HT1.out] at w11
  obtain ⟨lb, w20, w21, w22, w23⟩ := word_cells (HW.out.exx (Ex.refl w)) HX2.out
  rw [← HT2.out] at w21
  clear hrw hlen hil hx0 hx1 hx2
  go_enter Tryz.func84, Tryz.ntmps84
  go_wp2_with fail
  generalize w.heap.size + 1 = nb at *
  refine (Hi0.out _).mono ?_
  rintro e W1 ⟨rfl, hz⟩
  have HS1 : Hid (Ex w W1 ∧ Zero6 W1 w.heap.size ∧ Blk W1 nb 66 [.int .i64 (x0.kind : Nat), .string ⟨#[99, 104, 97, 110, 110, 101, 108]⟩, .int .i64 (x0.pos.1 : Nat), .int .i64 (x0.pos.2 : Nat)]) := ⟨HS0.out.1.trans hz, HS0.out.2.1.ex hz, HS0.out.2.2.ex hz⟩
  clear hz
  clear lb w00 w01 w02 w03 w10 w11 w12 w13 w20 w21 w22 w23
  have rz := HS1.out.2.1
  have lz := rz.lt
  have r0 := rz.cell 0
  have r1 := rz.cell 1
  have r2 := rz.cell 2
  have r3 := rz.cell 3
  have r4 := rz.cell 4
  have r5 := rz.cell 5
  have f0 := rz.frozen 0
  have f1 := rz.frozen 1
  have f2 := rz.frozen 2
  have f3 := rz.frozen 3
  have f4 := rz.frozen 4
  have f5 := rz.frozen 5
  simp only [List.getElem?_cons_zero, List.getElem?_cons_succ] at r0 r1 r2 r3 r4 r5
  have tz := HS1.out.2.2
  have lt := tz.lt
  have t0 := tz.cell 0
  have t1 := tz.cell 1
  have t2 := tz.cell 2
  have t3 := tz.cell 3
  simp only [List.getElem?_cons_zero, List.getElem?_cons_succ] at t0 t1 t2 t3
  clear rz tz
  obtain ⟨lb, w00, w01, w02, w03⟩ := word_cells (HW.out.exx HS1.out.1) HX0.out
  rw [← HT0.out] at w01
  obtain ⟨lb, w10, w11, w12, w13⟩ := word_cells (HW.out.exx HS1.out.1) HX1.out
  rw [← HT1.out] at w11
  obtain ⟨lb, w20, w21, w22, w23⟩ := word_cells (HW.out.exx HS1.out.1) HX2.out
  rw [← HT2.out] at w21
  go_wp2_with fail
  refine (Hi1.out _).mono ?_
  rintro e W2 ⟨rfl, hz⟩
  have HS2 : Hid (Ex w W2 ∧ Zero6 W2 w.heap.size ∧ Blk W2 nb 66 [.int .i64 (x0.kind : Nat), .string ⟨#[99, 104, 97, 110, 110, 101, 108]⟩, .int .i64 (x0.pos.1 : Nat), .int .i64 (x0.pos.2 : Nat)]) := ⟨HS1.out.1.trans hz, HS1.out.2.1.ex hz, HS1.out.2.2.ex hz⟩
  clear hz
  clear lz r0 r1 r2 r3 r4 r5 f0 f1 f2 f3 f4 f5 lt t0 t1 t2 t3
  clear lb w00 w01 w02 w03 w10 w11 w12 w13 w20 w21 w22 w23
  have rz := HS2.out.2.1
  have lz := rz.lt
  have r0 := rz.cell 0
  have r1 := rz.cell 1
  have r2 := rz.cell 2
  have r3 := rz.cell 3
  have r4 := rz.cell 4
  have r5 := rz.cell 5
  have f0 := rz.frozen 0
  have f1 := rz.frozen 1
  have f2 := rz.frozen 2
  have f3 := rz.frozen 3
  have f4 := rz.frozen 4
  have f5 := rz.frozen 5
  simp only [List.getElem?_cons_zero, List.getElem?_cons_succ] at r0 r1 r2 r3 r4 r5
  have tz := HS2.out.2.2
  have lt := tz.lt
  have t0 := tz.cell 0
  have t1 := tz.cell 1
  have t2 := tz.cell 2
  have t3 := tz.cell 3
  simp only [List.getElem?_cons_zero, List.getElem?_cons_succ] at t0 t1 t2 t3
  clear rz tz
  obtain ⟨lb, w00, w01, w02, w03⟩ := word_cells (HW.out.exx HS2.out.1) HX0.out
  rw [← HT0.out] at w01
  obtain ⟨lb, w10, w11, w12, w13⟩ := word_cells (HW.out.exx HS2.out.1) HX1.out
  rw [← HT1.out] at w11
  obtain ⟨lb, w20, w21, w22, w23⟩ := word_cells (HW.out.exx HS2.out.1) HX2.out
  rw [← HT2.out] at w21
  go_wp2_with fail
  refine (Hn2.out _).mono ?_
  rintro e W3 ⟨rfl, hz⟩
  have HS3 : Hid (Ex w W3 ∧ Zero6 W3 w.heap.size ∧ Blk W3 nb 66 [.int .i64 (x0.kind : Nat), .string ⟨#[99, 104, 97, 110, 110, 101, 108]⟩, .int .i64 (x0.pos.1 : Nat), .int .i64 (x0.pos.2 : Nat)]) := ⟨HS2.out.1.trans hz, HS2.out.2.1.ex hz, HS2.out.2.2.ex hz⟩
  clear hz
  clear lz r0 r1 r2 r3 r4 r5 f0 f1 f2 f3 f4 f5 lt t0 t1 t2 t3
  clear lb w00 w01 w02 w03 w10 w11 w12 w13 w20 w21 w22 w23
  have rz := HS3.out.2.1
  have lz := rz.lt
  have r0 := rz.cell 0
  have r1 := rz.cell 1
  have r2 := rz.cell 2
  have r3 := rz.cell 3
  have r4 := rz.cell 4
  have r5 := rz.cell 5
  have f0 := rz.frozen 0
  have f1 := rz.frozen 1
  have f2 := rz.frozen 2
  have f3 := rz.frozen 3
  have f4 := rz.frozen 4
  have f5 := rz.frozen 5
  simp only [List.getElem?_cons_zero, List.getElem?_cons_succ] at r0 r1 r2 r3 r4 r5
  have tz := HS3.out.2.2
  have lt := tz.lt
  have t0 := tz.cell 0
  have t1 := tz.cell 1
  have t2 := tz.cell 2
  have t3 := tz.cell 3
  simp only [List.getElem?_cons_zero, List.getElem?_cons_succ] at t0 t1 t2 t3
  clear rz tz
  obtain ⟨lb, w00, w01, w02, w03⟩ := word_cells (HW.out.exx HS3.out.1) HX0.out
  rw [← HT0.out] at w01
  obtain ⟨lb, w10, w11, w12, w13⟩ := word_cells (HW.out.exx HS3.out.1) HX1.out
  rw [← HT1.out] at w11
  obtain ⟨lb, w20, w21, w22, w23⟩ := word_cells (HW.out.exx HS3.out.1) HX2.out
  rw [← HT2.out] at w21
  go_wp2_with fail
  refine bodyPost_ret (results_par rfl rfl rfl rfl (blk6 HS3.out.2.1 _ _ _ _ _ _)) rfl ?_
  exact ⟨rfl, ex6 (Nat.le_refl _) HS3.out.1 _ _ _ _ _ _⟩
set_option maxRecDepth 100000 in
set_option maxHeartbeats 3200000 in
theorem at_channel3 (ws : List Wd) (b o c i : Nat) (x0 x1 x2 x3 : Wd) (w : World) (hrw : Rw w b o (wdsV ws)) (hlen : ws.length ≤ 100000) (hx0 : ws[i]? = some x0) (hx1 : ws[i + 1]? = some x1) (hx2 : ws[i + 2]? = some x2) (hx3 : ws[i + 3]? = some x3) (hk : x0.kind = 2) (htx : x0.text = [99, 104, 97, 110, 110, 101, 108]) (h0 : isS x0 [40] = false) (h1 : isS x1 [40] = true) (g2 : nmS x2 = true) (gl2 : x2.text.length ≤ 16384) (h3 : isS x3 [44] = false) :
    Calls Tryz.prog 84 #[.slice (some ⟨b, o, none⟩) ws.length c, .int .i64 (i : Nat)] w (Ret w (triV (0) (0) (⟨#[]⟩) (i + 3) false)) := by
  have HW := Lib.hid hrw
  have HX0 := Lib.hid hx0
  have HX1 := Lib.hid hx1
  have HX2 := Lib.hid hx2
  have HX3 := Lib.hid hx3
  have hil : i + 3 < ws.length := (List.getElem?_eq_some_iff.1 hx3).1
  have m0 : (i : Int) < (ws.length : Int) := by omega
  have m1 : (i : Int) + 1 < (ws.length : Int) := by omega
  have m2 : (i : Int) + 2 < (ws.length : Int) := by omega
  have m3 : (i : Int) + 3 < (ws.length : Int) := by omega
  have mm : (0 : Int) ≤ (i : Int) := by omega
  have mw : (ws.length : Int) ≤ 100000 := by omega
  have HT0 : Hid ((⟨#[99, 104, 97, 110, 110, 101, 108]⟩ : ByteArray) = ⟨x0.text.toArray⟩) := by rw [htx]; exact Lib.hid rfl
  obtain ⟨TB1, hTB⟩ : ∃ T : ByteArray, T = ⟨x1.text.toArray⟩ := ⟨_, rfl⟩
  have HT1 := Lib.hid hTB
  clear hTB
  obtain ⟨TB2, hTB⟩ : ∃ T : ByteArray, T = ⟨x2.text.toArray⟩ := ⟨_, rfl⟩
  have HT2 := Lib.hid hTB
  clear hTB
  obtain ⟨TB3, hTB⟩ : ∃ T : ByteArray, T = ⟨x3.text.toArray⟩ := ⟨_, rfl⟩
  have HT3 := Lib.hid hTB
  clear hTB
  have HS0 : Hid (Ex w ((w.alloc (.cells #[.int .i64 0, .int .i64 0, .int .i64 0, .int .i64 0, .string ⟨#[]⟩, .slice none 0 0] 24)).alloc (.cells #[.int .i64 (x0.kind : Nat), .string ⟨#[99, 104, 97, 110, 110, 101, 108]⟩, .int .i64 (x0.pos.1 : Nat), .int .i64 (x0.pos.2 : Nat)] 66)) ∧ Zero6 ((w.alloc (.cells #[.int .i64 0, .int .i64 0, .int .i64 0, .int .i64 0, .string ⟨#[]⟩, .slice none 0 0] 24)).alloc (.cells #[.int .i64 (x0.kind : Nat), .string ⟨#[99, 104, 97, 110, 110, 101, 108]⟩, .int .i64 (x0.pos.1 : Nat), .int .i64 (x0.pos.2 : Nat)] 66)) w.heap.size ∧ Blk ((w.alloc (.cells #[.int .i64 0, .int .i64 0, .int .i64 0, .int .i64 0, .string ⟨#[]⟩, .slice none 0 0] 24)).alloc (.cells #[.int .i64 (x0.kind : Nat), .string ⟨#[99, 104, 97, 110, 110, 101, 108]⟩, .int .i64 (x0.pos.1 : Nat), .int .i64 (x0.pos.2 : Nat)] 66)) (w.heap.size + 1) 66 [.int .i64 (x0.kind : Nat), .string ⟨#[99, 104, 97, 110, 110, 101, 108]⟩, .int .i64 (x0.pos.1 : Nat), .int .i64 (x0.pos.2 : Nat)]) := ⟨((Ex.refl w).alloc _).alloc _, (Blk.new w _ _).alloc _, Blk.new' _ (by simp) _ _⟩
  have Hi0 : Hid (∀ w, Calls Tryz.prog 83 #[.agg #[.int .i64 (x0.kind : Nat), .string ⟨#[99, 104, 97, 110, 110, 101, 108]⟩, .int .i64 (x0.pos.1 : Nat), .int .i64 (x0.pos.2 : Nat)], .string ⟨#[40]⟩] w (Ret w (.bool false))) := fun w => by
    rw [HT0.out, ← h0]
    exact rIs_c x0 ⟨#[40]⟩ w
  clear h0
  have Hi1 : Hid (∀ w, Calls Tryz.prog 83 #[.agg #[.int .i64 (x1.kind : Nat), .string TB1, .int .i64 (x1.pos.1 : Nat), .int .i64 (x1.pos.2 : Nat)], .string ⟨#[40]⟩] w (Ret w (.bool true))) := fun w => by
    rw [HT1.out, ← h1]
    exact rIs_c x1 ⟨#[40]⟩ w
  clear h1
  have Hn2 : Hid (∀ w, Calls Tryz.prog 114 #[.agg #[.int .i64 (x2.kind : Nat), .string TB2, .int .i64 (x2.pos.1 : Nat), .int .i64 (x2.pos.2 : Nat)]] w (Ret w (.bool true))) := fun w => by
    rw [HT2.out, ← g2]
    exact rName_c x2 w gl2
  clear g2
  have Hi3 : Hid (∀ w, Calls Tryz.prog 83 #[.agg #[.int .i64 (x3.kind : Nat), .string TB3, .int .i64 (x3.pos.1 : Nat), .int .i64 (x3.pos.2 : Nat)], .string ⟨#[44]⟩] w (Ret w (.bool false))) := fun w => by
    rw [HT3.out, ← h3]
    exact rIs_c x3 ⟨#[44]⟩ w
  clear h3
  have e1 : (((x0.kind : Nat) : Int) == 1) = false := beq_eq_false_iff_ne.2 (by omega)
  have e2 : (x0.kind == 1) = false := beq_eq_false_iff_ne.2 (by omega)
  have e3 : (((x0.kind : Nat) : Int) != 1) = true := by rw [bne_iff_ne]; omega
  have e4 : (x0.kind != 1) = true := by rw [bne_iff_ne]; omega
  have ee1 : (((x0.kind : Nat) : Int) == 2) = true := by rw [beq_iff_eq]; omega
  have ee2 : (x0.kind == 2) = true := by rw [beq_iff_eq]; omega
  have ee3 : (((x0.kind : Nat) : Int) != 2) = false := by unfold bne; rw [ee1]; rfl
  have ee4 : (x0.kind != 2) = false := by unfold bne; rw [ee2]; rfl
  clear hk
  obtain ⟨lb, w00, w01, w02, w03⟩ := word_cells (HW.out.exx (Ex.refl w)) HX0.out
  rw [← HT0.out] at w01
  obtain ⟨lb, w10, w11, w12, w13⟩ := word_cells (HW.out.exx (Ex.refl w)) HX1.out
  rw [← HT1.out] at w11
  obtain ⟨lb, w20, w21, w22, w23⟩ := word_cells (HW.out.exx (Ex.refl w)) HX2.out
  rw [← HT2.out] at w21
  obtain ⟨lb, w30, w31, w32, w33⟩ := word_cells (HW.out.exx (Ex.refl w)) HX3.out
  rw [← HT3.out] at w31
  clear hrw hlen hil hx0 hx1 hx2 hx3
  go_enter Tryz.func84, Tryz.ntmps84
  go_wp2_with fail
  generalize w.heap.size + 1 = nb at *
  refine (Hi0.out _).mono ?_
  rintro e W1 ⟨rfl, hz⟩
  have HS1 : Hid (Ex w W1 ∧ Zero6 W1 w.heap.size ∧ Blk W1 nb 66 [.int .i64 (x0.kind : Nat), .string ⟨#[99, 104, 97, 110, 110, 101, 108]⟩, .int .i64 (x0.pos.1 : Nat), .int .i64 (x0.pos.2 : Nat)]) := ⟨HS0.out.1.trans hz, HS0.out.2.1.ex hz, HS0.out.2.2.ex hz⟩
  clear hz
  clear lb w00 w01 w02 w03 w10 w11 w12 w13 w20 w21 w22 w23 w30 w31 w32 w33
  have rz := HS1.out.2.1
  have lz := rz.lt
  have r0 := rz.cell 0
  have r1 := rz.cell 1
  have r2 := rz.cell 2
  have r3 := rz.cell 3
  have r4 := rz.cell 4
  have r5 := rz.cell 5
  have f0 := rz.frozen 0
  have f1 := rz.frozen 1
  have f2 := rz.frozen 2
  have f3 := rz.frozen 3
  have f4 := rz.frozen 4
  have f5 := rz.frozen 5
  simp only [List.getElem?_cons_zero, List.getElem?_cons_succ] at r0 r1 r2 r3 r4 r5
  have tz := HS1.out.2.2
  have lt := tz.lt
  have t0 := tz.cell 0
  have t1 := tz.cell 1
  have t2 := tz.cell 2
  have t3 := tz.cell 3
  simp only [List.getElem?_cons_zero, List.getElem?_cons_succ] at t0 t1 t2 t3
  clear rz tz
  obtain ⟨lb, w00, w01, w02, w03⟩ := word_cells (HW.out.exx HS1.out.1) HX0.out
  rw [← HT0.out] at w01
  obtain ⟨lb, w10, w11, w12, w13⟩ := word_cells (HW.out.exx HS1.out.1) HX1.out
  rw [← HT1.out] at w11
  obtain ⟨lb, w20, w21, w22, w23⟩ := word_cells (HW.out.exx HS1.out.1) HX2.out
  rw [← HT2.out] at w21
  obtain ⟨lb, w30, w31, w32, w33⟩ := word_cells (HW.out.exx HS1.out.1) HX3.out
  rw [← HT3.out] at w31
  go_wp2_with fail
  refine (Hi1.out _).mono ?_
  rintro e W2 ⟨rfl, hz⟩
  have HS2 : Hid (Ex w W2 ∧ Zero6 W2 w.heap.size ∧ Blk W2 nb 66 [.int .i64 (x0.kind : Nat), .string ⟨#[99, 104, 97, 110, 110, 101, 108]⟩, .int .i64 (x0.pos.1 : Nat), .int .i64 (x0.pos.2 : Nat)]) := ⟨HS1.out.1.trans hz, HS1.out.2.1.ex hz, HS1.out.2.2.ex hz⟩
  clear hz
  clear lz r0 r1 r2 r3 r4 r5 f0 f1 f2 f3 f4 f5 lt t0 t1 t2 t3
  clear lb w00 w01 w02 w03 w10 w11 w12 w13 w20 w21 w22 w23 w30 w31 w32 w33
  have rz := HS2.out.2.1
  have lz := rz.lt
  have r0 := rz.cell 0
  have r1 := rz.cell 1
  have r2 := rz.cell 2
  have r3 := rz.cell 3
  have r4 := rz.cell 4
  have r5 := rz.cell 5
  have f0 := rz.frozen 0
  have f1 := rz.frozen 1
  have f2 := rz.frozen 2
  have f3 := rz.frozen 3
  have f4 := rz.frozen 4
  have f5 := rz.frozen 5
  simp only [List.getElem?_cons_zero, List.getElem?_cons_succ] at r0 r1 r2 r3 r4 r5
  have tz := HS2.out.2.2
  have lt := tz.lt
  have t0 := tz.cell 0
  have t1 := tz.cell 1
  have t2 := tz.cell 2
  have t3 := tz.cell 3
  simp only [List.getElem?_cons_zero, List.getElem?_cons_succ] at t0 t1 t2 t3
  clear rz tz
  obtain ⟨lb, w00, w01, w02, w03⟩ := word_cells (HW.out.exx HS2.out.1) HX0.out
  rw [← HT0.out] at w01
  obtain ⟨lb, w10, w11, w12, w13⟩ := word_cells (HW.out.exx HS2.out.1) HX1.out
  rw [← HT1.out] at w11
  obtain ⟨lb, w20, w21, w22, w23⟩ := word_cells (HW.out.exx HS2.out.1) HX2.out
  rw [← HT2.out] at w21
  obtain ⟨lb, w30, w31, w32, w33⟩ := word_cells (HW.out.exx HS2.out.1) HX3.out
  rw [← HT3.out] at w31
  go_wp2_with fail
  refine (Hn2.out _).mono ?_
  rintro e W3 ⟨rfl, hz⟩
  have HS3 : Hid (Ex w W3 ∧ Zero6 W3 w.heap.size ∧ Blk W3 nb 66 [.int .i64 (x0.kind : Nat), .string ⟨#[99, 104, 97, 110, 110, 101, 108]⟩, .int .i64 (x0.pos.1 : Nat), .int .i64 (x0.pos.2 : Nat)]) := ⟨HS2.out.1.trans hz, HS2.out.2.1.ex hz, HS2.out.2.2.ex hz⟩
  clear hz
  clear lz r0 r1 r2 r3 r4 r5 f0 f1 f2 f3 f4 f5 lt t0 t1 t2 t3
  clear lb w00 w01 w02 w03 w10 w11 w12 w13 w20 w21 w22 w23 w30 w31 w32 w33
  have rz := HS3.out.2.1
  have lz := rz.lt
  have r0 := rz.cell 0
  have r1 := rz.cell 1
  have r2 := rz.cell 2
  have r3 := rz.cell 3
  have r4 := rz.cell 4
  have r5 := rz.cell 5
  have f0 := rz.frozen 0
  have f1 := rz.frozen 1
  have f2 := rz.frozen 2
  have f3 := rz.frozen 3
  have f4 := rz.frozen 4
  have f5 := rz.frozen 5
  simp only [List.getElem?_cons_zero, List.getElem?_cons_succ] at r0 r1 r2 r3 r4 r5
  have tz := HS3.out.2.2
  have lt := tz.lt
  have t0 := tz.cell 0
  have t1 := tz.cell 1
  have t2 := tz.cell 2
  have t3 := tz.cell 3
  simp only [List.getElem?_cons_zero, List.getElem?_cons_succ] at t0 t1 t2 t3
  clear rz tz
  obtain ⟨lb, w00, w01, w02, w03⟩ := word_cells (HW.out.exx HS3.out.1) HX0.out
  rw [← HT0.out] at w01
  obtain ⟨lb, w10, w11, w12, w13⟩ := word_cells (HW.out.exx HS3.out.1) HX1.out
  rw [← HT1.out] at w11
  obtain ⟨lb, w20, w21, w22, w23⟩ := word_cells (HW.out.exx HS3.out.1) HX2.out
  rw [← HT2.out] at w21
  obtain ⟨lb, w30, w31, w32, w33⟩ := word_cells (HW.out.exx HS3.out.1) HX3.out
  rw [← HT3.out] at w31
  go_wp2_with fail
  refine (Hi3.out _).mono ?_
  rintro e W4 ⟨rfl, hz⟩
  have HS4 : Hid (Ex w W4 ∧ Zero6 W4 w.heap.size ∧ Blk W4 nb 66 [.int .i64 (x0.kind : Nat), .string ⟨#[99, 104, 97, 110, 110, 101, 108]⟩, .int .i64 (x0.pos.1 : Nat), .int .i64 (x0.pos.2 : Nat)]) := ⟨HS3.out.1.trans hz, HS3.out.2.1.ex hz, HS3.out.2.2.ex hz⟩
  clear hz
  clear lz r0 r1 r2 r3 r4 r5 f0 f1 f2 f3 f4 f5 lt t0 t1 t2 t3
  clear lb w00 w01 w02 w03 w10 w11 w12 w13 w20 w21 w22 w23 w30 w31 w32 w33
  have rz := HS4.out.2.1
  have lz := rz.lt
  have r0 := rz.cell 0
  have r1 := rz.cell 1
  have r2 := rz.cell 2
  have r3 := rz.cell 3
  have r4 := rz.cell 4
  have r5 := rz.cell 5
  have f0 := rz.frozen 0
  have f1 := rz.frozen 1
  have f2 := rz.frozen 2
  have f3 := rz.frozen 3
  have f4 := rz.frozen 4
  have f5 := rz.frozen 5
  simp only [List.getElem?_cons_zero, List.getElem?_cons_succ] at r0 r1 r2 r3 r4 r5
  have tz := HS4.out.2.2
  have lt := tz.lt
  have t0 := tz.cell 0
  have t1 := tz.cell 1
  have t2 := tz.cell 2
  have t3 := tz.cell 3
  simp only [List.getElem?_cons_zero, List.getElem?_cons_succ] at t0 t1 t2 t3
  clear rz tz
  obtain ⟨lb, w00, w01, w02, w03⟩ := word_cells (HW.out.exx HS4.out.1) HX0.out
  rw [← HT0.out] at w01
  obtain ⟨lb, w10, w11, w12, w13⟩ := word_cells (HW.out.exx HS4.out.1) HX1.out
  rw [← HT1.out] at w11
  obtain ⟨lb, w20, w21, w22, w23⟩ := word_cells (HW.out.exx HS4.out.1) HX2.out
  rw [← HT2.out] at w21
  obtain ⟨lb, w30, w31, w32, w33⟩ := word_cells (HW.out.exx HS4.out.1) HX3.out
  rw [← HT3.out] at w31
  go_wp2_with fail
  refine bodyPost_ret (results_par rfl rfl rfl rfl (blk6 HS4.out.2.1 _ _ _ _ _ _)) rfl ?_
  exact ⟨rfl, ex6 (Nat.le_refl _) HS4.out.1 _ _ _ _ _ _⟩
set_option maxRecDepth 100000 in
set_option maxHeartbeats 3200000 in
theorem at_channel4 (ws : List Wd) (b o c i : Nat) (x0 x1 x2 x3 x4 : Wd) (w : World) (hrw : Rw w b o (wdsV ws)) (hlen : ws.length ≤ 100000) (hx0 : ws[i]? = some x0) (hx1 : ws[i + 1]? = some x1) (hx2 : ws[i + 2]? = some x2) (hx3 : ws[i + 3]? = some x3) (hx4 : ws[i + 4]? = some x4) (hk : x0.kind = 2) (htx : x0.text = [99, 104, 97, 110, 110, 101, 108]) (h0 : isS x0 [40] = false) (h1 : isS x1 [40] = true) (g2 : nmS x2 = true) (gl2 : x2.text.length ≤ 16384) (h3 : isS x3 [44] = true) (g4 : nmS x4 = false) (gl4 : x4.text.length ≤ 16384) :
    Calls Tryz.prog 84 #[.slice (some ⟨b, o, none⟩) ws.length c, .int .i64 (i : Nat)] w (Ret w (triV (0) (0) (⟨#[]⟩) (i + 4) false)) := by
  have HW := Lib.hid hrw
  have HX0 := Lib.hid hx0
  have HX1 := Lib.hid hx1
  have HX2 := Lib.hid hx2
  have HX3 := Lib.hid hx3
  have HX4 := Lib.hid hx4
  have hil : i + 4 < ws.length := (List.getElem?_eq_some_iff.1 hx4).1
  have m0 : (i : Int) < (ws.length : Int) := by omega
  have m1 : (i : Int) + 1 < (ws.length : Int) := by omega
  have m2 : (i : Int) + 2 < (ws.length : Int) := by omega
  have m3 : (i : Int) + 3 < (ws.length : Int) := by omega
  have m4 : (i : Int) + 4 < (ws.length : Int) := by omega
  have mm : (0 : Int) ≤ (i : Int) := by omega
  have mw : (ws.length : Int) ≤ 100000 := by omega
  have HT0 : Hid ((⟨#[99, 104, 97, 110, 110, 101, 108]⟩ : ByteArray) = ⟨x0.text.toArray⟩) := by rw [htx]; exact Lib.hid rfl
  obtain ⟨TB1, hTB⟩ : ∃ T : ByteArray, T = ⟨x1.text.toArray⟩ := ⟨_, rfl⟩
  have HT1 := Lib.hid hTB
  clear hTB
  obtain ⟨TB2, hTB⟩ : ∃ T : ByteArray, T = ⟨x2.text.toArray⟩ := ⟨_, rfl⟩
  have HT2 := Lib.hid hTB
  clear hTB
  obtain ⟨TB3, hTB⟩ : ∃ T : ByteArray, T = ⟨x3.text.toArray⟩ := ⟨_, rfl⟩
  have HT3 := Lib.hid hTB
  clear hTB
  obtain ⟨TB4, hTB⟩ : ∃ T : ByteArray, T = ⟨x4.text.toArray⟩ := ⟨_, rfl⟩
  have HT4 := Lib.hid hTB
  clear hTB
  have HS0 : Hid (Ex w ((w.alloc (.cells #[.int .i64 0, .int .i64 0, .int .i64 0, .int .i64 0, .string ⟨#[]⟩, .slice none 0 0] 24)).alloc (.cells #[.int .i64 (x0.kind : Nat), .string ⟨#[99, 104, 97, 110, 110, 101, 108]⟩, .int .i64 (x0.pos.1 : Nat), .int .i64 (x0.pos.2 : Nat)] 66)) ∧ Zero6 ((w.alloc (.cells #[.int .i64 0, .int .i64 0, .int .i64 0, .int .i64 0, .string ⟨#[]⟩, .slice none 0 0] 24)).alloc (.cells #[.int .i64 (x0.kind : Nat), .string ⟨#[99, 104, 97, 110, 110, 101, 108]⟩, .int .i64 (x0.pos.1 : Nat), .int .i64 (x0.pos.2 : Nat)] 66)) w.heap.size ∧ Blk ((w.alloc (.cells #[.int .i64 0, .int .i64 0, .int .i64 0, .int .i64 0, .string ⟨#[]⟩, .slice none 0 0] 24)).alloc (.cells #[.int .i64 (x0.kind : Nat), .string ⟨#[99, 104, 97, 110, 110, 101, 108]⟩, .int .i64 (x0.pos.1 : Nat), .int .i64 (x0.pos.2 : Nat)] 66)) (w.heap.size + 1) 66 [.int .i64 (x0.kind : Nat), .string ⟨#[99, 104, 97, 110, 110, 101, 108]⟩, .int .i64 (x0.pos.1 : Nat), .int .i64 (x0.pos.2 : Nat)]) := ⟨((Ex.refl w).alloc _).alloc _, (Blk.new w _ _).alloc _, Blk.new' _ (by simp) _ _⟩
  have Hi0 : Hid (∀ w, Calls Tryz.prog 83 #[.agg #[.int .i64 (x0.kind : Nat), .string ⟨#[99, 104, 97, 110, 110, 101, 108]⟩, .int .i64 (x0.pos.1 : Nat), .int .i64 (x0.pos.2 : Nat)], .string ⟨#[40]⟩] w (Ret w (.bool false))) := fun w => by
    rw [HT0.out, ← h0]
    exact rIs_c x0 ⟨#[40]⟩ w
  clear h0
  have Hi1 : Hid (∀ w, Calls Tryz.prog 83 #[.agg #[.int .i64 (x1.kind : Nat), .string TB1, .int .i64 (x1.pos.1 : Nat), .int .i64 (x1.pos.2 : Nat)], .string ⟨#[40]⟩] w (Ret w (.bool true))) := fun w => by
    rw [HT1.out, ← h1]
    exact rIs_c x1 ⟨#[40]⟩ w
  clear h1
  have Hn2 : Hid (∀ w, Calls Tryz.prog 114 #[.agg #[.int .i64 (x2.kind : Nat), .string TB2, .int .i64 (x2.pos.1 : Nat), .int .i64 (x2.pos.2 : Nat)]] w (Ret w (.bool true))) := fun w => by
    rw [HT2.out, ← g2]
    exact rName_c x2 w gl2
  clear g2
  have Hi3 : Hid (∀ w, Calls Tryz.prog 83 #[.agg #[.int .i64 (x3.kind : Nat), .string TB3, .int .i64 (x3.pos.1 : Nat), .int .i64 (x3.pos.2 : Nat)], .string ⟨#[44]⟩] w (Ret w (.bool true))) := fun w => by
    rw [HT3.out, ← h3]
    exact rIs_c x3 ⟨#[44]⟩ w
  clear h3
  have Hn4 : Hid (∀ w, Calls Tryz.prog 114 #[.agg #[.int .i64 (x4.kind : Nat), .string TB4, .int .i64 (x4.pos.1 : Nat), .int .i64 (x4.pos.2 : Nat)]] w (Ret w (.bool false))) := fun w => by
    rw [HT4.out, ← g4]
    exact rName_c x4 w gl4
  clear g4
  have e1 : (((x0.kind : Nat) : Int) == 1) = false := beq_eq_false_iff_ne.2 (by omega)
  have e2 : (x0.kind == 1) = false := beq_eq_false_iff_ne.2 (by omega)
  have e3 : (((x0.kind : Nat) : Int) != 1) = true := by rw [bne_iff_ne]; omega
  have e4 : (x0.kind != 1) = true := by rw [bne_iff_ne]; omega
  have ee1 : (((x0.kind : Nat) : Int) == 2) = true := by rw [beq_iff_eq]; omega
  have ee2 : (x0.kind == 2) = true := by rw [beq_iff_eq]; omega
  have ee3 : (((x0.kind : Nat) : Int) != 2) = false := by unfold bne; rw [ee1]; rfl
  have ee4 : (x0.kind != 2) = false := by unfold bne; rw [ee2]; rfl
  clear hk
  obtain ⟨lb, w00, w01, w02, w03⟩ := word_cells (HW.out.exx (Ex.refl w)) HX0.out
  rw [← HT0.out] at w01
  obtain ⟨lb, w10, w11, w12, w13⟩ := word_cells (HW.out.exx (Ex.refl w)) HX1.out
  rw [← HT1.out] at w11
  obtain ⟨lb, w20, w21, w22, w23⟩ := word_cells (HW.out.exx (Ex.refl w)) HX2.out
  rw [← HT2.out] at w21
  obtain ⟨lb, w30, w31, w32, w33⟩ := word_cells (HW.out.exx (Ex.refl w)) HX3.out
  rw [← HT3.out] at w31
  obtain ⟨lb, w40, w41, w42, w43⟩ := word_cells (HW.out.exx (Ex.refl w)) HX4.out
  rw [← HT4.out] at w41
  clear hrw hlen hil hx0 hx1 hx2 hx3 hx4
  go_enter Tryz.func84, Tryz.ntmps84
  go_wp2_with fail
  generalize w.heap.size + 1 = nb at *
  refine (Hi0.out _).mono ?_
  rintro e W1 ⟨rfl, hz⟩
  have HS1 : Hid (Ex w W1 ∧ Zero6 W1 w.heap.size ∧ Blk W1 nb 66 [.int .i64 (x0.kind : Nat), .string ⟨#[99, 104, 97, 110, 110, 101, 108]⟩, .int .i64 (x0.pos.1 : Nat), .int .i64 (x0.pos.2 : Nat)]) := ⟨HS0.out.1.trans hz, HS0.out.2.1.ex hz, HS0.out.2.2.ex hz⟩
  clear hz
  clear lb w00 w01 w02 w03 w10 w11 w12 w13 w20 w21 w22 w23 w30 w31 w32 w33 w40 w41 w42 w43
  have rz := HS1.out.2.1
  have lz := rz.lt
  have r0 := rz.cell 0
  have r1 := rz.cell 1
  have r2 := rz.cell 2
  have r3 := rz.cell 3
  have r4 := rz.cell 4
  have r5 := rz.cell 5
  have f0 := rz.frozen 0
  have f1 := rz.frozen 1
  have f2 := rz.frozen 2
  have f3 := rz.frozen 3
  have f4 := rz.frozen 4
  have f5 := rz.frozen 5
  simp only [List.getElem?_cons_zero, List.getElem?_cons_succ] at r0 r1 r2 r3 r4 r5
  have tz := HS1.out.2.2
  have lt := tz.lt
  have t0 := tz.cell 0
  have t1 := tz.cell 1
  have t2 := tz.cell 2
  have t3 := tz.cell 3
  simp only [List.getElem?_cons_zero, List.getElem?_cons_succ] at t0 t1 t2 t3
  clear rz tz
  obtain ⟨lb, w00, w01, w02, w03⟩ := word_cells (HW.out.exx HS1.out.1) HX0.out
  rw [← HT0.out] at w01
  obtain ⟨lb, w10, w11, w12, w13⟩ := word_cells (HW.out.exx HS1.out.1) HX1.out
  rw [← HT1.out] at w11
  obtain ⟨lb, w20, w21, w22, w23⟩ := word_cells (HW.out.exx HS1.out.1) HX2.out
  rw [← HT2.out] at w21
  obtain ⟨lb, w30, w31, w32, w33⟩ := word_cells (HW.out.exx HS1.out.1) HX3.out
  rw [← HT3.out] at w31
  obtain ⟨lb, w40, w41, w42, w43⟩ := word_cells (HW.out.exx HS1.out.1) HX4.out
  rw [← HT4.out] at w41
  go_wp2_with fail
  refine (Hi1.out _).mono ?_
  rintro e W2 ⟨rfl, hz⟩
  have HS2 : Hid (Ex w W2 ∧ Zero6 W2 w.heap.size ∧ Blk W2 nb 66 [.int .i64 (x0.kind : Nat), .string ⟨#[99, 104, 97, 110, 110, 101, 108]⟩, .int .i64 (x0.pos.1 : Nat), .int .i64 (x0.pos.2 : Nat)]) := ⟨HS1.out.1.trans hz, HS1.out.2.1.ex hz, HS1.out.2.2.ex hz⟩
  clear hz
  clear lz r0 r1 r2 r3 r4 r5 f0 f1 f2 f3 f4 f5 lt t0 t1 t2 t3
  clear lb w00 w01 w02 w03 w10 w11 w12 w13 w20 w21 w22 w23 w30 w31 w32 w33 w40 w41 w42 w43
  have rz := HS2.out.2.1
  have lz := rz.lt
  have r0 := rz.cell 0
  have r1 := rz.cell 1
  have r2 := rz.cell 2
  have r3 := rz.cell 3
  have r4 := rz.cell 4
  have r5 := rz.cell 5
  have f0 := rz.frozen 0
  have f1 := rz.frozen 1
  have f2 := rz.frozen 2
  have f3 := rz.frozen 3
  have f4 := rz.frozen 4
  have f5 := rz.frozen 5
  simp only [List.getElem?_cons_zero, List.getElem?_cons_succ] at r0 r1 r2 r3 r4 r5
  have tz := HS2.out.2.2
  have lt := tz.lt
  have t0 := tz.cell 0
  have t1 := tz.cell 1
  have t2 := tz.cell 2
  have t3 := tz.cell 3
  simp only [List.getElem?_cons_zero, List.getElem?_cons_succ] at t0 t1 t2 t3
  clear rz tz
  obtain ⟨lb, w00, w01, w02, w03⟩ := word_cells (HW.out.exx HS2.out.1) HX0.out
  rw [← HT0.out] at w01
  obtain ⟨lb, w10, w11, w12, w13⟩ := word_cells (HW.out.exx HS2.out.1) HX1.out
  rw [← HT1.out] at w11
  obtain ⟨lb, w20, w21, w22, w23⟩ := word_cells (HW.out.exx HS2.out.1) HX2.out
  rw [← HT2.out] at w21
  obtain ⟨lb, w30, w31, w32, w33⟩ := word_cells (HW.out.exx HS2.out.1) HX3.out
  rw [← HT3.out] at w31
  obtain ⟨lb, w40, w41, w42, w43⟩ := word_cells (HW.out.exx HS2.out.1) HX4.out
  rw [← HT4.out] at w41
  go_wp2_with fail
  refine (Hn2.out _).mono ?_
  rintro e W3 ⟨rfl, hz⟩
  have HS3 : Hid (Ex w W3 ∧ Zero6 W3 w.heap.size ∧ Blk W3 nb 66 [.int .i64 (x0.kind : Nat), .string ⟨#[99, 104, 97, 110, 110, 101, 108]⟩, .int .i64 (x0.pos.1 : Nat), .int .i64 (x0.pos.2 : Nat)]) := ⟨HS2.out.1.trans hz, HS2.out.2.1.ex hz, HS2.out.2.2.ex hz⟩
  clear hz
  clear lz r0 r1 r2 r3 r4 r5 f0 f1 f2 f3 f4 f5 lt t0 t1 t2 t3
  clear lb w00 w01 w02 w03 w10 w11 w12 w13 w20 w21 w22 w23 w30 w31 w32 w33 w40 w41 w42 w43
  have rz := HS3.out.2.1
  have lz := rz.lt
  have r0 := rz.cell 0
  have r1 := rz.cell 1
  have r2 := rz.cell 2
  have r3 := rz.cell 3
  have r4 := rz.cell 4
  have r5 := rz.cell 5
  have f0 := rz.frozen 0
  have f1 := rz.frozen 1
  have f2 := rz.frozen 2
  have f3 := rz.frozen 3
  have f4 := rz.frozen 4
  have f5 := rz.frozen 5
  simp only [List.getElem?_cons_zero, List.getElem?_cons_succ] at r0 r1 r2 r3 r4 r5
  have tz := HS3.out.2.2
  have lt := tz.lt
  have t0 := tz.cell 0
  have t1 := tz.cell 1
  have t2 := tz.cell 2
  have t3 := tz.cell 3
  simp only [List.getElem?_cons_zero, List.getElem?_cons_succ] at t0 t1 t2 t3
  clear rz tz
  obtain ⟨lb, w00, w01, w02, w03⟩ := word_cells (HW.out.exx HS3.out.1) HX0.out
  rw [← HT0.out] at w01
  obtain ⟨lb, w10, w11, w12, w13⟩ := word_cells (HW.out.exx HS3.out.1) HX1.out
  rw [← HT1.out] at w11
  obtain ⟨lb, w20, w21, w22, w23⟩ := word_cells (HW.out.exx HS3.out.1) HX2.out
  rw [← HT2.out] at w21
  obtain ⟨lb, w30, w31, w32, w33⟩ := word_cells (HW.out.exx HS3.out.1) HX3.out
  rw [← HT3.out] at w31
  obtain ⟨lb, w40, w41, w42, w43⟩ := word_cells (HW.out.exx HS3.out.1) HX4.out
  rw [← HT4.out] at w41
  go_wp2_with fail
  refine (Hi3.out _).mono ?_
  rintro e W4 ⟨rfl, hz⟩
  have HS4 : Hid (Ex w W4 ∧ Zero6 W4 w.heap.size ∧ Blk W4 nb 66 [.int .i64 (x0.kind : Nat), .string ⟨#[99, 104, 97, 110, 110, 101, 108]⟩, .int .i64 (x0.pos.1 : Nat), .int .i64 (x0.pos.2 : Nat)]) := ⟨HS3.out.1.trans hz, HS3.out.2.1.ex hz, HS3.out.2.2.ex hz⟩
  clear hz
  clear lz r0 r1 r2 r3 r4 r5 f0 f1 f2 f3 f4 f5 lt t0 t1 t2 t3
  clear lb w00 w01 w02 w03 w10 w11 w12 w13 w20 w21 w22 w23 w30 w31 w32 w33 w40 w41 w42 w43
  have rz := HS4.out.2.1
  have lz := rz.lt
  have r0 := rz.cell 0
  have r1 := rz.cell 1
  have r2 := rz.cell 2
  have r3 := rz.cell 3
  have r4 := rz.cell 4
  have r5 := rz.cell 5
  have f0 := rz.frozen 0
  have f1 := rz.frozen 1
  have f2 := rz.frozen 2
  have f3 := rz.frozen 3
  have f4 := rz.frozen 4
  have f5 := rz.frozen 5
  simp only [List.getElem?_cons_zero, List.getElem?_cons_succ] at r0 r1 r2 r3 r4 r5
  have tz := HS4.out.2.2
  have lt := tz.lt
  have t0 := tz.cell 0
  have t1 := tz.cell 1
  have t2 := tz.cell 2
  have t3 := tz.cell 3
  simp only [List.getElem?_cons_zero, List.getElem?_cons_succ] at t0 t1 t2 t3
  clear rz tz
  obtain ⟨lb, w00, w01, w02, w03⟩ := word_cells (HW.out.exx HS4.out.1) HX0.out
  rw [← HT0.out] at w01
  obtain ⟨lb, w10, w11, w12, w13⟩ := word_cells (HW.out.exx HS4.out.1) HX1.out
  rw [← HT1.out] at w11
  obtain ⟨lb, w20, w21, w22, w23⟩ := word_cells (HW.out.exx HS4.out.1) HX2.out
  rw [← HT2.out] at w21
  obtain ⟨lb, w30, w31, w32, w33⟩ := word_cells (HW.out.exx HS4.out.1) HX3.out
  rw [← HT3.out] at w31
  obtain ⟨lb, w40, w41, w42, w43⟩ := word_cells (HW.out.exx HS4.out.1) HX4.out
  rw [← HT4.out] at w41
  go_wp2_with fail
  refine (Hn4.out _).mono ?_
  rintro e W5 ⟨rfl, hz⟩
  have HS5 : Hid (Ex w W5 ∧ Zero6 W5 w.heap.size ∧ Blk W5 nb 66 [.int .i64 (x0.kind : Nat), .string ⟨#[99, 104, 97, 110, 110, 101, 108]⟩, .int .i64 (x0.pos.1 : Nat), .int .i64 (x0.pos.2 : Nat)]) := ⟨HS4.out.1.trans hz, HS4.out.2.1.ex hz, HS4.out.2.2.ex hz⟩
  clear hz
  clear lz r0 r1 r2 r3 r4 r5 f0 f1 f2 f3 f4 f5 lt t0 t1 t2 t3
  clear lb w00 w01 w02 w03 w10 w11 w12 w13 w20 w21 w22 w23 w30 w31 w32 w33 w40 w41 w42 w43
  have rz := HS5.out.2.1
  have lz := rz.lt
  have r0 := rz.cell 0
  have r1 := rz.cell 1
  have r2 := rz.cell 2
  have r3 := rz.cell 3
  have r4 := rz.cell 4
  have r5 := rz.cell 5
  have f0 := rz.frozen 0
  have f1 := rz.frozen 1
  have f2 := rz.frozen 2
  have f3 := rz.frozen 3
  have f4 := rz.frozen 4
  have f5 := rz.frozen 5
  simp only [List.getElem?_cons_zero, List.getElem?_cons_succ] at r0 r1 r2 r3 r4 r5
  have tz := HS5.out.2.2
  have lt := tz.lt
  have t0 := tz.cell 0
  have t1 := tz.cell 1
  have t2 := tz.cell 2
  have t3 := tz.cell 3
  simp only [List.getElem?_cons_zero, List.getElem?_cons_succ] at t0 t1 t2 t3
  clear rz tz
  obtain ⟨lb, w00, w01, w02, w03⟩ := word_cells (HW.out.exx HS5.out.1) HX0.out
  rw [← HT0.out] at w01
  obtain ⟨lb, w10, w11, w12, w13⟩ := word_cells (HW.out.exx HS5.out.1) HX1.out
  rw [← HT1.out] at w11
  obtain ⟨lb, w20, w21, w22, w23⟩ := word_cells (HW.out.exx HS5.out.1) HX2.out
  rw [← HT2.out] at w21
  obtain ⟨lb, w30, w31, w32, w33⟩ := word_cells (HW.out.exx HS5.out.1) HX3.out
  rw [← HT3.out] at w31
  obtain ⟨lb, w40, w41, w42, w43⟩ := word_cells (HW.out.exx HS5.out.1) HX4.out
  rw [← HT4.out] at w41
  go_wp2_with fail
  refine bodyPost_ret (results_par rfl rfl rfl rfl (blk6 HS5.out.2.1 _ _ _ _ _ _)) rfl ?_
  exact ⟨rfl, ex6 (Nat.le_refl _) HS5.out.1 _ _ _ _ _ _⟩
set_option maxRecDepth 100000 in
set_option maxHeartbeats 3200000 in
theorem at_channel5 (ws : List Wd) (b o c i : Nat) (x0 x1 x2 x3 x4 x5 : Wd) (w : World) (hrw : Rw w b o (wdsV ws)) (hlen : ws.length ≤ 100000) (hx0 : ws[i]? = some x0) (hx1 : ws[i + 1]? = some x1) (hx2 : ws[i + 2]? = some x2) (hx3 : ws[i + 3]? = some x3) (hx4 : ws[i + 4]? = some x4) (hx5 : ws[i + 5]? = some x5) (hk : x0.kind = 2) (htx : x0.text = [99, 104, 97, 110, 110, 101, 108]) (h0 : isS x0 [40] = false) (h1 : isS x1 [40] = true) (g2 : nmS x2 = true) (gl2 : x2.text.length ≤ 16384) (h3 : isS x3 [44] = true) (g4 : nmS x4 = true) (gl4 : x4.text.length ≤ 16384) (h5 : isS x5 [41] = false) :
    Calls Tryz.prog 84 #[.slice (some ⟨b, o, none⟩) ws.length c, .int .i64 (i : Nat)] w (Ret w (triV (0) (0) (⟨#[]⟩) (i + 5) false)) := by
  have HW := Lib.hid hrw
  have HX0 := Lib.hid hx0
  have HX1 := Lib.hid hx1
  have HX2 := Lib.hid hx2
  have HX3 := Lib.hid hx3
  have HX4 := Lib.hid hx4
  have HX5 := Lib.hid hx5
  have hil : i + 5 < ws.length := (List.getElem?_eq_some_iff.1 hx5).1
  have m0 : (i : Int) < (ws.length : Int) := by omega
  have m1 : (i : Int) + 1 < (ws.length : Int) := by omega
  have m2 : (i : Int) + 2 < (ws.length : Int) := by omega
  have m3 : (i : Int) + 3 < (ws.length : Int) := by omega
  have m4 : (i : Int) + 4 < (ws.length : Int) := by omega
  have m5 : (i : Int) + 5 < (ws.length : Int) := by omega
  have mm : (0 : Int) ≤ (i : Int) := by omega
  have mw : (ws.length : Int) ≤ 100000 := by omega
  have HT0 : Hid ((⟨#[99, 104, 97, 110, 110, 101, 108]⟩ : ByteArray) = ⟨x0.text.toArray⟩) := by rw [htx]; exact Lib.hid rfl
  obtain ⟨TB1, hTB⟩ : ∃ T : ByteArray, T = ⟨x1.text.toArray⟩ := ⟨_, rfl⟩
  have HT1 := Lib.hid hTB
  clear hTB
  obtain ⟨TB2, hTB⟩ : ∃ T : ByteArray, T = ⟨x2.text.toArray⟩ := ⟨_, rfl⟩
  have HT2 := Lib.hid hTB
  clear hTB
  obtain ⟨TB3, hTB⟩ : ∃ T : ByteArray, T = ⟨x3.text.toArray⟩ := ⟨_, rfl⟩
  have HT3 := Lib.hid hTB
  clear hTB
  obtain ⟨TB4, hTB⟩ : ∃ T : ByteArray, T = ⟨x4.text.toArray⟩ := ⟨_, rfl⟩
  have HT4 := Lib.hid hTB
  clear hTB
  obtain ⟨TB5, hTB⟩ : ∃ T : ByteArray, T = ⟨x5.text.toArray⟩ := ⟨_, rfl⟩
  have HT5 := Lib.hid hTB
  clear hTB
  have HS0 : Hid (Ex w ((w.alloc (.cells #[.int .i64 0, .int .i64 0, .int .i64 0, .int .i64 0, .string ⟨#[]⟩, .slice none 0 0] 24)).alloc (.cells #[.int .i64 (x0.kind : Nat), .string ⟨#[99, 104, 97, 110, 110, 101, 108]⟩, .int .i64 (x0.pos.1 : Nat), .int .i64 (x0.pos.2 : Nat)] 66)) ∧ Zero6 ((w.alloc (.cells #[.int .i64 0, .int .i64 0, .int .i64 0, .int .i64 0, .string ⟨#[]⟩, .slice none 0 0] 24)).alloc (.cells #[.int .i64 (x0.kind : Nat), .string ⟨#[99, 104, 97, 110, 110, 101, 108]⟩, .int .i64 (x0.pos.1 : Nat), .int .i64 (x0.pos.2 : Nat)] 66)) w.heap.size ∧ Blk ((w.alloc (.cells #[.int .i64 0, .int .i64 0, .int .i64 0, .int .i64 0, .string ⟨#[]⟩, .slice none 0 0] 24)).alloc (.cells #[.int .i64 (x0.kind : Nat), .string ⟨#[99, 104, 97, 110, 110, 101, 108]⟩, .int .i64 (x0.pos.1 : Nat), .int .i64 (x0.pos.2 : Nat)] 66)) (w.heap.size + 1) 66 [.int .i64 (x0.kind : Nat), .string ⟨#[99, 104, 97, 110, 110, 101, 108]⟩, .int .i64 (x0.pos.1 : Nat), .int .i64 (x0.pos.2 : Nat)]) := ⟨((Ex.refl w).alloc _).alloc _, (Blk.new w _ _).alloc _, Blk.new' _ (by simp) _ _⟩
  have Hi0 : Hid (∀ w, Calls Tryz.prog 83 #[.agg #[.int .i64 (x0.kind : Nat), .string ⟨#[99, 104, 97, 110, 110, 101, 108]⟩, .int .i64 (x0.pos.1 : Nat), .int .i64 (x0.pos.2 : Nat)], .string ⟨#[40]⟩] w (Ret w (.bool false))) := fun w => by
    rw [HT0.out, ← h0]
    exact rIs_c x0 ⟨#[40]⟩ w
  clear h0
  have Hi1 : Hid (∀ w, Calls Tryz.prog 83 #[.agg #[.int .i64 (x1.kind : Nat), .string TB1, .int .i64 (x1.pos.1 : Nat), .int .i64 (x1.pos.2 : Nat)], .string ⟨#[40]⟩] w (Ret w (.bool true))) := fun w => by
    rw [HT1.out, ← h1]
    exact rIs_c x1 ⟨#[40]⟩ w
  clear h1
  have Hn2 : Hid (∀ w, Calls Tryz.prog 114 #[.agg #[.int .i64 (x2.kind : Nat), .string TB2, .int .i64 (x2.pos.1 : Nat), .int .i64 (x2.pos.2 : Nat)]] w (Ret w (.bool true))) := fun w => by
    rw [HT2.out, ← g2]
    exact rName_c x2 w gl2
  clear g2
  have Hi3 : Hid (∀ w, Calls Tryz.prog 83 #[.agg #[.int .i64 (x3.kind : Nat), .string TB3, .int .i64 (x3.pos.1 : Nat), .int .i64 (x3.pos.2 : Nat)], .string ⟨#[44]⟩] w (Ret w (.bool true))) := fun w => by
    rw [HT3.out, ← h3]
    exact rIs_c x3 ⟨#[44]⟩ w
  clear h3
  have Hn4 : Hid (∀ w, Calls Tryz.prog 114 #[.agg #[.int .i64 (x4.kind : Nat), .string TB4, .int .i64 (x4.pos.1 : Nat), .int .i64 (x4.pos.2 : Nat)]] w (Ret w (.bool true))) := fun w => by
    rw [HT4.out, ← g4]
    exact rName_c x4 w gl4
  clear g4
  have Hi5 : Hid (∀ w, Calls Tryz.prog 83 #[.agg #[.int .i64 (x5.kind : Nat), .string TB5, .int .i64 (x5.pos.1 : Nat), .int .i64 (x5.pos.2 : Nat)], .string ⟨#[41]⟩] w (Ret w (.bool false))) := fun w => by
    rw [HT5.out, ← h5]
    exact rIs_c x5 ⟨#[41]⟩ w
  clear h5
  have e1 : (((x0.kind : Nat) : Int) == 1) = false := beq_eq_false_iff_ne.2 (by omega)
  have e2 : (x0.kind == 1) = false := beq_eq_false_iff_ne.2 (by omega)
  have e3 : (((x0.kind : Nat) : Int) != 1) = true := by rw [bne_iff_ne]; omega
  have e4 : (x0.kind != 1) = true := by rw [bne_iff_ne]; omega
  have ee1 : (((x0.kind : Nat) : Int) == 2) = true := by rw [beq_iff_eq]; omega
  have ee2 : (x0.kind == 2) = true := by rw [beq_iff_eq]; omega
  have ee3 : (((x0.kind : Nat) : Int) != 2) = false := by unfold bne; rw [ee1]; rfl
  have ee4 : (x0.kind != 2) = false := by unfold bne; rw [ee2]; rfl
  clear hk
  obtain ⟨lb, w00, w01, w02, w03⟩ := word_cells (HW.out.exx (Ex.refl w)) HX0.out
  rw [← HT0.out] at w01
  obtain ⟨lb, w10, w11, w12, w13⟩ := word_cells (HW.out.exx (Ex.refl w)) HX1.out
  rw [← HT1.out] at w11
  obtain ⟨lb, w20, w21, w22, w23⟩ := word_cells (HW.out.exx (Ex.refl w)) HX2.out
  rw [← HT2.out] at w21
  obtain ⟨lb, w30, w31, w32, w33⟩ := word_cells (HW.out.exx (Ex.refl w)) HX3.out
  rw [← HT3.out] at w31
  obtain ⟨lb, w40, w41, w42, w43⟩ := word_cells (HW.out.exx (Ex.refl w)) HX4.out
  rw [← HT4.out] at w41
  obtain ⟨lb, w50, w51, w52, w53⟩ := word_cells (HW.out.exx (Ex.refl w)) HX5.out
  rw [← HT5.out] at w51
  clear hrw hlen hil hx0 hx1 hx2 hx3 hx4 hx5
  go_enter Tryz.func84, Tryz.ntmps84
  go_wp2_with fail
  generalize w.heap.size + 1 = nb at *
  refine (Hi0.out _).mono ?_
  rintro e W1 ⟨rfl, hz⟩
  have HS1 : Hid (Ex w W1 ∧ Zero6 W1 w.heap.size ∧ Blk W1 nb 66 [.int .i64 (x0.kind : Nat), .string ⟨#[99, 104, 97, 110, 110, 101, 108]⟩, .int .i64 (x0.pos.1 : Nat), .int .i64 (x0.pos.2 : Nat)]) := ⟨HS0.out.1.trans hz, HS0.out.2.1.ex hz, HS0.out.2.2.ex hz⟩
  clear hz
  clear lb w00 w01 w02 w03 w10 w11 w12 w13 w20 w21 w22 w23 w30 w31 w32 w33 w40 w41 w42 w43 w50 w51 w52 w53
  have rz := HS1.out.2.1
  have lz := rz.lt
  have r0 := rz.cell 0
  have r1 := rz.cell 1
  have r2 := rz.cell 2
  have r3 := rz.cell 3
  have r4 := rz.cell 4
  have r5 := rz.cell 5
  have f0 := rz.frozen 0
  have f1 := rz.frozen 1
  have f2 := rz.frozen 2
  have f3 := rz.frozen 3
  have f4 := rz.frozen 4
  have f5 := rz.frozen 5
  simp only [List.getElem?_cons_zero, List.getElem?_cons_succ] at r0 r1 r2 r3 r4 r5
  have tz := HS1.out.2.2
  have lt := tz.lt
  have t0 := tz.cell 0
  have t1 := tz.cell 1
  have t2 := tz.cell 2
  have t3 := tz.cell 3
  simp only [List.getElem?_cons_zero, List.getElem?_cons_succ] at t0 t1 t2 t3
  clear rz tz
  obtain ⟨lb, w00, w01, w02, w03⟩ := word_cells (HW.out.exx HS1.out.1) HX0.out
  rw [← HT0.out] at w01
  obtain ⟨lb, w10, w11, w12, w13⟩ := word_cells (HW.out.exx HS1.out.1) HX1.out
  rw [← HT1.out] at w11
  obtain ⟨lb, w20, w21, w22, w23⟩ := word_cells (HW.out.exx HS1.out.1) HX2.out
  rw [← HT2.out] at w21
  obtain ⟨lb, w30, w31, w32, w33⟩ := word_cells (HW.out.exx HS1.out.1) HX3.out
  rw [← HT3.out] at w31
  obtain ⟨lb, w40, w41, w42, w43⟩ := word_cells (HW.out.exx HS1.out.1) HX4.out
  rw [← HT4.out] at w41
  obtain ⟨lb, w50, w51, w52, w53⟩ := word_cells (HW.out.exx HS1.out.1) HX5.out
  rw [← HT5.out] at w51
  go_wp2_with fail
  refine (Hi1.out _).mono ?_
  rintro e W2 ⟨rfl, hz⟩
  have HS2 : Hid (Ex w W2 ∧ Zero6 W2 w.heap.size ∧ Blk W2 nb 66 [.int .i64 (x0.kind : Nat), .string ⟨#[99, 104, 97, 110, 110, 101, 108]⟩, .int .i64 (x0.pos.1 : Nat), .int .i64 (x0.pos.2 : Nat)]) := ⟨HS1.out.1.trans hz, HS1.out.2.1.ex hz, HS1.out.2.2.ex hz⟩
  clear hz
  clear lz r0 r1 r2 r3 r4 r5 f0 f1 f2 f3 f4 f5 lt t0 t1 t2 t3
  clear lb w00 w01 w02 w03 w10 w11 w12 w13 w20 w21 w22 w23 w30 w31 w32 w33 w40 w41 w42 w43 w50 w51 w52 w53
  have rz := HS2.out.2.1
  have lz := rz.lt
  have r0 := rz.cell 0
  have r1 := rz.cell 1
  have r2 := rz.cell 2
  have r3 := rz.cell 3
  have r4 := rz.cell 4
  have r5 := rz.cell 5
  have f0 := rz.frozen 0
  have f1 := rz.frozen 1
  have f2 := rz.frozen 2
  have f3 := rz.frozen 3
  have f4 := rz.frozen 4
  have f5 := rz.frozen 5
  simp only [List.getElem?_cons_zero, List.getElem?_cons_succ] at r0 r1 r2 r3 r4 r5
  have tz := HS2.out.2.2
  have lt := tz.lt
  have t0 := tz.cell 0
  have t1 := tz.cell 1
  have t2 := tz.cell 2
  have t3 := tz.cell 3
  simp only [List.getElem?_cons_zero, List.getElem?_cons_succ] at t0 t1 t2 t3
  clear rz tz
  obtain ⟨lb, w00, w01, w02, w03⟩ := word_cells (HW.out.exx HS2.out.1) HX0.out
  rw [← HT0.out] at w01
  obtain ⟨lb, w10, w11, w12, w13⟩ := word_cells (HW.out.exx HS2.out.1) HX1.out
  rw [← HT1.out] at w11
  obtain ⟨lb, w20, w21, w22, w23⟩ := word_cells (HW.out.exx HS2.out.1) HX2.out
  rw [← HT2.out] at w21
  obtain ⟨lb, w30, w31, w32, w33⟩ := word_cells (HW.out.exx HS2.out.1) HX3.out
  rw [← HT3.out] at w31
  obtain ⟨lb, w40, w41, w42, w43⟩ := word_cells (HW.out.exx HS2.out.1) HX4.out
  rw [← HT4.out] at w41
  obtain ⟨lb, w50, w51, w52, w53⟩ := word_cells (HW.out.exx HS2.out.1) HX5.out
  rw [← HT5.out] at w51
  go_wp2_with fail
  refine (Hn2.out _).mono ?_
  rintro e W3 ⟨rfl, hz⟩
  have HS3 : Hid (Ex w W3 ∧ Zero6 W3 w.heap.size ∧ Blk W3 nb 66 [.int .i64 (x0.kind : Nat), .string ⟨#[99, 104, 97, 110, 110, 101, 108]⟩, .int .i64 (x0.pos.1 : Nat), .int .i64 (x0.pos.2 : Nat)]) := ⟨HS2.out.1.trans hz, HS2.out.2.1.ex hz, HS2.out.2.2.ex hz⟩
  clear hz
  clear lz r0 r1 r2 r3 r4 r5 f0 f1 f2 f3 f4 f5 lt t0 t1 t2 t3
  clear lb w00 w01 w02 w03 w10 w11 w12 w13 w20 w21 w22 w23 w30 w31 w32 w33 w40 w41 w42 w43 w50 w51 w52 w53
  have rz := HS3.out.2.1
  have lz := rz.lt
  have r0 := rz.cell 0
  have r1 := rz.cell 1
  have r2 := rz.cell 2
  have r3 := rz.cell 3
  have r4 := rz.cell 4
  have r5 := rz.cell 5
  have f0 := rz.frozen 0
  have f1 := rz.frozen 1
  have f2 := rz.frozen 2
  have f3 := rz.frozen 3
  have f4 := rz.frozen 4
  have f5 := rz.frozen 5
  simp only [List.getElem?_cons_zero, List.getElem?_cons_succ] at r0 r1 r2 r3 r4 r5
  have tz := HS3.out.2.2
  have lt := tz.lt
  have t0 := tz.cell 0
  have t1 := tz.cell 1
  have t2 := tz.cell 2
  have t3 := tz.cell 3
  simp only [List.getElem?_cons_zero, List.getElem?_cons_succ] at t0 t1 t2 t3
  clear rz tz
  obtain ⟨lb, w00, w01, w02, w03⟩ := word_cells (HW.out.exx HS3.out.1) HX0.out
  rw [← HT0.out] at w01
  obtain ⟨lb, w10, w11, w12, w13⟩ := word_cells (HW.out.exx HS3.out.1) HX1.out
  rw [← HT1.out] at w11
  obtain ⟨lb, w20, w21, w22, w23⟩ := word_cells (HW.out.exx HS3.out.1) HX2.out
  rw [← HT2.out] at w21
  obtain ⟨lb, w30, w31, w32, w33⟩ := word_cells (HW.out.exx HS3.out.1) HX3.out
  rw [← HT3.out] at w31
  obtain ⟨lb, w40, w41, w42, w43⟩ := word_cells (HW.out.exx HS3.out.1) HX4.out
  rw [← HT4.out] at w41
  obtain ⟨lb, w50, w51, w52, w53⟩ := word_cells (HW.out.exx HS3.out.1) HX5.out
  rw [← HT5.out] at w51
  go_wp2_with fail
  refine (Hi3.out _).mono ?_
  rintro e W4 ⟨rfl, hz⟩
  have HS4 : Hid (Ex w W4 ∧ Zero6 W4 w.heap.size ∧ Blk W4 nb 66 [.int .i64 (x0.kind : Nat), .string ⟨#[99, 104, 97, 110, 110, 101, 108]⟩, .int .i64 (x0.pos.1 : Nat), .int .i64 (x0.pos.2 : Nat)]) := ⟨HS3.out.1.trans hz, HS3.out.2.1.ex hz, HS3.out.2.2.ex hz⟩
  clear hz
  clear lz r0 r1 r2 r3 r4 r5 f0 f1 f2 f3 f4 f5 lt t0 t1 t2 t3
  clear lb w00 w01 w02 w03 w10 w11 w12 w13 w20 w21 w22 w23 w30 w31 w32 w33 w40 w41 w42 w43 w50 w51 w52 w53
  have rz := HS4.out.2.1
  have lz := rz.lt
  have r0 := rz.cell 0
  have r1 := rz.cell 1
  have r2 := rz.cell 2
  have r3 := rz.cell 3
  have r4 := rz.cell 4
  have r5 := rz.cell 5
  have f0 := rz.frozen 0
  have f1 := rz.frozen 1
  have f2 := rz.frozen 2
  have f3 := rz.frozen 3
  have f4 := rz.frozen 4
  have f5 := rz.frozen 5
  simp only [List.getElem?_cons_zero, List.getElem?_cons_succ] at r0 r1 r2 r3 r4 r5
  have tz := HS4.out.2.2
  have lt := tz.lt
  have t0 := tz.cell 0
  have t1 := tz.cell 1
  have t2 := tz.cell 2
  have t3 := tz.cell 3
  simp only [List.getElem?_cons_zero, List.getElem?_cons_succ] at t0 t1 t2 t3
  clear rz tz
  obtain ⟨lb, w00, w01, w02, w03⟩ := word_cells (HW.out.exx HS4.out.1) HX0.out
  rw [← HT0.out] at w01
  obtain ⟨lb, w10, w11, w12, w13⟩ := word_cells (HW.out.exx HS4.out.1) HX1.out
  rw [← HT1.out] at w11
  obtain ⟨lb, w20, w21, w22, w23⟩ := word_cells (HW.out.exx HS4.out.1) HX2.out
  rw [← HT2.out] at w21
  obtain ⟨lb, w30, w31, w32, w33⟩ := word_cells (HW.out.exx HS4.out.1) HX3.out
  rw [← HT3.out] at w31
  obtain ⟨lb, w40, w41, w42, w43⟩ := word_cells (HW.out.exx HS4.out.1) HX4.out
  rw [← HT4.out] at w41
  obtain ⟨lb, w50, w51, w52, w53⟩ := word_cells (HW.out.exx HS4.out.1) HX5.out
  rw [← HT5.out] at w51
  go_wp2_with fail
  refine (Hn4.out _).mono ?_
  rintro e W5 ⟨rfl, hz⟩
  have HS5 : Hid (Ex w W5 ∧ Zero6 W5 w.heap.size ∧ Blk W5 nb 66 [.int .i64 (x0.kind : Nat), .string ⟨#[99, 104, 97, 110, 110, 101, 108]⟩, .int .i64 (x0.pos.1 : Nat), .int .i64 (x0.pos.2 : Nat)]) := ⟨HS4.out.1.trans hz, HS4.out.2.1.ex hz, HS4.out.2.2.ex hz⟩
  clear hz
  clear lz r0 r1 r2 r3 r4 r5 f0 f1 f2 f3 f4 f5 lt t0 t1 t2 t3
  clear lb w00 w01 w02 w03 w10 w11 w12 w13 w20 w21 w22 w23 w30 w31 w32 w33 w40 w41 w42 w43 w50 w51 w52 w53
  have rz := HS5.out.2.1
  have lz := rz.lt
  have r0 := rz.cell 0
  have r1 := rz.cell 1
  have r2 := rz.cell 2
  have r3 := rz.cell 3
  have r4 := rz.cell 4
  have r5 := rz.cell 5
  have f0 := rz.frozen 0
  have f1 := rz.frozen 1
  have f2 := rz.frozen 2
  have f3 := rz.frozen 3
  have f4 := rz.frozen 4
  have f5 := rz.frozen 5
  simp only [List.getElem?_cons_zero, List.getElem?_cons_succ] at r0 r1 r2 r3 r4 r5
  have tz := HS5.out.2.2
  have lt := tz.lt
  have t0 := tz.cell 0
  have t1 := tz.cell 1
  have t2 := tz.cell 2
  have t3 := tz.cell 3
  simp only [List.getElem?_cons_zero, List.getElem?_cons_succ] at t0 t1 t2 t3
  clear rz tz
  obtain ⟨lb, w00, w01, w02, w03⟩ := word_cells (HW.out.exx HS5.out.1) HX0.out
  rw [← HT0.out] at w01
  obtain ⟨lb, w10, w11, w12, w13⟩ := word_cells (HW.out.exx HS5.out.1) HX1.out
  rw [← HT1.out] at w11
  obtain ⟨lb, w20, w21, w22, w23⟩ := word_cells (HW.out.exx HS5.out.1) HX2.out
  rw [← HT2.out] at w21
  obtain ⟨lb, w30, w31, w32, w33⟩ := word_cells (HW.out.exx HS5.out.1) HX3.out
  rw [← HT3.out] at w31
  obtain ⟨lb, w40, w41, w42, w43⟩ := word_cells (HW.out.exx HS5.out.1) HX4.out
  rw [← HT4.out] at w41
  obtain ⟨lb, w50, w51, w52, w53⟩ := word_cells (HW.out.exx HS5.out.1) HX5.out
  rw [← HT5.out] at w51
  go_wp2_with fail
  refine (Hi5.out _).mono ?_
  rintro e W6 ⟨rfl, hz⟩
  have HS6 : Hid (Ex w W6 ∧ Zero6 W6 w.heap.size ∧ Blk W6 nb 66 [.int .i64 (x0.kind : Nat), .string ⟨#[99, 104, 97, 110, 110, 101, 108]⟩, .int .i64 (x0.pos.1 : Nat), .int .i64 (x0.pos.2 : Nat)]) := ⟨HS5.out.1.trans hz, HS5.out.2.1.ex hz, HS5.out.2.2.ex hz⟩
  clear hz
  clear lz r0 r1 r2 r3 r4 r5 f0 f1 f2 f3 f4 f5 lt t0 t1 t2 t3
  clear lb w00 w01 w02 w03 w10 w11 w12 w13 w20 w21 w22 w23 w30 w31 w32 w33 w40 w41 w42 w43 w50 w51 w52 w53
  have rz := HS6.out.2.1
  have lz := rz.lt
  have r0 := rz.cell 0
  have r1 := rz.cell 1
  have r2 := rz.cell 2
  have r3 := rz.cell 3
  have r4 := rz.cell 4
  have r5 := rz.cell 5
  have f0 := rz.frozen 0
  have f1 := rz.frozen 1
  have f2 := rz.frozen 2
  have f3 := rz.frozen 3
  have f4 := rz.frozen 4
  have f5 := rz.frozen 5
  simp only [List.getElem?_cons_zero, List.getElem?_cons_succ] at r0 r1 r2 r3 r4 r5
  have tz := HS6.out.2.2
  have lt := tz.lt
  have t0 := tz.cell 0
  have t1 := tz.cell 1
  have t2 := tz.cell 2
  have t3 := tz.cell 3
  simp only [List.getElem?_cons_zero, List.getElem?_cons_succ] at t0 t1 t2 t3
  clear rz tz
  obtain ⟨lb, w00, w01, w02, w03⟩ := word_cells (HW.out.exx HS6.out.1) HX0.out
  rw [← HT0.out] at w01
  obtain ⟨lb, w10, w11, w12, w13⟩ := word_cells (HW.out.exx HS6.out.1) HX1.out
  rw [← HT1.out] at w11
  obtain ⟨lb, w20, w21, w22, w23⟩ := word_cells (HW.out.exx HS6.out.1) HX2.out
  rw [← HT2.out] at w21
  obtain ⟨lb, w30, w31, w32, w33⟩ := word_cells (HW.out.exx HS6.out.1) HX3.out
  rw [← HT3.out] at w31
  obtain ⟨lb, w40, w41, w42, w43⟩ := word_cells (HW.out.exx HS6.out.1) HX4.out
  rw [← HT4.out] at w41
  obtain ⟨lb, w50, w51, w52, w53⟩ := word_cells (HW.out.exx HS6.out.1) HX5.out
  rw [← HT5.out] at w51
  go_wp2_with fail
  refine bodyPost_ret (results_par rfl rfl rfl rfl (blk6 HS6.out.2.1 _ _ _ _ _ _)) rfl ?_
  exact ⟨rfl, ex6 (Nat.le_refl _) HS6.out.1 _ _ _ _ _ _⟩
set_option maxRecDepth 100000 in
set_option maxHeartbeats 3200000 in
theorem at_var0 (ws : List Wd) (b o c i : Nat) (x0 : Wd) (w : World) (hrw : Rw w b o (wdsV ws)) (hlen : ws.length ≤ 100000) (hx0 : ws[i]? = some x0) (hk : x0.kind = 2) (v0 : x0.text ≠ [116, 114, 117, 101]) (v1 : x0.text ≠ [102, 97, 108, 115, 101]) (v2 : x0.text ≠ [99, 111, 117, 110, 116]) (v3 : x0.text ≠ [99, 104, 97, 110, 110, 101, 108]) (h0 : isS x0 [40] = false) (g0 : nmS x0 = false) (gl0 : x0.text.length ≤ 16384) :
    Calls Tryz.prog 84 #[.slice (some ⟨b, o, none⟩) ws.length c, .int .i64 (i : Nat)] w (Ret w (triV (0) (0) (⟨#[]⟩) (i + 0) false)) := by
  have HW := Lib.hid hrw
  have HX0 := Lib.hid hx0
  have hil : i + 0 < ws.length := (List.getElem?_eq_some_iff.1 hx0).1
  have m0 : (i : Int) < (ws.length : Int) := by omega
  have mm : (0 : Int) ≤ (i : Int) := by omega
  have mw : (ws.length : Int) ≤ 100000 := by omega
  obtain ⟨TB0, hTB⟩ : ∃ T : ByteArray, T = ⟨x0.text.toArray⟩ := ⟨_, rfl⟩
  have HT0 := Lib.hid hTB
  clear hTB
  have HS0 : Hid (Ex w ((w.alloc (.cells #[.int .i64 0, .int .i64 0, .int .i64 0, .int .i64 0, .string ⟨#[]⟩, .slice none 0 0] 24)).alloc (.cells #[.int .i64 (x0.kind : Nat), .string TB0, .int .i64 (x0.pos.1 : Nat), .int .i64 (x0.pos.2 : Nat)] 66)) ∧ Zero6 ((w.alloc (.cells #[.int .i64 0, .int .i64 0, .int .i64 0, .int .i64 0, .string ⟨#[]⟩, .slice none 0 0] 24)).alloc (.cells #[.int .i64 (x0.kind : Nat), .string TB0, .int .i64 (x0.pos.1 : Nat), .int .i64 (x0.pos.2 : Nat)] 66)) w.heap.size ∧ Blk ((w.alloc (.cells #[.int .i64 0, .int .i64 0, .int .i64 0, .int .i64 0, .string ⟨#[]⟩, .slice none 0 0] 24)).alloc (.cells #[.int .i64 (x0.kind : Nat), .string TB0, .int .i64 (x0.pos.1 : Nat), .int .i64 (x0.pos.2 : Nat)] 66)) (w.heap.size + 1) 66 [.int .i64 (x0.kind : Nat), .string TB0, .int .i64 (x0.pos.1 : Nat), .int .i64 (x0.pos.2 : Nat)]) := ⟨((Ex.refl w).alloc _).alloc _, (Blk.new w _ _).alloc _, Blk.new' _ (by simp) _ _⟩
  have vt0 : (TB0.toList == [116, 114, 117, 101]) = false := by
    rw [HT0.out, Lib.toList_data]
    exact beq_eq_false_iff_ne.2 v0
  have vu0 : (TB0.toList == (⟨#[116, 114, 117, 101]⟩ : ByteArray).toList) = false := by
    rw [HT0.out, Lib.toList_data, Lib.toList_data]
    exact beq_eq_false_iff_ne.2 v0
  clear v0
  have vt1 : (TB0.toList == [102, 97, 108, 115, 101]) = false := by
    rw [HT0.out, Lib.toList_data]
    exact beq_eq_false_iff_ne.2 v1
  have vu1 : (TB0.toList == (⟨#[102, 97, 108, 115, 101]⟩ : ByteArray).toList) = false := by
    rw [HT0.out, Lib.toList_data, Lib.toList_data]
    exact beq_eq_false_iff_ne.2 v1
  clear v1
  have vt2 : (TB0.toList == [99, 111, 117, 110, 116]) = false := by
    rw [HT0.out, Lib.toList_data]
    exact beq_eq_false_iff_ne.2 v2
  have vu2 : (TB0.toList == (⟨#[99, 111, 117, 110, 116]⟩ : ByteArray).toList) = false := by
    rw [HT0.out, Lib.toList_data, Lib.toList_data]
    exact beq_eq_false_iff_ne.2 v2
  clear v2
  have vt3 : (TB0.toList == [99, 104, 97, 110, 110, 101, 108]) = false := by
    rw [HT0.out, Lib.toList_data]
    exact beq_eq_false_iff_ne.2 v3
  have vu3 : (TB0.toList == (⟨#[99, 104, 97, 110, 110, 101, 108]⟩ : ByteArray).toList) = false := by
    rw [HT0.out, Lib.toList_data, Lib.toList_data]
    exact beq_eq_false_iff_ne.2 v3
  clear v3
  have Hi0 : Hid (∀ w, Calls Tryz.prog 83 #[.agg #[.int .i64 (x0.kind : Nat), .string TB0, .int .i64 (x0.pos.1 : Nat), .int .i64 (x0.pos.2 : Nat)], .string ⟨#[40]⟩] w (Ret w (.bool false))) := fun w => by
    rw [HT0.out, ← h0]
    exact rIs_c x0 ⟨#[40]⟩ w
  clear h0
  have Hn0 : Hid (∀ w, Calls Tryz.prog 114 #[.agg #[.int .i64 (x0.kind : Nat), .string TB0, .int .i64 (x0.pos.1 : Nat), .int .i64 (x0.pos.2 : Nat)]] w (Ret w (.bool false))) := fun w => by
    rw [HT0.out, ← g0]
    exact rName_c x0 w gl0
  clear g0
  have e1 : (((x0.kind : Nat) : Int) == 1) = false := beq_eq_false_iff_ne.2 (by omega)
  have e2 : (x0.kind == 1) = false := beq_eq_false_iff_ne.2 (by omega)
  have e3 : (((x0.kind : Nat) : Int) != 1) = true := by rw [bne_iff_ne]; omega
  have e4 : (x0.kind != 1) = true := by rw [bne_iff_ne]; omega
  have ee1 : (((x0.kind : Nat) : Int) == 2) = true := by rw [beq_iff_eq]; omega
  have ee2 : (x0.kind == 2) = true := by rw [beq_iff_eq]; omega
  have ee3 : (((x0.kind : Nat) : Int) != 2) = false := by unfold bne; rw [ee1]; rfl
  have ee4 : (x0.kind != 2) = false := by unfold bne; rw [ee2]; rfl
  clear hk
  obtain ⟨lb, w00, w01, w02, w03⟩ := word_cells (HW.out.exx (Ex.refl w)) HX0.out
  rw [← HT0.out] at w01
  clear hrw hlen hil hx0
  go_enter Tryz.func84, Tryz.ntmps84
  go_wp2_with fail
  generalize w.heap.size + 1 = nb at *
  refine (Hi0.out _).mono ?_
  rintro e W1 ⟨rfl, hz⟩
  have HS1 : Hid (Ex w W1 ∧ Zero6 W1 w.heap.size ∧ Blk W1 nb 66 [.int .i64 (x0.kind : Nat), .string TB0, .int .i64 (x0.pos.1 : Nat), .int .i64 (x0.pos.2 : Nat)]) := ⟨HS0.out.1.trans hz, HS0.out.2.1.ex hz, HS0.out.2.2.ex hz⟩
  clear hz
  clear lb w00 w01 w02 w03
  have rz := HS1.out.2.1
  have lz := rz.lt
  have r0 := rz.cell 0
  have r1 := rz.cell 1
  have r2 := rz.cell 2
  have r3 := rz.cell 3
  have r4 := rz.cell 4
  have r5 := rz.cell 5
  have f0 := rz.frozen 0
  have f1 := rz.frozen 1
  have f2 := rz.frozen 2
  have f3 := rz.frozen 3
  have f4 := rz.frozen 4
  have f5 := rz.frozen 5
  simp only [List.getElem?_cons_zero, List.getElem?_cons_succ] at r0 r1 r2 r3 r4 r5
  have tz := HS1.out.2.2
  have lt := tz.lt
  have t0 := tz.cell 0
  have t1 := tz.cell 1
  have t2 := tz.cell 2
  have t3 := tz.cell 3
  simp only [List.getElem?_cons_zero, List.getElem?_cons_succ] at t0 t1 t2 t3
  clear rz tz
  obtain ⟨lb, w00, w01, w02, w03⟩ := word_cells (HW.out.exx HS1.out.1) HX0.out
  rw [← HT0.out] at w01
  go_wp2_with fail
  refine (Hn0.out _).mono ?_
  rintro e W2 ⟨rfl, hz⟩
  have HS2 : Hid (Ex w W2 ∧ Zero6 W2 w.heap.size ∧ Blk W2 nb 66 [.int .i64 (x0.kind : Nat), .string TB0, .int .i64 (x0.pos.1 : Nat), .int .i64 (x0.pos.2 : Nat)]) := ⟨HS1.out.1.trans hz, HS1.out.2.1.ex hz, HS1.out.2.2.ex hz⟩
  clear hz
  clear lz r0 r1 r2 r3 r4 r5 f0 f1 f2 f3 f4 f5 lt t0 t1 t2 t3
  clear lb w00 w01 w02 w03
  have rz := HS2.out.2.1
  have lz := rz.lt
  have r0 := rz.cell 0
  have r1 := rz.cell 1
  have r2 := rz.cell 2
  have r3 := rz.cell 3
  have r4 := rz.cell 4
  have r5 := rz.cell 5
  have f0 := rz.frozen 0
  have f1 := rz.frozen 1
  have f2 := rz.frozen 2
  have f3 := rz.frozen 3
  have f4 := rz.frozen 4
  have f5 := rz.frozen 5
  simp only [List.getElem?_cons_zero, List.getElem?_cons_succ] at r0 r1 r2 r3 r4 r5
  have tz := HS2.out.2.2
  have lt := tz.lt
  have t0 := tz.cell 0
  have t1 := tz.cell 1
  have t2 := tz.cell 2
  have t3 := tz.cell 3
  simp only [List.getElem?_cons_zero, List.getElem?_cons_succ] at t0 t1 t2 t3
  clear rz tz
  obtain ⟨lb, w00, w01, w02, w03⟩ := word_cells (HW.out.exx HS2.out.1) HX0.out
  rw [← HT0.out] at w01
  go_wp2_with fail
  refine bodyPost_ret (results_par rfl rfl rfl rfl (blk6 HS2.out.2.1 _ _ _ _ _ _)) rfl ?_
  exact ⟨rfl, ex6 (Nat.le_refl _) HS2.out.1 _ _ _ _ _ _⟩
set_option maxRecDepth 100000 in
set_option maxHeartbeats 3200000 in
theorem at_var1 (ws : List Wd) (b o c i : Nat) (x0 x1 : Wd) (w : World) (hrw : Rw w b o (wdsV ws)) (hlen : ws.length ≤ 100000) (hx0 : ws[i]? = some x0) (hx1 : ws[i + 1]? = some x1) (hk : x0.kind = 2) (v0 : x0.text ≠ [116, 114, 117, 101]) (v1 : x0.text ≠ [102, 97, 108, 115, 101]) (v2 : x0.text ≠ [99, 111, 117, 110, 116]) (v3 : x0.text ≠ [99, 104, 97, 110, 110, 101, 108]) (h0 : isS x0 [40] = false) (g0 : nmS x0 = true) (gl0 : x0.text.length ≤ 16384) (h1 : isS x1 [46] = false) :
    Calls Tryz.prog 84 #[.slice (some ⟨b, o, none⟩) ws.length c, .int .i64 (i : Nat)] w (Ret w (triV (0) (0) (⟨#[]⟩) (i + 1) false)) := by
  have HW := Lib.hid hrw
  have HX0 := Lib.hid hx0
  have HX1 := Lib.hid hx1
  have hil : i + 1 < ws.length := (List.getElem?_eq_some_iff.1 hx1).1
  have m0 : (i : Int) < (ws.length : Int) := by omega
  have m1 : (i : Int) + 1 < (ws.length : Int) := by omega
  have mm : (0 : Int) ≤ (i : Int) := by omega
  have mw : (ws.length : Int) ≤ 100000 := by omega
  obtain ⟨TB0, hTB⟩ : ∃ T : ByteArray, T = ⟨x0.text.toArray⟩ := ⟨_, rfl⟩
  have HT0 := Lib.hid hTB
  clear hTB
  obtain ⟨TB1, hTB⟩ : ∃ T : ByteArray, T = ⟨x1.text.toArray⟩ := ⟨_, rfl⟩
  have HT1 := Lib.hid hTB
  clear hTB
  have HS0 : Hid (Ex w ((w.alloc (.cells #[.int .i64 0, .int .i64 0, .int .i64 0, .int .i64 0, .string ⟨#[]⟩, .slice none 0 0] 24)).alloc (.cells #[.int .i64 (x0.kind : Nat), .string TB0, .int .i64 (x0.pos.1 : Nat), .int .i64 (x0.pos.2 : Nat)] 66)) ∧ Zero6 ((w.alloc (.cells #[.int .i64 0, .int .i64 0, .int .i64 0, .int .i64 0, .string ⟨#[]⟩, .slice none 0 0] 24)).alloc (.cells #[.int .i64 (x0.kind : Nat), .string TB0, .int .i64 (x0.pos.1 : Nat), .int .i64 (x0.pos.2 : Nat)] 66)) w.heap.size ∧ Blk ((w.alloc (.cells #[.int .i64 0, .int .i64 0, .int .i64 0, .int .i64 0, .string ⟨#[]⟩, .slice none 0 0] 24)).alloc (.cells #[.int .i64 (x0.kind : Nat), .string TB0, .int .i64 (x0.pos.1 : Nat), .int .i64 (x0.pos.2 : Nat)] 66)) (w.heap.size + 1) 66 [.int .i64 (x0.kind : Nat), .string TB0, .int .i64 (x0.pos.1 : Nat), .int .i64 (x0.pos.2 : Nat)]) := ⟨((Ex.refl w).alloc _).alloc _, (Blk.new w _ _).alloc _, Blk.new' _ (by simp) _ _⟩
  have vt0 : (TB0.toList == [116, 114, 117, 101]) = false := by
    rw [HT0.out, Lib.toList_data]
    exact beq_eq_false_iff_ne.2 v0
  have vu0 : (TB0.toList == (⟨#[116, 114, 117, 101]⟩ : ByteArray).toList) = false := by
    rw [HT0.out, Lib.toList_data, Lib.toList_data]
    exact beq_eq_false_iff_ne.2 v0
  clear v0
  have vt1 : (TB0.toList == [102, 97, 108, 115, 101]) = false := by
    rw [HT0.out, Lib.toList_data]
    exact beq_eq_false_iff_ne.2 v1
  have vu1 : (TB0.toList == (⟨#[102, 97, 108, 115, 101]⟩ : ByteArray).toList) = false := by
    rw [HT0.out, Lib.toList_data, Lib.toList_data]
    exact beq_eq_false_iff_ne.2 v1
  clear v1
  have vt2 : (TB0.toList == [99, 111, 117, 110, 116]) = false := by
    rw [HT0.out, Lib.toList_data]
    exact beq_eq_false_iff_ne.2 v2
  have vu2 : (TB0.toList == (⟨#[99, 111, 117, 110, 116]⟩ : ByteArray).toList) = false := by
    rw [HT0.out, Lib.toList_data, Lib.toList_data]
    exact beq_eq_false_iff_ne.2 v2
  clear v2
  have vt3 : (TB0.toList == [99, 104, 97, 110, 110, 101, 108]) = false := by
    rw [HT0.out, Lib.toList_data]
    exact beq_eq_false_iff_ne.2 v3
  have vu3 : (TB0.toList == (⟨#[99, 104, 97, 110, 110, 101, 108]⟩ : ByteArray).toList) = false := by
    rw [HT0.out, Lib.toList_data, Lib.toList_data]
    exact beq_eq_false_iff_ne.2 v3
  clear v3
  have Hi0 : Hid (∀ w, Calls Tryz.prog 83 #[.agg #[.int .i64 (x0.kind : Nat), .string TB0, .int .i64 (x0.pos.1 : Nat), .int .i64 (x0.pos.2 : Nat)], .string ⟨#[40]⟩] w (Ret w (.bool false))) := fun w => by
    rw [HT0.out, ← h0]
    exact rIs_c x0 ⟨#[40]⟩ w
  clear h0
  have Hn0 : Hid (∀ w, Calls Tryz.prog 114 #[.agg #[.int .i64 (x0.kind : Nat), .string TB0, .int .i64 (x0.pos.1 : Nat), .int .i64 (x0.pos.2 : Nat)]] w (Ret w (.bool true))) := fun w => by
    rw [HT0.out, ← g0]
    exact rName_c x0 w gl0
  clear g0
  have Hi1 : Hid (∀ w, Calls Tryz.prog 83 #[.agg #[.int .i64 (x1.kind : Nat), .string TB1, .int .i64 (x1.pos.1 : Nat), .int .i64 (x1.pos.2 : Nat)], .string ⟨#[46]⟩] w (Ret w (.bool false))) := fun w => by
    rw [HT1.out, ← h1]
    exact rIs_c x1 ⟨#[46]⟩ w
  clear h1
  have e1 : (((x0.kind : Nat) : Int) == 1) = false := beq_eq_false_iff_ne.2 (by omega)
  have e2 : (x0.kind == 1) = false := beq_eq_false_iff_ne.2 (by omega)
  have e3 : (((x0.kind : Nat) : Int) != 1) = true := by rw [bne_iff_ne]; omega
  have e4 : (x0.kind != 1) = true := by rw [bne_iff_ne]; omega
  have ee1 : (((x0.kind : Nat) : Int) == 2) = true := by rw [beq_iff_eq]; omega
  have ee2 : (x0.kind == 2) = true := by rw [beq_iff_eq]; omega
  have ee3 : (((x0.kind : Nat) : Int) != 2) = false := by unfold bne; rw [ee1]; rfl
  have ee4 : (x0.kind != 2) = false := by unfold bne; rw [ee2]; rfl
  clear hk
  obtain ⟨lb, w00, w01, w02, w03⟩ := word_cells (HW.out.exx (Ex.refl w)) HX0.out
  rw [← HT0.out] at w01
  obtain ⟨lb, w10, w11, w12, w13⟩ := word_cells (HW.out.exx (Ex.refl w)) HX1.out
  rw [← HT1.out] at w11
  clear hrw hlen hil hx0 hx1
  go_enter Tryz.func84, Tryz.ntmps84
  go_wp2_with fail
  generalize w.heap.size + 1 = nb at *
  refine (Hi0.out _).mono ?_
  rintro e W1 ⟨rfl, hz⟩
  have HS1 : Hid (Ex w W1 ∧ Zero6 W1 w.heap.size ∧ Blk W1 nb 66 [.int .i64 (x0.kind : Nat), .string TB0, .int .i64 (x0.pos.1 : Nat), .int .i64 (x0.pos.2 : Nat)]) := ⟨HS0.out.1.trans hz, HS0.out.2.1.ex hz, HS0.out.2.2.ex hz⟩
  clear hz
  clear lb w00 w01 w02 w03 w10 w11 w12 w13
  have rz := HS1.out.2.1
  have lz := rz.lt
  have r0 := rz.cell 0
  have r1 := rz.cell 1
  have r2 := rz.cell 2
  have r3 := rz.cell 3
  have r4 := rz.cell 4
  have r5 := rz.cell 5
  have f0 := rz.frozen 0
  have f1 := rz.frozen 1
  have f2 := rz.frozen 2
  have f3 := rz.frozen 3
  have f4 := rz.frozen 4
  have f5 := rz.frozen 5
  simp only [List.getElem?_cons_zero, List.getElem?_cons_succ] at r0 r1 r2 r3 r4 r5
  have tz := HS1.out.2.2
  have lt := tz.lt
  have t0 := tz.cell 0
  have t1 := tz.cell 1
  have t2 := tz.cell 2
  have t3 := tz.cell 3
  simp only [List.getElem?_cons_zero, List.getElem?_cons_succ] at t0 t1 t2 t3
  clear rz tz
  obtain ⟨lb, w00, w01, w02, w03⟩ := word_cells (HW.out.exx HS1.out.1) HX0.out
  rw [← HT0.out] at w01
  obtain ⟨lb, w10, w11, w12, w13⟩ := word_cells (HW.out.exx HS1.out.1) HX1.out
  rw [← HT1.out] at w11
  go_wp2_with fail
  refine (Hn0.out _).mono ?_
  rintro e W2 ⟨rfl, hz⟩
  have HS2 : Hid (Ex w W2 ∧ Zero6 W2 w.heap.size ∧ Blk W2 nb 66 [.int .i64 (x0.kind : Nat), .string TB0, .int .i64 (x0.pos.1 : Nat), .int .i64 (x0.pos.2 : Nat)]) := ⟨HS1.out.1.trans hz, HS1.out.2.1.ex hz, HS1.out.2.2.ex hz⟩
  clear hz
  clear lz r0 r1 r2 r3 r4 r5 f0 f1 f2 f3 f4 f5 lt t0 t1 t2 t3
  clear lb w00 w01 w02 w03 w10 w11 w12 w13
  have rz := HS2.out.2.1
  have lz := rz.lt
  have r0 := rz.cell 0
  have r1 := rz.cell 1
  have r2 := rz.cell 2
  have r3 := rz.cell 3
  have r4 := rz.cell 4
  have r5 := rz.cell 5
  have f0 := rz.frozen 0
  have f1 := rz.frozen 1
  have f2 := rz.frozen 2
  have f3 := rz.frozen 3
  have f4 := rz.frozen 4
  have f5 := rz.frozen 5
  simp only [List.getElem?_cons_zero, List.getElem?_cons_succ] at r0 r1 r2 r3 r4 r5
  have tz := HS2.out.2.2
  have lt := tz.lt
  have t0 := tz.cell 0
  have t1 := tz.cell 1
  have t2 := tz.cell 2
  have t3 := tz.cell 3
  simp only [List.getElem?_cons_zero, List.getElem?_cons_succ] at t0 t1 t2 t3
  clear rz tz
  obtain ⟨lb, w00, w01, w02, w03⟩ := word_cells (HW.out.exx HS2.out.1) HX0.out
  rw [← HT0.out] at w01
  obtain ⟨lb, w10, w11, w12, w13⟩ := word_cells (HW.out.exx HS2.out.1) HX1.out
  rw [← HT1.out] at w11
  go_wp2_with fail
  refine (Hi1.out _).mono ?_
  rintro e W3 ⟨rfl, hz⟩
  have HS3 : Hid (Ex w W3 ∧ Zero6 W3 w.heap.size ∧ Blk W3 nb 66 [.int .i64 (x0.kind : Nat), .string TB0, .int .i64 (x0.pos.1 : Nat), .int .i64 (x0.pos.2 : Nat)]) := ⟨HS2.out.1.trans hz, HS2.out.2.1.ex hz, HS2.out.2.2.ex hz⟩
  clear hz
  clear lz r0 r1 r2 r3 r4 r5 f0 f1 f2 f3 f4 f5 lt t0 t1 t2 t3
  clear lb w00 w01 w02 w03 w10 w11 w12 w13
  have rz := HS3.out.2.1
  have lz := rz.lt
  have r0 := rz.cell 0
  have r1 := rz.cell 1
  have r2 := rz.cell 2
  have r3 := rz.cell 3
  have r4 := rz.cell 4
  have r5 := rz.cell 5
  have f0 := rz.frozen 0
  have f1 := rz.frozen 1
  have f2 := rz.frozen 2
  have f3 := rz.frozen 3
  have f4 := rz.frozen 4
  have f5 := rz.frozen 5
  simp only [List.getElem?_cons_zero, List.getElem?_cons_succ] at r0 r1 r2 r3 r4 r5
  have tz := HS3.out.2.2
  have lt := tz.lt
  have t0 := tz.cell 0
  have t1 := tz.cell 1
  have t2 := tz.cell 2
  have t3 := tz.cell 3
  simp only [List.getElem?_cons_zero, List.getElem?_cons_succ] at t0 t1 t2 t3
  clear rz tz
  obtain ⟨lb, w00, w01, w02, w03⟩ := word_cells (HW.out.exx HS3.out.1) HX0.out
  rw [← HT0.out] at w01
  obtain ⟨lb, w10, w11, w12, w13⟩ := word_cells (HW.out.exx HS3.out.1) HX1.out
  rw [← HT1.out] at w11
  go_wp2_with fail
  refine bodyPost_ret (results_par rfl rfl rfl rfl (blk6 HS3.out.2.1 _ _ _ _ _ _)) rfl ?_
  exact ⟨rfl, ex6 (Nat.le_refl _) HS3.out.1 _ _ _ _ _ _⟩
set_option maxRecDepth 100000 in
set_option maxHeartbeats 3200000 in
theorem at_var2 (ws : List Wd) (b o c i : Nat) (x0 x1 x2 : Wd) (w : World) (hrw : Rw w b o (wdsV ws)) (hlen : ws.length ≤ 100000) (hx0 : ws[i]? = some x0) (hx1 : ws[i + 1]? = some x1) (hx2 : ws[i + 2]? = some x2) (hk : x0.kind = 2) (v0 : x0.text ≠ [116, 114, 117, 101]) (v1 : x0.text ≠ [102, 97, 108, 115, 101]) (v2 : x0.text ≠ [99, 111, 117, 110, 116]) (v3 : x0.text ≠ [99, 104, 97, 110, 110, 101, 108]) (h0 : isS x0 [40] = false) (g0 : nmS x0 = true) (gl0 : x0.text.length ≤ 16384) (h1 : isS x1 [46] = true) (g2 : nmS x2 = false) (gl2 : x2.text.length ≤ 16384) :
    Calls Tryz.prog 84 #[.slice (some ⟨b, o, none⟩) ws.length c, .int .i64 (i : Nat)] w (Ret w (triV (0) (0) (⟨#[]⟩) (i + 2) false)) := by
  have HW := Lib.hid hrw
  have HX0 := Lib.hid hx0
  have HX1 := Lib.hid hx1
  have HX2 := Lib.hid hx2
  have hil : i + 2 < ws.length := (List.getElem?_eq_some_iff.1 hx2).1
  have m0 : (i : Int) < (ws.length : Int) := by omega
  have m1 : (i : Int) + 1 < (ws.length : Int) := by omega
  have m2 : (i : Int) + 2 < (ws.length : Int) := by omega
  have mm : (0 : Int) ≤ (i : Int) := by omega
  have mw : (ws.length : Int) ≤ 100000 := by omega
  obtain ⟨TB0, hTB⟩ : ∃ T : ByteArray, T = ⟨x0.text.toArray⟩ := ⟨_, rfl⟩
  have HT0 := Lib.hid hTB
  clear hTB
  obtain ⟨TB1, hTB⟩ : ∃ T : ByteArray, T = ⟨x1.text.toArray⟩ := ⟨_, rfl⟩
  have HT1 := Lib.hid hTB
  clear hTB
  obtain ⟨TB2, hTB⟩ : ∃ T : ByteArray, T = ⟨x2.text.toArray⟩ := ⟨_, rfl⟩
  have HT2 := Lib.hid hTB
  clear hTB
  have HS0 : Hid (Ex w ((w.alloc (.cells #[.int .i64 0, .int .i64 0, .int .i64 0, .int .i64 0, .string ⟨#[]⟩, .slice none 0 0] 24)).alloc (.cells #[.int .i64 (x0.kind : Nat), .string TB0, .int .i64 (x0.pos.1 : Nat), .int .i64 (x0.pos.2 : Nat)] 66)) ∧ Zero6 ((w.alloc (.cells #[.int .i64 0, .int .i64 0, .int .i64 0, .int .i64 0, .string ⟨#[]⟩, .slice none 0 0] 24)).alloc (.cells #[.int .i64 (x0.kind : Nat), .string TB0, .int .i64 (x0.pos.1 : Nat), .int .i64 (x0.pos.2 : Nat)] 66)) w.heap.size ∧ Blk ((w.alloc (.cells #[.int .i64 0, .int .i64 0, .int .i64 0, .int .i64 0, .string ⟨#[]⟩, .slice none 0 0] 24)).alloc (.cells #[.int .i64 (x0.kind : Nat), .string TB0, .int .i64 (x0.pos.1 : Nat), .int .i64 (x0.pos.2 : Nat)] 66)) (w.heap.size + 1) 66 [.int .i64 (x0.kind : Nat), .string TB0, .int .i64 (x0.pos.1 : Nat), .int .i64 (x0.pos.2 : Nat)]) := ⟨((Ex.refl w).alloc _).alloc _, (Blk.new w _ _).alloc _, Blk.new' _ (by simp) _ _⟩
  have vt0 : (TB0.toList == [116, 114, 117, 101]) = false := by
    rw [HT0.out, Lib.toList_data]
    exact beq_eq_false_iff_ne.2 v0
  have vu0 : (TB0.toList == (⟨#[116, 114, 117, 101]⟩ : ByteArray).toList) = false := by
    rw [HT0.out, Lib.toList_data, Lib.toList_data]
    exact beq_eq_false_iff_ne.2 v0
  clear v0
  have vt1 : (TB0.toList == [102, 97, 108, 115, 101]) = false := by
    rw [HT0.out, Lib.toList_data]
    exact beq_eq_false_iff_ne.2 v1
  have vu1 : (TB0.toList == (⟨#[102, 97, 108, 115, 101]⟩ : ByteArray).toList) = false := by
    rw [HT0.out, Lib.toList_data, Lib.toList_data]
    exact beq_eq_false_iff_ne.2 v1
  clear v1
  have vt2 : (TB0.toList == [99, 111, 117, 110, 116]) = false := by
    rw [HT0.out, Lib.toList_data]
    exact beq_eq_false_iff_ne.2 v2
  have vu2 : (TB0.toList == (⟨#[99, 111, 117, 110, 116]⟩ : ByteArray).toList) = false := by
    rw [HT0.out, Lib.toList_data, Lib.toList_data]
    exact beq_eq_false_iff_ne.2 v2
  clear v2
  have vt3 : (TB0.toList == [99, 104, 97, 110, 110, 101, 108]) = false := by
    rw [HT0.out, Lib.toList_data]
    exact beq_eq_false_iff_ne.2 v3
  have vu3 : (TB0.toList == (⟨#[99, 104, 97, 110, 110, 101, 108]⟩ : ByteArray).toList) = false := by
    rw [HT0.out, Lib.toList_data, Lib.toList_data]
    exact beq_eq_false_iff_ne.2 v3
  clear v3
  have Hi0 : Hid (∀ w, Calls Tryz.prog 83 #[.agg #[.int .i64 (x0.kind : Nat), .string TB0, .int .i64 (x0.pos.1 : Nat), .int .i64 (x0.pos.2 : Nat)], .string ⟨#[40]⟩] w (Ret w (.bool false))) := fun w => by
    rw [HT0.out, ← h0]
    exact rIs_c x0 ⟨#[40]⟩ w
  clear h0
  have Hn0 : Hid (∀ w, Calls Tryz.prog 114 #[.agg #[.int .i64 (x0.kind : Nat), .string TB0, .int .i64 (x0.pos.1 : Nat), .int .i64 (x0.pos.2 : Nat)]] w (Ret w (.bool true))) := fun w => by
    rw [HT0.out, ← g0]
    exact rName_c x0 w gl0
  clear g0
  have Hi1 : Hid (∀ w, Calls Tryz.prog 83 #[.agg #[.int .i64 (x1.kind : Nat), .string TB1, .int .i64 (x1.pos.1 : Nat), .int .i64 (x1.pos.2 : Nat)], .string ⟨#[46]⟩] w (Ret w (.bool true))) := fun w => by
    rw [HT1.out, ← h1]
    exact rIs_c x1 ⟨#[46]⟩ w
  clear h1
  have Hn2 : Hid (∀ w, Calls Tryz.prog 114 #[.agg #[.int .i64 (x2.kind : Nat), .string TB2, .int .i64 (x2.pos.1 : Nat), .int .i64 (x2.pos.2 : Nat)]] w (Ret w (.bool false))) := fun w => by
    rw [HT2.out, ← g2]
    exact rName_c x2 w gl2
  clear g2
  have e1 : (((x0.kind : Nat) : Int) == 1) = false := beq_eq_false_iff_ne.2 (by omega)
  have e2 : (x0.kind == 1) = false := beq_eq_false_iff_ne.2 (by omega)
  have e3 : (((x0.kind : Nat) : Int) != 1) = true := by rw [bne_iff_ne]; omega
  have e4 : (x0.kind != 1) = true := by rw [bne_iff_ne]; omega
  have ee1 : (((x0.kind : Nat) : Int) == 2) = true := by rw [beq_iff_eq]; omega
  have ee2 : (x0.kind == 2) = true := by rw [beq_iff_eq]; omega
  have ee3 : (((x0.kind : Nat) : Int) != 2) = false := by unfold bne; rw [ee1]; rfl
  have ee4 : (x0.kind != 2) = false := by unfold bne; rw [ee2]; rfl
  clear hk
  obtain ⟨lb, w00, w01, w02, w03⟩ := word_cells (HW.out.exx (Ex.refl w)) HX0.out
  rw [← HT0.out] at w01
  obtain ⟨lb, w10, w11, w12, w13⟩ := word_cells (HW.out.exx (Ex.refl w)) HX1.out
  rw [← HT1.out] at w11
  obtain ⟨lb, w20, w21, w22, w23⟩ := word_cells (HW.out.exx (Ex.refl w)) HX2.out
  rw [← HT2.out] at w21
  clear hrw hlen hil hx0 hx1 hx2
  go_enter Tryz.func84, Tryz.ntmps84
  go_wp2_with fail
  generalize w.heap.size + 1 = nb at *
  refine (Hi0.out _).mono ?_
  rintro e W1 ⟨rfl, hz⟩
  have HS1 : Hid (Ex w W1 ∧ Zero6 W1 w.heap.size ∧ Blk W1 nb 66 [.int .i64 (x0.kind : Nat), .string TB0, .int .i64 (x0.pos.1 : Nat), .int .i64 (x0.pos.2 : Nat)]) := ⟨HS0.out.1.trans hz, HS0.out.2.1.ex hz, HS0.out.2.2.ex hz⟩
  clear hz
  clear lb w00 w01 w02 w03 w10 w11 w12 w13 w20 w21 w22 w23
  have rz := HS1.out.2.1
  have lz := rz.lt
  have r0 := rz.cell 0
  have r1 := rz.cell 1
  have r2 := rz.cell 2
  have r3 := rz.cell 3
  have r4 := rz.cell 4
  have r5 := rz.cell 5
  have f0 := rz.frozen 0
  have f1 := rz.frozen 1
  have f2 := rz.frozen 2
  have f3 := rz.frozen 3
  have f4 := rz.frozen 4
  have f5 := rz.frozen 5
  simp only [List.getElem?_cons_zero, List.getElem?_cons_succ] at r0 r1 r2 r3 r4 r5
  have tz := HS1.out.2.2
  have lt := tz.lt
  have t0 := tz.cell 0
  have t1 := tz.cell 1
  have t2 := tz.cell 2
  have t3 := tz.cell 3
  simp only [List.getElem?_cons_zero, List.getElem?_cons_succ] at t0 t1 t2 t3
  clear rz tz
  obtain ⟨lb, w00, w01, w02, w03⟩ := word_cells (HW.out.exx HS1.out.1) HX0.out
  rw [← HT0.out] at w01
  obtain ⟨lb, w10, w11, w12, w13⟩ := word_cells (HW.out.exx HS1.out.1) HX1.out
  rw [← HT1.out] at w11
  obtain ⟨lb, w20, w21, w22, w23⟩ := word_cells (HW.out.exx HS1.out.1) HX2.out
  rw [← HT2.out] at w21
  go_wp2_with fail
  refine (Hn0.out _).mono ?_
  rintro e W2 ⟨rfl, hz⟩
  have HS2 : Hid (Ex w W2 ∧ Zero6 W2 w.heap.size ∧ Blk W2 nb 66 [.int .i64 (x0.kind : Nat), .string TB0, .int .i64 (x0.pos.1 : Nat), .int .i64 (x0.pos.2 : Nat)]) := ⟨HS1.out.1.trans hz, HS1.out.2.1.ex hz, HS1.out.2.2.ex hz⟩
  clear hz
  clear lz r0 r1 r2 r3 r4 r5 f0 f1 f2 f3 f4 f5 lt t0 t1 t2 t3
  clear lb w00 w01 w02 w03 w10 w11 w12 w13 w20 w21 w22 w23
  have rz := HS2.out.2.1
  have lz := rz.lt
  have r0 := rz.cell 0
  have r1 := rz.cell 1
  have r2 := rz.cell 2
  have r3 := rz.cell 3
  have r4 := rz.cell 4
  have r5 := rz.cell 5
  have f0 := rz.frozen 0
  have f1 := rz.frozen 1
  have f2 := rz.frozen 2
  have f3 := rz.frozen 3
  have f4 := rz.frozen 4
  have f5 := rz.frozen 5
  simp only [List.getElem?_cons_zero, List.getElem?_cons_succ] at r0 r1 r2 r3 r4 r5
  have tz := HS2.out.2.2
  have lt := tz.lt
  have t0 := tz.cell 0
  have t1 := tz.cell 1
  have t2 := tz.cell 2
  have t3 := tz.cell 3
  simp only [List.getElem?_cons_zero, List.getElem?_cons_succ] at t0 t1 t2 t3
  clear rz tz
  obtain ⟨lb, w00, w01, w02, w03⟩ := word_cells (HW.out.exx HS2.out.1) HX0.out
  rw [← HT0.out] at w01
  obtain ⟨lb, w10, w11, w12, w13⟩ := word_cells (HW.out.exx HS2.out.1) HX1.out
  rw [← HT1.out] at w11
  obtain ⟨lb, w20, w21, w22, w23⟩ := word_cells (HW.out.exx HS2.out.1) HX2.out
  rw [← HT2.out] at w21
  go_wp2_with fail
  refine (Hi1.out _).mono ?_
  rintro e W3 ⟨rfl, hz⟩
  have HS3 : Hid (Ex w W3 ∧ Zero6 W3 w.heap.size ∧ Blk W3 nb 66 [.int .i64 (x0.kind : Nat), .string TB0, .int .i64 (x0.pos.1 : Nat), .int .i64 (x0.pos.2 : Nat)]) := ⟨HS2.out.1.trans hz, HS2.out.2.1.ex hz, HS2.out.2.2.ex hz⟩
  clear hz
  clear lz r0 r1 r2 r3 r4 r5 f0 f1 f2 f3 f4 f5 lt t0 t1 t2 t3
  clear lb w00 w01 w02 w03 w10 w11 w12 w13 w20 w21 w22 w23
  have rz := HS3.out.2.1
  have lz := rz.lt
  have r0 := rz.cell 0
  have r1 := rz.cell 1
  have r2 := rz.cell 2
  have r3 := rz.cell 3
  have r4 := rz.cell 4
  have r5 := rz.cell 5
  have f0 := rz.frozen 0
  have f1 := rz.frozen 1
  have f2 := rz.frozen 2
  have f3 := rz.frozen 3
  have f4 := rz.frozen 4
  have f5 := rz.frozen 5
  simp only [List.getElem?_cons_zero, List.getElem?_cons_succ] at r0 r1 r2 r3 r4 r5
  have tz := HS3.out.2.2
  have lt := tz.lt
  have t0 := tz.cell 0
  have t1 := tz.cell 1
  have t2 := tz.cell 2
  have t3 := tz.cell 3
  simp only [List.getElem?_cons_zero, List.getElem?_cons_succ] at t0 t1 t2 t3
  clear rz tz
  obtain ⟨lb, w00, w01, w02, w03⟩ := word_cells (HW.out.exx HS3.out.1) HX0.out
  rw [← HT0.out] at w01
  obtain ⟨lb, w10, w11, w12, w13⟩ := word_cells (HW.out.exx HS3.out.1) HX1.out
  rw [← HT1.out] at w11
  obtain ⟨lb, w20, w21, w22, w23⟩ := word_cells (HW.out.exx HS3.out.1) HX2.out
  rw [← HT2.out] at w21
  go_wp2_with fail
  refine (Hn2.out _).mono ?_
  rintro e W4 ⟨rfl, hz⟩
  have HS4 : Hid (Ex w W4 ∧ Zero6 W4 w.heap.size ∧ Blk W4 nb 66 [.int .i64 (x0.kind : Nat), .string TB0, .int .i64 (x0.pos.1 : Nat), .int .i64 (x0.pos.2 : Nat)]) := ⟨HS3.out.1.trans hz, HS3.out.2.1.ex hz, HS3.out.2.2.ex hz⟩
  clear hz
  clear lz r0 r1 r2 r3 r4 r5 f0 f1 f2 f3 f4 f5 lt t0 t1 t2 t3
  clear lb w00 w01 w02 w03 w10 w11 w12 w13 w20 w21 w22 w23
  have rz := HS4.out.2.1
  have lz := rz.lt
  have r0 := rz.cell 0
  have r1 := rz.cell 1
  have r2 := rz.cell 2
  have r3 := rz.cell 3
  have r4 := rz.cell 4
  have r5 := rz.cell 5
  have f0 := rz.frozen 0
  have f1 := rz.frozen 1
  have f2 := rz.frozen 2
  have f3 := rz.frozen 3
  have f4 := rz.frozen 4
  have f5 := rz.frozen 5
  simp only [List.getElem?_cons_zero, List.getElem?_cons_succ] at r0 r1 r2 r3 r4 r5
  have tz := HS4.out.2.2
  have lt := tz.lt
  have t0 := tz.cell 0
  have t1 := tz.cell 1
  have t2 := tz.cell 2
  have t3 := tz.cell 3
  simp only [List.getElem?_cons_zero, List.getElem?_cons_succ] at t0 t1 t2 t3
  clear rz tz
  obtain ⟨lb, w00, w01, w02, w03⟩ := word_cells (HW.out.exx HS4.out.1) HX0.out
  rw [← HT0.out] at w01
  obtain ⟨lb, w10, w11, w12, w13⟩ := word_cells (HW.out.exx HS4.out.1) HX1.out
  rw [← HT1.out] at w11
  obtain ⟨lb, w20, w21, w22, w23⟩ := word_cells (HW.out.exx HS4.out.1) HX2.out
  rw [← HT2.out] at w21
  go_wp2_with fail
  refine bodyPost_ret (results_par rfl rfl rfl rfl (blk6 HS4.out.2.1 _ _ _ _ _ _)) rfl ?_
  exact ⟨rfl, ex6 (Nat.le_refl _) HS4.out.1 _ _ _ _ _ _⟩
set_option maxRecDepth 100000 in
set_option maxHeartbeats 3200000 in
theorem at_channel_ok (ws : List Wd) (b o c i : Nat) (x0 x1 x2 x3 x4 x5 : Wd) (w : World) (hrw : Rw w b o (wdsV ws)) (hlen : ws.length ≤ 100000) (hx0 : ws[i]? = some x0) (hx1 : ws[i + 1]? = some x1) (hx2 : ws[i + 2]? = some x2) (hx3 : ws[i + 3]? = some x3) (hx4 : ws[i + 4]? = some x4) (hx5 : ws[i + 5]? = some x5) (hk : x0.kind = 2) (htx : x0.text = [99, 104, 97, 110, 110, 101, 108]) (h0 : isS x0 [40] = false) (h1 : isS x1 [40] = true) (g2 : nmS x2 = true) (gl2 : x2.text.length ≤ 16384) (h3 : isS x3 [44] = true) (g4 : nmS x4 = true) (gl4 : x4.text.length ≤ 16384) (h5 : isS x5 [41] = true) :
    Calls Tryz.prog 84 #[.slice (some ⟨b, o, none⟩) ws.length c, .int .i64 (i : Nat)] w (Ret w (triV (4) (0) (⟨(x2.text ++ 44 :: x4.text).toArray⟩) (i + 6) true)) := by
  have HW := Lib.hid hrw
  have HX0 := Lib.hid hx0
  have HX1 := Lib.hid hx1
  have HX2 := Lib.hid hx2
  have HX3 := Lib.hid hx3
  have HX4 := Lib.hid hx4
  have HX5 := Lib.hid hx5
  have hil : i + 5 < ws.length := (List.getElem?_eq_some_iff.1 hx5).1
  have m0 : (i : Int) < (ws.length : Int) := by omega
  have m1 : (i : Int) + 1 < (ws.length : Int) := by omega
  have m2 : (i : Int) + 2 < (ws.length : Int) := by omega
  have m3 : (i : Int) + 3 < (ws.length : Int) := by omega
  have m4 : (i : Int) + 4 < (ws.length : Int) := by omega
  have m5 : (i : Int) + 5 < (ws.length : Int) := by omega
  have mm : (0 : Int) ≤ (i : Int) := by omega
  have mw : (ws.length : Int) ≤ 100000 := by omega
  have HT0 : Hid ((⟨#[99, 104, 97, 110, 110, 101, 108]⟩ : ByteArray) = ⟨x0.text.toArray⟩) := by rw [htx]; exact Lib.hid rfl
  obtain ⟨TB1, hTB⟩ : ∃ T : ByteArray, T = ⟨x1.text.toArray⟩ := ⟨_, rfl⟩
  have HT1 := Lib.hid hTB
  clear hTB
  obtain ⟨TB2, hTB⟩ : ∃ T : ByteArray, T = ⟨x2.text.toArray⟩ := ⟨_, rfl⟩
  have HT2 := Lib.hid hTB
  clear hTB
  obtain ⟨TB3, hTB⟩ : ∃ T : ByteArray, T = ⟨x3.text.toArray⟩ := ⟨_, rfl⟩
  have HT3 := Lib.hid hTB
  clear hTB
  obtain ⟨TB4, hTB⟩ : ∃ T : ByteArray, T = ⟨x4.text.toArray⟩ := ⟨_, rfl⟩
  have HT4 := Lib.hid hTB
  clear hTB
  obtain ⟨TB5, hTB⟩ : ∃ T : ByteArray, T = ⟨x5.text.toArray⟩ := ⟨_, rfl⟩
  have HT5 := Lib.hid hTB
  clear hTB
  have HS0 : Hid (Ex w ((w.alloc (.cells #[.int .i64 0, .int .i64 0, .int .i64 0, .int .i64 0, .string ⟨#[]⟩, .slice none 0 0] 24)).alloc (.cells #[.int .i64 (x0.kind : Nat), .string ⟨#[99, 104, 97, 110, 110, 101, 108]⟩, .int .i64 (x0.pos.1 : Nat), .int .i64 (x0.pos.2 : Nat)] 66)) ∧ Zero6 ((w.alloc (.cells #[.int .i64 0, .int .i64 0, .int .i64 0, .int .i64 0, .string ⟨#[]⟩, .slice none 0 0] 24)).alloc (.cells #[.int .i64 (x0.kind : Nat), .string ⟨#[99, 104, 97, 110, 110, 101, 108]⟩, .int .i64 (x0.pos.1 : Nat), .int .i64 (x0.pos.2 : Nat)] 66)) w.heap.size ∧ Blk ((w.alloc (.cells #[.int .i64 0, .int .i64 0, .int .i64 0, .int .i64 0, .string ⟨#[]⟩, .slice none 0 0] 24)).alloc (.cells #[.int .i64 (x0.kind : Nat), .string ⟨#[99, 104, 97, 110, 110, 101, 108]⟩, .int .i64 (x0.pos.1 : Nat), .int .i64 (x0.pos.2 : Nat)] 66)) (w.heap.size + 1) 66 [.int .i64 (x0.kind : Nat), .string ⟨#[99, 104, 97, 110, 110, 101, 108]⟩, .int .i64 (x0.pos.1 : Nat), .int .i64 (x0.pos.2 : Nat)]) := ⟨((Ex.refl w).alloc _).alloc _, (Blk.new w _ _).alloc _, Blk.new' _ (by simp) _ _⟩
  have Hi0 : Hid (∀ w, Calls Tryz.prog 83 #[.agg #[.int .i64 (x0.kind : Nat), .string ⟨#[99, 104, 97, 110, 110, 101, 108]⟩, .int .i64 (x0.pos.1 : Nat), .int .i64 (x0.pos.2 : Nat)], .string ⟨#[40]⟩] w (Ret w (.bool false))) := fun w => by
    rw [HT0.out, ← h0]
    exact rIs_c x0 ⟨#[40]⟩ w
  clear h0
  have Hi1 : Hid (∀ w, Calls Tryz.prog 83 #[.agg #[.int .i64 (x1.kind : Nat), .string TB1, .int .i64 (x1.pos.1 : Nat), .int .i64 (x1.pos.2 : Nat)], .string ⟨#[40]⟩] w (Ret w (.bool true))) := fun w => by
    rw [HT1.out, ← h1]
    exact rIs_c x1 ⟨#[40]⟩ w
  clear h1
  have Hn2 : Hid (∀ w, Calls Tryz.prog 114 #[.agg #[.int .i64 (x2.kind : Nat), .string TB2, .int .i64 (x2.pos.1 : Nat), .int .i64 (x2.pos.2 : Nat)]] w (Ret w (.bool true))) := fun w => by
    rw [HT2.out, ← g2]
    exact rName_c x2 w gl2
  clear g2
  have Hi3 : Hid (∀ w, Calls Tryz.prog 83 #[.agg #[.int .i64 (x3.kind : Nat), .string TB3, .int .i64 (x3.pos.1 : Nat), .int .i64 (x3.pos.2 : Nat)], .string ⟨#[44]⟩] w (Ret w (.bool true))) := fun w => by
    rw [HT3.out, ← h3]
    exact rIs_c x3 ⟨#[44]⟩ w
  clear h3
  have Hn4 : Hid (∀ w, Calls Tryz.prog 114 #[.agg #[.int .i64 (x4.kind : Nat), .string TB4, .int .i64 (x4.pos.1 : Nat), .int .i64 (x4.pos.2 : Nat)]] w (Ret w (.bool true))) := fun w => by
    rw [HT4.out, ← g4]
    exact rName_c x4 w gl4
  clear g4
  have Hi5 : Hid (∀ w, Calls Tryz.prog 83 #[.agg #[.int .i64 (x5.kind : Nat), .string TB5, .int .i64 (x5.pos.1 : Nat), .int .i64 (x5.pos.2 : Nat)], .string ⟨#[41]⟩] w (Ret w (.bool true))) := fun w => by
    rw [HT5.out, ← h5]
    exact rIs_c x5 ⟨#[41]⟩ w
  clear h5
  have e1 : (((x0.kind : Nat) : Int) == 1) = false := beq_eq_false_iff_ne.2 (by omega)
  have e2 : (x0.kind == 1) = false := beq_eq_false_iff_ne.2 (by omega)
  have e3 : (((x0.kind : Nat) : Int) != 1) = true := by rw [bne_iff_ne]; omega
  have e4 : (x0.kind != 1) = true := by rw [bne_iff_ne]; omega
  have ee1 : (((x0.kind : Nat) : Int) == 2) = true := by rw [beq_iff_eq]; omega
  have ee2 : (x0.kind == 2) = true := by rw [beq_iff_eq]; omega
  have ee3 : (((x0.kind : Nat) : Int) != 2) = false := by unfold bne; rw [ee1]; rfl
  have ee4 : (x0.kind != 2) = false := by unfold bne; rw [ee2]; rfl
  clear hk
  obtain ⟨JA, hJA⟩ : ∃ X : ByteArray, X = TB2 ++ (⟨#[44]⟩ : ByteArray) := ⟨_, rfl⟩
  obtain ⟨JB, hJB⟩ : ∃ X : ByteArray, X = JA ++ TB4 := ⟨_, rfl⟩
  have z2 : TB2.size ≤ 16384 := by rw [HT2.out, size_data]; exact gl2
  have z4 : TB4.size ≤ 16384 := by rw [HT4.out, size_data]; exact gl4
  have a1 := add_ok hJA (by show TB2.size + 1 ≤ _; omega)
  have a2 := add_ok hJB (by rw [hJA, ByteArray.size_append]; show TB2.size + 1 + TB4.size ≤ _; omega)
  have HJR : Hid ((⟨(x2.text ++ 44 :: x4.text).toArray⟩ : ByteArray) = JB) := by
    unfold Hid
    rw [hJB, hJA, HT2.out, HT4.out]
    apply ByteArray.ext
    simp
  rw [HJR.out]
  clear hJA hJB z2 z4
  obtain ⟨lb, w00, w01, w02, w03⟩ := word_cells (HW.out.exx (Ex.refl w)) HX0.out
  rw [← HT0.out] at w01
  obtain ⟨lb, w10, w11, w12, w13⟩ := word_cells (HW.out.exx (Ex.refl w)) HX1.out
  rw [← HT1.out] at w11
  obtain ⟨lb, w20, w21, w22, w23⟩ := word_cells (HW.out.exx (Ex.refl w)) HX2.out
  rw [← HT2.out] at w21
  obtain ⟨lb, w30, w31, w32, w33⟩ := word_cells (HW.out.exx (Ex.refl w)) HX3.out
  rw [← HT3.out] at w31
  obtain ⟨lb, w40, w41, w42, w43⟩ := word_cells (HW.out.exx (Ex.refl w)) HX4.out
  rw [← HT4.out] at w41
  obtain ⟨lb, w50, w51, w52, w53⟩ := word_cells (HW.out.exx (Ex.refl w)) HX5.out
  rw [← HT5.out] at w51
  clear hrw hlen hil hx0 hx1 hx2 hx3 hx4 hx5
  go_enter Tryz.func84, Tryz.ntmps84
  go_wp2_with fail
  generalize w.heap.size + 1 = nb at *
  refine (Hi0.out _).mono ?_
  rintro e W1 ⟨rfl, hz⟩
  have HS1 : Hid (Ex w W1 ∧ Zero6 W1 w.heap.size ∧ Blk W1 nb 66 [.int .i64 (x0.kind : Nat), .string ⟨#[99, 104, 97, 110, 110, 101, 108]⟩, .int .i64 (x0.pos.1 : Nat), .int .i64 (x0.pos.2 : Nat)]) := ⟨HS0.out.1.trans hz, HS0.out.2.1.ex hz, HS0.out.2.2.ex hz⟩
  clear hz
  clear lb w00 w01 w02 w03 w10 w11 w12 w13 w20 w21 w22 w23 w30 w31 w32 w33 w40 w41 w42 w43 w50 w51 w52 w53
  have rz := HS1.out.2.1
  have lz := rz.lt
  have r0 := rz.cell 0
  have r1 := rz.cell 1
  have r2 := rz.cell 2
  have r3 := rz.cell 3
  have r4 := rz.cell 4
  have r5 := rz.cell 5
  have f0 := rz.frozen 0
  have f1 := rz.frozen 1
  have f2 := rz.frozen 2
  have f3 := rz.frozen 3
  have f4 := rz.frozen 4
  have f5 := rz.frozen 5
  simp only [List.getElem?_cons_zero, List.getElem?_cons_succ] at r0 r1 r2 r3 r4 r5
  have tz := HS1.out.2.2
  have lt := tz.lt
  have t0 := tz.cell 0
  have t1 := tz.cell 1
  have t2 := tz.cell 2
  have t3 := tz.cell 3
  simp only [List.getElem?_cons_zero, List.getElem?_cons_succ] at t0 t1 t2 t3
  clear rz tz
  obtain ⟨lb, w00, w01, w02, w03⟩ := word_cells (HW.out.exx HS1.out.1) HX0.out
  rw [← HT0.out] at w01
  obtain ⟨lb, w10, w11, w12, w13⟩ := word_cells (HW.out.exx HS1.out.1) HX1.out
  rw [← HT1.out] at w11
  obtain ⟨lb, w20, w21, w22, w23⟩ := word_cells (HW.out.exx HS1.out.1) HX2.out
  rw [← HT2.out] at w21
  obtain ⟨lb, w30, w31, w32, w33⟩ := word_cells (HW.out.exx HS1.out.1) HX3.out
  rw [← HT3.out] at w31
  obtain ⟨lb, w40, w41, w42, w43⟩ := word_cells (HW.out.exx HS1.out.1) HX4.out
  rw [← HT4.out] at w41
  obtain ⟨lb, w50, w51, w52, w53⟩ := word_cells (HW.out.exx HS1.out.1) HX5.out
  rw [← HT5.out] at w51
  go_wp2_with fail
  refine (Hi1.out _).mono ?_
  rintro e W2 ⟨rfl, hz⟩
  have HS2 : Hid (Ex w W2 ∧ Zero6 W2 w.heap.size ∧ Blk W2 nb 66 [.int .i64 (x0.kind : Nat), .string ⟨#[99, 104, 97, 110, 110, 101, 108]⟩, .int .i64 (x0.pos.1 : Nat), .int .i64 (x0.pos.2 : Nat)]) := ⟨HS1.out.1.trans hz, HS1.out.2.1.ex hz, HS1.out.2.2.ex hz⟩
  clear hz
  clear lz r0 r1 r2 r3 r4 r5 f0 f1 f2 f3 f4 f5 lt t0 t1 t2 t3
  clear lb w00 w01 w02 w03 w10 w11 w12 w13 w20 w21 w22 w23 w30 w31 w32 w33 w40 w41 w42 w43 w50 w51 w52 w53
  have rz := HS2.out.2.1
  have lz := rz.lt
  have r0 := rz.cell 0
  have r1 := rz.cell 1
  have r2 := rz.cell 2
  have r3 := rz.cell 3
  have r4 := rz.cell 4
  have r5 := rz.cell 5
  have f0 := rz.frozen 0
  have f1 := rz.frozen 1
  have f2 := rz.frozen 2
  have f3 := rz.frozen 3
  have f4 := rz.frozen 4
  have f5 := rz.frozen 5
  simp only [List.getElem?_cons_zero, List.getElem?_cons_succ] at r0 r1 r2 r3 r4 r5
  have tz := HS2.out.2.2
  have lt := tz.lt
  have t0 := tz.cell 0
  have t1 := tz.cell 1
  have t2 := tz.cell 2
  have t3 := tz.cell 3
  simp only [List.getElem?_cons_zero, List.getElem?_cons_succ] at t0 t1 t2 t3
  clear rz tz
  obtain ⟨lb, w00, w01, w02, w03⟩ := word_cells (HW.out.exx HS2.out.1) HX0.out
  rw [← HT0.out] at w01
  obtain ⟨lb, w10, w11, w12, w13⟩ := word_cells (HW.out.exx HS2.out.1) HX1.out
  rw [← HT1.out] at w11
  obtain ⟨lb, w20, w21, w22, w23⟩ := word_cells (HW.out.exx HS2.out.1) HX2.out
  rw [← HT2.out] at w21
  obtain ⟨lb, w30, w31, w32, w33⟩ := word_cells (HW.out.exx HS2.out.1) HX3.out
  rw [← HT3.out] at w31
  obtain ⟨lb, w40, w41, w42, w43⟩ := word_cells (HW.out.exx HS2.out.1) HX4.out
  rw [← HT4.out] at w41
  obtain ⟨lb, w50, w51, w52, w53⟩ := word_cells (HW.out.exx HS2.out.1) HX5.out
  rw [← HT5.out] at w51
  go_wp2_with fail
  refine (Hn2.out _).mono ?_
  rintro e W3 ⟨rfl, hz⟩
  have HS3 : Hid (Ex w W3 ∧ Zero6 W3 w.heap.size ∧ Blk W3 nb 66 [.int .i64 (x0.kind : Nat), .string ⟨#[99, 104, 97, 110, 110, 101, 108]⟩, .int .i64 (x0.pos.1 : Nat), .int .i64 (x0.pos.2 : Nat)]) := ⟨HS2.out.1.trans hz, HS2.out.2.1.ex hz, HS2.out.2.2.ex hz⟩
  clear hz
  clear lz r0 r1 r2 r3 r4 r5 f0 f1 f2 f3 f4 f5 lt t0 t1 t2 t3
  clear lb w00 w01 w02 w03 w10 w11 w12 w13 w20 w21 w22 w23 w30 w31 w32 w33 w40 w41 w42 w43 w50 w51 w52 w53
  have rz := HS3.out.2.1
  have lz := rz.lt
  have r0 := rz.cell 0
  have r1 := rz.cell 1
  have r2 := rz.cell 2
  have r3 := rz.cell 3
  have r4 := rz.cell 4
  have r5 := rz.cell 5
  have f0 := rz.frozen 0
  have f1 := rz.frozen 1
  have f2 := rz.frozen 2
  have f3 := rz.frozen 3
  have f4 := rz.frozen 4
  have f5 := rz.frozen 5
  simp only [List.getElem?_cons_zero, List.getElem?_cons_succ] at r0 r1 r2 r3 r4 r5
  have tz := HS3.out.2.2
  have lt := tz.lt
  have t0 := tz.cell 0
  have t1 := tz.cell 1
  have t2 := tz.cell 2
  have t3 := tz.cell 3
  simp only [List.getElem?_cons_zero, List.getElem?_cons_succ] at t0 t1 t2 t3
  clear rz tz
  obtain ⟨lb, w00, w01, w02, w03⟩ := word_cells (HW.out.exx HS3.out.1) HX0.out
  rw [← HT0.out] at w01
  obtain ⟨lb, w10, w11, w12, w13⟩ := word_cells (HW.out.exx HS3.out.1) HX1.out
  rw [← HT1.out] at w11
  obtain ⟨lb, w20, w21, w22, w23⟩ := word_cells (HW.out.exx HS3.out.1) HX2.out
  rw [← HT2.out] at w21
  obtain ⟨lb, w30, w31, w32, w33⟩ := word_cells (HW.out.exx HS3.out.1) HX3.out
  rw [← HT3.out] at w31
  obtain ⟨lb, w40, w41, w42, w43⟩ := word_cells (HW.out.exx HS3.out.1) HX4.out
  rw [← HT4.out] at w41
  obtain ⟨lb, w50, w51, w52, w53⟩ := word_cells (HW.out.exx HS3.out.1) HX5.out
  rw [← HT5.out] at w51
  go_wp2_with fail
  refine (Hi3.out _).mono ?_
  rintro e W4 ⟨rfl, hz⟩
  have HS4 : Hid (Ex w W4 ∧ Zero6 W4 w.heap.size ∧ Blk W4 nb 66 [.int .i64 (x0.kind : Nat), .string ⟨#[99, 104, 97, 110, 110, 101, 108]⟩, .int .i64 (x0.pos.1 : Nat), .int .i64 (x0.pos.2 : Nat)]) := ⟨HS3.out.1.trans hz, HS3.out.2.1.ex hz, HS3.out.2.2.ex hz⟩
  clear hz
  clear lz r0 r1 r2 r3 r4 r5 f0 f1 f2 f3 f4 f5 lt t0 t1 t2 t3
  clear lb w00 w01 w02 w03 w10 w11 w12 w13 w20 w21 w22 w23 w30 w31 w32 w33 w40 w41 w42 w43 w50 w51 w52 w53
  have rz := HS4.out.2.1
  have lz := rz.lt
  have r0 := rz.cell 0
  have r1 := rz.cell 1
  have r2 := rz.cell 2
  have r3 := rz.cell 3
  have r4 := rz.cell 4
  have r5 := rz.cell 5
  have f0 := rz.frozen 0
  have f1 := rz.frozen 1
  have f2 := rz.frozen 2
  have f3 := rz.frozen 3
  have f4 := rz.frozen 4
  have f5 := rz.frozen 5
  simp only [List.getElem?_cons_zero, List.getElem?_cons_succ] at r0 r1 r2 r3 r4 r5
  have tz := HS4.out.2.2
  have lt := tz.lt
  have t0 := tz.cell 0
  have t1 := tz.cell 1
  have t2 := tz.cell 2
  have t3 := tz.cell 3
  simp only [List.getElem?_cons_zero, List.getElem?_cons_succ] at t0 t1 t2 t3
  clear rz tz
  obtain ⟨lb, w00, w01, w02, w03⟩ := word_cells (HW.out.exx HS4.out.1) HX0.out
  rw [← HT0.out] at w01
  obtain ⟨lb, w10, w11, w12, w13⟩ := word_cells (HW.out.exx HS4.out.1) HX1.out
  rw [← HT1.out] at w11
  obtain ⟨lb, w20, w21, w22, w23⟩ := word_cells (HW.out.exx HS4.out.1) HX2.out
  rw [← HT2.out] at w21
  obtain ⟨lb, w30, w31, w32, w33⟩ := word_cells (HW.out.exx HS4.out.1) HX3.out
  rw [← HT3.out] at w31
  obtain ⟨lb, w40, w41, w42, w43⟩ := word_cells (HW.out.exx HS4.out.1) HX4.out
  rw [← HT4.out] at w41
  obtain ⟨lb, w50, w51, w52, w53⟩ := word_cells (HW.out.exx HS4.out.1) HX5.out
  rw [← HT5.out] at w51
  go_wp2_with fail
  refine (Hn4.out _).mono ?_
  rintro e W5 ⟨rfl, hz⟩
  have HS5 : Hid (Ex w W5 ∧ Zero6 W5 w.heap.size ∧ Blk W5 nb 66 [.int .i64 (x0.kind : Nat), .string ⟨#[99, 104, 97, 110, 110, 101, 108]⟩, .int .i64 (x0.pos.1 : Nat), .int .i64 (x0.pos.2 : Nat)]) := ⟨HS4.out.1.trans hz, HS4.out.2.1.ex hz, HS4.out.2.2.ex hz⟩
  clear hz
  clear lz r0 r1 r2 r3 r4 r5 f0 f1 f2 f3 f4 f5 lt t0 t1 t2 t3
  clear lb w00 w01 w02 w03 w10 w11 w12 w13 w20 w21 w22 w23 w30 w31 w32 w33 w40 w41 w42 w43 w50 w51 w52 w53
  have rz := HS5.out.2.1
  have lz := rz.lt
  have r0 := rz.cell 0
  have r1 := rz.cell 1
  have r2 := rz.cell 2
  have r3 := rz.cell 3
  have r4 := rz.cell 4
  have r5 := rz.cell 5
  have f0 := rz.frozen 0
  have f1 := rz.frozen 1
  have f2 := rz.frozen 2
  have f3 := rz.frozen 3
  have f4 := rz.frozen 4
  have f5 := rz.frozen 5
  simp only [List.getElem?_cons_zero, List.getElem?_cons_succ] at r0 r1 r2 r3 r4 r5
  have tz := HS5.out.2.2
  have lt := tz.lt
  have t0 := tz.cell 0
  have t1 := tz.cell 1
  have t2 := tz.cell 2
  have t3 := tz.cell 3
  simp only [List.getElem?_cons_zero, List.getElem?_cons_succ] at t0 t1 t2 t3
  clear rz tz
  obtain ⟨lb, w00, w01, w02, w03⟩ := word_cells (HW.out.exx HS5.out.1) HX0.out
  rw [← HT0.out] at w01
  obtain ⟨lb, w10, w11, w12, w13⟩ := word_cells (HW.out.exx HS5.out.1) HX1.out
  rw [← HT1.out] at w11
  obtain ⟨lb, w20, w21, w22, w23⟩ := word_cells (HW.out.exx HS5.out.1) HX2.out
  rw [← HT2.out] at w21
  obtain ⟨lb, w30, w31, w32, w33⟩ := word_cells (HW.out.exx HS5.out.1) HX3.out
  rw [← HT3.out] at w31
  obtain ⟨lb, w40, w41, w42, w43⟩ := word_cells (HW.out.exx HS5.out.1) HX4.out
  rw [← HT4.out] at w41
  obtain ⟨lb, w50, w51, w52, w53⟩ := word_cells (HW.out.exx HS5.out.1) HX5.out
  rw [← HT5.out] at w51
  go_wp2_with fail
  refine (Hi5.out _).mono ?_
  rintro e W6 ⟨rfl, hz⟩
  have HS6 : Hid (Ex w W6 ∧ Zero6 W6 w.heap.size ∧ Blk W6 nb 66 [.int .i64 (x0.kind : Nat), .string ⟨#[99, 104, 97, 110, 110, 101, 108]⟩, .int .i64 (x0.pos.1 : Nat), .int .i64 (x0.pos.2 : Nat)]) := ⟨HS5.out.1.trans hz, HS5.out.2.1.ex hz, HS5.out.2.2.ex hz⟩
  clear hz
  clear lz r0 r1 r2 r3 r4 r5 f0 f1 f2 f3 f4 f5 lt t0 t1 t2 t3
  clear lb w00 w01 w02 w03 w10 w11 w12 w13 w20 w21 w22 w23 w30 w31 w32 w33 w40 w41 w42 w43 w50 w51 w52 w53
  have rz := HS6.out.2.1
  have lz := rz.lt
  have r0 := rz.cell 0
  have r1 := rz.cell 1
  have r2 := rz.cell 2
  have r3 := rz.cell 3
  have r4 := rz.cell 4
  have r5 := rz.cell 5
  have f0 := rz.frozen 0
  have f1 := rz.frozen 1
  have f2 := rz.frozen 2
  have f3 := rz.frozen 3
  have f4 := rz.frozen 4
  have f5 := rz.frozen 5
  simp only [List.getElem?_cons_zero, List.getElem?_cons_succ] at r0 r1 r2 r3 r4 r5
  have tz := HS6.out.2.2
  have lt := tz.lt
  have t0 := tz.cell 0
  have t1 := tz.cell 1
  have t2 := tz.cell 2
  have t3 := tz.cell 3
  simp only [List.getElem?_cons_zero, List.getElem?_cons_succ] at t0 t1 t2 t3
  clear rz tz
  obtain ⟨lb, w00, w01, w02, w03⟩ := word_cells (HW.out.exx HS6.out.1) HX0.out
  rw [← HT0.out] at w01
  obtain ⟨lb, w10, w11, w12, w13⟩ := word_cells (HW.out.exx HS6.out.1) HX1.out
  rw [← HT1.out] at w11
  obtain ⟨lb, w20, w21, w22, w23⟩ := word_cells (HW.out.exx HS6.out.1) HX2.out
  rw [← HT2.out] at w21
  obtain ⟨lb, w30, w31, w32, w33⟩ := word_cells (HW.out.exx HS6.out.1) HX3.out
  rw [← HT3.out] at w31
  obtain ⟨lb, w40, w41, w42, w43⟩ := word_cells (HW.out.exx HS6.out.1) HX4.out
  rw [← HT4.out] at w41
  obtain ⟨lb, w50, w51, w52, w53⟩ := word_cells (HW.out.exx HS6.out.1) HX5.out
  rw [← HT5.out] at w51
  go_wp2_with fail
  go_region
  all_goals go_wp2_with fail
  refine bodyPost_ret (results_par rfl rfl rfl rfl ((blk6 HS6.out.2.1 _ _ _ _ _ _).drew)) rfl ?_
  exact ⟨rfl, (ex6 (Nat.le_refl _) HS6.out.1 _ _ _ _ _ _).drew⟩
set_option maxRecDepth 100000 in
set_option maxHeartbeats 3200000 in
theorem at_var_ok (ws : List Wd) (b o c i : Nat) (x0 x1 x2 : Wd) (w : World) (hrw : Rw w b o (wdsV ws)) (hlen : ws.length ≤ 100000) (hx0 : ws[i]? = some x0) (hx1 : ws[i + 1]? = some x1) (hx2 : ws[i + 2]? = some x2) (hk : x0.kind = 2) (v0 : x0.text ≠ [116, 114, 117, 101]) (v1 : x0.text ≠ [102, 97, 108, 115, 101]) (v2 : x0.text ≠ [99, 111, 117, 110, 116]) (v3 : x0.text ≠ [99, 104, 97, 110, 110, 101, 108]) (h0 : isS x0 [40] = false) (g0 : nmS x0 = true) (gl0 : x0.text.length ≤ 16384) (h1 : isS x1 [46] = true) (g2 : nmS x2 = true) (gl2 : x2.text.length ≤ 16384) :
    Calls Tryz.prog 84 #[.slice (some ⟨b, o, none⟩) ws.length c, .int .i64 (i : Nat)] w (Ret w (triV (2) (0) (⟨(x0.text ++ 46 :: x2.text).toArray⟩) (i + 3) true)) := by
  have HW := Lib.hid hrw
  have HX0 := Lib.hid hx0
  have HX1 := Lib.hid hx1
  have HX2 := Lib.hid hx2
  have hil : i + 2 < ws.length := (List.getElem?_eq_some_iff.1 hx2).1
  have m0 : (i : Int) < (ws.length : Int) := by omega
  have m1 : (i : Int) + 1 < (ws.length : Int) := by omega
  have m2 : (i : Int) + 2 < (ws.length : Int) := by omega
  have mm : (0 : Int) ≤ (i : Int) := by omega
  have mw : (ws.length : Int) ≤ 100000 := by omega
  obtain ⟨TB0, hTB⟩ : ∃ T : ByteArray, T = ⟨x0.text.toArray⟩ := ⟨_, rfl⟩
  have HT0 := Lib.hid hTB
  clear hTB
  obtain ⟨TB1, hTB⟩ : ∃ T : ByteArray, T = ⟨x1.text.toArray⟩ := ⟨_, rfl⟩
  have HT1 := Lib.hid hTB
  clear hTB
  obtain ⟨TB2, hTB⟩ : ∃ T : ByteArray, T = ⟨x2.text.toArray⟩ := ⟨_, rfl⟩
  have HT2 := Lib.hid hTB
  clear hTB
  have HS0 : Hid (Ex w ((w.alloc (.cells #[.int .i64 0, .int .i64 0, .int .i64 0, .int .i64 0, .string ⟨#[]⟩, .slice none 0 0] 24)).alloc (.cells #[.int .i64 (x0.kind : Nat), .string TB0, .int .i64 (x0.pos.1 : Nat), .int .i64 (x0.pos.2 : Nat)] 66)) ∧ Zero6 ((w.alloc (.cells #[.int .i64 0, .int .i64 0, .int .i64 0, .int .i64 0, .string ⟨#[]⟩, .slice none 0 0] 24)).alloc (.cells #[.int .i64 (x0.kind : Nat), .string TB0, .int .i64 (x0.pos.1 : Nat), .int .i64 (x0.pos.2 : Nat)] 66)) w.heap.size ∧ Blk ((w.alloc (.cells #[.int .i64 0, .int .i64 0, .int .i64 0, .int .i64 0, .string ⟨#[]⟩, .slice none 0 0] 24)).alloc (.cells #[.int .i64 (x0.kind : Nat), .string TB0, .int .i64 (x0.pos.1 : Nat), .int .i64 (x0.pos.2 : Nat)] 66)) (w.heap.size + 1) 66 [.int .i64 (x0.kind : Nat), .string TB0, .int .i64 (x0.pos.1 : Nat), .int .i64 (x0.pos.2 : Nat)]) := ⟨((Ex.refl w).alloc _).alloc _, (Blk.new w _ _).alloc _, Blk.new' _ (by simp) _ _⟩
  have vt0 : (TB0.toList == [116, 114, 117, 101]) = false := by
    rw [HT0.out, Lib.toList_data]
    exact beq_eq_false_iff_ne.2 v0
  have vu0 : (TB0.toList == (⟨#[116, 114, 117, 101]⟩ : ByteArray).toList) = false := by
    rw [HT0.out, Lib.toList_data, Lib.toList_data]
    exact beq_eq_false_iff_ne.2 v0
  clear v0
  have vt1 : (TB0.toList == [102, 97, 108, 115, 101]) = false := by
    rw [HT0.out, Lib.toList_data]
    exact beq_eq_false_iff_ne.2 v1
  have vu1 : (TB0.toList == (⟨#[102, 97, 108, 115, 101]⟩ : ByteArray).toList) = false := by
    rw [HT0.out, Lib.toList_data, Lib.toList_data]
    exact beq_eq_false_iff_ne.2 v1
  clear v1
  have vt2 : (TB0.toList == [99, 111, 117, 110, 116]) = false := by
    rw [HT0.out, Lib.toList_data]
    exact beq_eq_false_iff_ne.2 v2
  have vu2 : (TB0.toList == (⟨#[99, 111, 117, 110, 116]⟩ : ByteArray).toList) = false := by
    rw [HT0.out, Lib.toList_data, Lib.toList_data]
    exact beq_eq_false_iff_ne.2 v2
  clear v2
  have vt3 : (TB0.toList == [99, 104, 97, 110, 110, 101, 108]) = false := by
    rw [HT0.out, Lib.toList_data]
    exact beq_eq_false_iff_ne.2 v3
  have vu3 : (TB0.toList == (⟨#[99, 104, 97, 110, 110, 101, 108]⟩ : ByteArray).toList) = false := by
    rw [HT0.out, Lib.toList_data, Lib.toList_data]
    exact beq_eq_false_iff_ne.2 v3
  clear v3
  have Hi0 : Hid (∀ w, Calls Tryz.prog 83 #[.agg #[.int .i64 (x0.kind : Nat), .string TB0, .int .i64 (x0.pos.1 : Nat), .int .i64 (x0.pos.2 : Nat)], .string ⟨#[40]⟩] w (Ret w (.bool false))) := fun w => by
    rw [HT0.out, ← h0]
    exact rIs_c x0 ⟨#[40]⟩ w
  clear h0
  have Hn0 : Hid (∀ w, Calls Tryz.prog 114 #[.agg #[.int .i64 (x0.kind : Nat), .string TB0, .int .i64 (x0.pos.1 : Nat), .int .i64 (x0.pos.2 : Nat)]] w (Ret w (.bool true))) := fun w => by
    rw [HT0.out, ← g0]
    exact rName_c x0 w gl0
  clear g0
  have Hi1 : Hid (∀ w, Calls Tryz.prog 83 #[.agg #[.int .i64 (x1.kind : Nat), .string TB1, .int .i64 (x1.pos.1 : Nat), .int .i64 (x1.pos.2 : Nat)], .string ⟨#[46]⟩] w (Ret w (.bool true))) := fun w => by
    rw [HT1.out, ← h1]
    exact rIs_c x1 ⟨#[46]⟩ w
  clear h1
  have Hn2 : Hid (∀ w, Calls Tryz.prog 114 #[.agg #[.int .i64 (x2.kind : Nat), .string TB2, .int .i64 (x2.pos.1 : Nat), .int .i64 (x2.pos.2 : Nat)]] w (Ret w (.bool true))) := fun w => by
    rw [HT2.out, ← g2]
    exact rName_c x2 w gl2
  clear g2
  have e1 : (((x0.kind : Nat) : Int) == 1) = false := beq_eq_false_iff_ne.2 (by omega)
  have e2 : (x0.kind == 1) = false := beq_eq_false_iff_ne.2 (by omega)
  have e3 : (((x0.kind : Nat) : Int) != 1) = true := by rw [bne_iff_ne]; omega
  have e4 : (x0.kind != 1) = true := by rw [bne_iff_ne]; omega
  have ee1 : (((x0.kind : Nat) : Int) == 2) = true := by rw [beq_iff_eq]; omega
  have ee2 : (x0.kind == 2) = true := by rw [beq_iff_eq]; omega
  have ee3 : (((x0.kind : Nat) : Int) != 2) = false := by unfold bne; rw [ee1]; rfl
  have ee4 : (x0.kind != 2) = false := by unfold bne; rw [ee2]; rfl
  clear hk
  obtain ⟨JA, hJA⟩ : ∃ X : ByteArray, X = TB0 ++ (⟨#[46]⟩ : ByteArray) := ⟨_, rfl⟩
  obtain ⟨JB, hJB⟩ : ∃ X : ByteArray, X = JA ++ TB2 := ⟨_, rfl⟩
  have z2 : TB0.size ≤ 16384 := by rw [HT0.out, size_data]; exact gl0
  have z4 : TB2.size ≤ 16384 := by rw [HT2.out, size_data]; exact gl2
  have a1 := add_ok hJA (by show TB0.size + 1 ≤ _; omega)
  have a2 := add_ok hJB (by rw [hJA, ByteArray.size_append]; show TB0.size + 1 + TB2.size ≤ _; omega)
  have HJR : Hid ((⟨(x0.text ++ 46 :: x2.text).toArray⟩ : ByteArray) = JB) := by
    unfold Hid
    rw [hJB, hJA, HT0.out, HT2.out]
    apply ByteArray.ext
    simp
  rw [HJR.out]
  clear hJA hJB z2 z4
  obtain ⟨lb, w00, w01, w02, w03⟩ := word_cells (HW.out.exx (Ex.refl w)) HX0.out
  rw [← HT0.out] at w01
  obtain ⟨lb, w10, w11, w12, w13⟩ := word_cells (HW.out.exx (Ex.refl w)) HX1.out
  rw [← HT1.out] at w11
  obtain ⟨lb, w20, w21, w22, w23⟩ := word_cells (HW.out.exx (Ex.refl w)) HX2.out
  rw [← HT2.out] at w21
  clear hrw hlen hil hx0 hx1 hx2
  go_enter Tryz.func84, Tryz.ntmps84
  go_wp2_with fail
  generalize w.heap.size + 1 = nb at *
  refine (Hi0.out _).mono ?_
  rintro e W1 ⟨rfl, hz⟩
  have HS1 : Hid (Ex w W1 ∧ Zero6 W1 w.heap.size ∧ Blk W1 nb 66 [.int .i64 (x0.kind : Nat), .string TB0, .int .i64 (x0.pos.1 : Nat), .int .i64 (x0.pos.2 : Nat)]) := ⟨HS0.out.1.trans hz, HS0.out.2.1.ex hz, HS0.out.2.2.ex hz⟩
  clear hz
  clear lb w00 w01 w02 w03 w10 w11 w12 w13 w20 w21 w22 w23
  have rz := HS1.out.2.1
  have lz := rz.lt
  have r0 := rz.cell 0
  have r1 := rz.cell 1
  have r2 := rz.cell 2
  have r3 := rz.cell 3
  have r4 := rz.cell 4
  have r5 := rz.cell 5
  have f0 := rz.frozen 0
  have f1 := rz.frozen 1
  have f2 := rz.frozen 2
  have f3 := rz.frozen 3
  have f4 := rz.frozen 4
  have f5 := rz.frozen 5
  simp only [List.getElem?_cons_zero, List.getElem?_cons_succ] at r0 r1 r2 r3 r4 r5
  have tz := HS1.out.2.2
  have lt := tz.lt
  have t0 := tz.cell 0
  have t1 := tz.cell 1
  have t2 := tz.cell 2
  have t3 := tz.cell 3
  simp only [List.getElem?_cons_zero, List.getElem?_cons_succ] at t0 t1 t2 t3
  clear rz tz
  obtain ⟨lb, w00, w01, w02, w03⟩ := word_cells (HW.out.exx HS1.out.1) HX0.out
  rw [← HT0.out] at w01
  obtain ⟨lb, w10, w11, w12, w13⟩ := word_cells (HW.out.exx HS1.out.1) HX1.out
  rw [← HT1.out] at w11
  obtain ⟨lb, w20, w21, w22, w23⟩ := word_cells (HW.out.exx HS1.out.1) HX2.out
  rw [← HT2.out] at w21
  go_wp2_with fail
  refine (Hn0.out _).mono ?_
  rintro e W2 ⟨rfl, hz⟩
  have HS2 : Hid (Ex w W2 ∧ Zero6 W2 w.heap.size ∧ Blk W2 nb 66 [.int .i64 (x0.kind : Nat), .string TB0, .int .i64 (x0.pos.1 : Nat), .int .i64 (x0.pos.2 : Nat)]) := ⟨HS1.out.1.trans hz, HS1.out.2.1.ex hz, HS1.out.2.2.ex hz⟩
  clear hz
  clear lz r0 r1 r2 r3 r4 r5 f0 f1 f2 f3 f4 f5 lt t0 t1 t2 t3
  clear lb w00 w01 w02 w03 w10 w11 w12 w13 w20 w21 w22 w23
  have rz := HS2.out.2.1
  have lz := rz.lt
  have r0 := rz.cell 0
  have r1 := rz.cell 1
  have r2 := rz.cell 2
  have r3 := rz.cell 3
  have r4 := rz.cell 4
  have r5 := rz.cell 5
  have f0 := rz.frozen 0
  have f1 := rz.frozen 1
  have f2 := rz.frozen 2
  have f3 := rz.frozen 3
  have f4 := rz.frozen 4
  have f5 := rz.frozen 5
  simp only [List.getElem?_cons_zero, List.getElem?_cons_succ] at r0 r1 r2 r3 r4 r5
  have tz := HS2.out.2.2
  have lt := tz.lt
  have t0 := tz.cell 0
  have t1 := tz.cell 1
  have t2 := tz.cell 2
  have t3 := tz.cell 3
  simp only [List.getElem?_cons_zero, List.getElem?_cons_succ] at t0 t1 t2 t3
  clear rz tz
  obtain ⟨lb, w00, w01, w02, w03⟩ := word_cells (HW.out.exx HS2.out.1) HX0.out
  rw [← HT0.out] at w01
  obtain ⟨lb, w10, w11, w12, w13⟩ := word_cells (HW.out.exx HS2.out.1) HX1.out
  rw [← HT1.out] at w11
  obtain ⟨lb, w20, w21, w22, w23⟩ := word_cells (HW.out.exx HS2.out.1) HX2.out
  rw [← HT2.out] at w21
  go_wp2_with fail
  refine (Hi1.out _).mono ?_
  rintro e W3 ⟨rfl, hz⟩
  have HS3 : Hid (Ex w W3 ∧ Zero6 W3 w.heap.size ∧ Blk W3 nb 66 [.int .i64 (x0.kind : Nat), .string TB0, .int .i64 (x0.pos.1 : Nat), .int .i64 (x0.pos.2 : Nat)]) := ⟨HS2.out.1.trans hz, HS2.out.2.1.ex hz, HS2.out.2.2.ex hz⟩
  clear hz
  clear lz r0 r1 r2 r3 r4 r5 f0 f1 f2 f3 f4 f5 lt t0 t1 t2 t3
  clear lb w00 w01 w02 w03 w10 w11 w12 w13 w20 w21 w22 w23
  have rz := HS3.out.2.1
  have lz := rz.lt
  have r0 := rz.cell 0
  have r1 := rz.cell 1
  have r2 := rz.cell 2
  have r3 := rz.cell 3
  have r4 := rz.cell 4
  have r5 := rz.cell 5
  have f0 := rz.frozen 0
  have f1 := rz.frozen 1
  have f2 := rz.frozen 2
  have f3 := rz.frozen 3
  have f4 := rz.frozen 4
  have f5 := rz.frozen 5
  simp only [List.getElem?_cons_zero, List.getElem?_cons_succ] at r0 r1 r2 r3 r4 r5
  have tz := HS3.out.2.2
  have lt := tz.lt
  have t0 := tz.cell 0
  have t1 := tz.cell 1
  have t2 := tz.cell 2
  have t3 := tz.cell 3
  simp only [List.getElem?_cons_zero, List.getElem?_cons_succ] at t0 t1 t2 t3
  clear rz tz
  obtain ⟨lb, w00, w01, w02, w03⟩ := word_cells (HW.out.exx HS3.out.1) HX0.out
  rw [← HT0.out] at w01
  obtain ⟨lb, w10, w11, w12, w13⟩ := word_cells (HW.out.exx HS3.out.1) HX1.out
  rw [← HT1.out] at w11
  obtain ⟨lb, w20, w21, w22, w23⟩ := word_cells (HW.out.exx HS3.out.1) HX2.out
  rw [← HT2.out] at w21
  go_wp2_with fail
  refine (Hn2.out _).mono ?_
  rintro e W4 ⟨rfl, hz⟩
  have HS4 : Hid (Ex w W4 ∧ Zero6 W4 w.heap.size ∧ Blk W4 nb 66 [.int .i64 (x0.kind : Nat), .string TB0, .int .i64 (x0.pos.1 : Nat), .int .i64 (x0.pos.2 : Nat)]) := ⟨HS3.out.1.trans hz, HS3.out.2.1.ex hz, HS3.out.2.2.ex hz⟩
  clear hz
  clear lz r0 r1 r2 r3 r4 r5 f0 f1 f2 f3 f4 f5 lt t0 t1 t2 t3
  clear lb w00 w01 w02 w03 w10 w11 w12 w13 w20 w21 w22 w23
  have rz := HS4.out.2.1
  have lz := rz.lt
  have r0 := rz.cell 0
  have r1 := rz.cell 1
  have r2 := rz.cell 2
  have r3 := rz.cell 3
  have r4 := rz.cell 4
  have r5 := rz.cell 5
  have f0 := rz.frozen 0
  have f1 := rz.frozen 1
  have f2 := rz.frozen 2
  have f3 := rz.frozen 3
  have f4 := rz.frozen 4
  have f5 := rz.frozen 5
  simp only [List.getElem?_cons_zero, List.getElem?_cons_succ] at r0 r1 r2 r3 r4 r5
  have tz := HS4.out.2.2
  have lt := tz.lt
  have t0 := tz.cell 0
  have t1 := tz.cell 1
  have t2 := tz.cell 2
  have t3 := tz.cell 3
  simp only [List.getElem?_cons_zero, List.getElem?_cons_succ] at t0 t1 t2 t3
  clear rz tz
  obtain ⟨lb, w00, w01, w02, w03⟩ := word_cells (HW.out.exx HS4.out.1) HX0.out
  rw [← HT0.out] at w01
  obtain ⟨lb, w10, w11, w12, w13⟩ := word_cells (HW.out.exx HS4.out.1) HX1.out
  rw [← HT1.out] at w11
  obtain ⟨lb, w20, w21, w22, w23⟩ := word_cells (HW.out.exx HS4.out.1) HX2.out
  rw [← HT2.out] at w21
  go_wp2_with fail
  go_region
  all_goals go_wp2_with fail
  refine bodyPost_ret (results_par rfl rfl rfl rfl ((blk6 HS4.out.2.1 _ _ _ _ _ _).drew)) rfl ?_
  exact ⟨rfl, (ex6 (Nat.le_refl _) HS4.out.1 _ _ _ _ _ _).drew⟩
theorem right_nm {T : List UInt8} (h : Right 2 T) : nmB T = true := by
  have h1 := h.1
  cases T with
  | nil => simp [firstL] at h1
  | cons c r =>
    unfold firstL at h1
    dsimp only at h1
    split at h1
    · injection h1 with h1 _; omega
    · split at h1
      · rename_i hc
        injection h1 with _ h2
        injection h2 with h2 h3
        have h16 : spanL partB (c :: r) ≤ 16 := by
          by_cases h : spanL partB (c :: r) ≤ 16
          · exact h
          · rw [if_neg h] at h3; omega
        have hn : nameL (c :: r) = (c :: r).length := by
          unfold nameL
          dsimp only
          rw [if_pos hc, h2]
        rw [h2] at h16
        unfold nmB
        rw [hn]
        simp only [List.length_cons] at h16 ⊢
        simp
        omega
      · split at h1
        · injection h1 with h1 _; omega
        · injection h1 with h1 _; omega
/-- a word as the lexer gives it -/
def Gw (x : Wd) : Prop := (x.kind = 4 ∧ x.text = []) ∨ (Right x.kind x.text ∧ x.text.length ≤ 16384)
theorem Gw.len {x : Wd} (h : Gw x) : x.text.length ≤ 16384 := by
  rcases h with ⟨_, h⟩ | ⟨_, h⟩
  · rw [h]; simp
  · exact h
theorem WfW.gw {ws : List Wd} (h : WfW ws) {i : Nat} {x : Wd} (hx : ws[i]? = some x) : Gw x := by
  obtain ⟨us, E, rfl, hE, hT, hu⟩ := h
  by_cases hi : i < us.length
  · rw [List.getElem?_append_left hi] at hx
    exact .inr (hu x (List.mem_of_getElem? hx))
  · rw [List.getElem?_append_right (by omega)] at hx
    have h0 : i - us.length = 0 := by
      have := (List.getElem?_eq_some_iff.1 hx).1
      simp at this
      omega
    rw [h0] at hx
    injection hx with hx
    rw [← hx]
    exact .inl ⟨hE, hT⟩
theorem WfW.more {ws : List Wd} (h : WfW ws) {i : Nat} {x : Wd} (hx : ws[i]? = some x) (hk : x.kind ≠ 4) : ∃ y, ws[i + 1]? = some y := by
  obtain ⟨us, E, rfl, hE, hT, hu⟩ := h
  by_cases hi : i < us.length
  · exact ⟨_, List.getElem?_eq_getElem (by simp; omega)⟩
  · rw [List.getElem?_append_right (by omega)] at hx
    have h0 : i - us.length = 0 := by
      have := (List.getElem?_eq_some_iff.1 hx).1
      simp at this
      omega
    rw [h0] at hx
    injection hx with hx
    exact absurd (by rw [← hx]; exact hE) hk
abbrev ksAt (ws : List Wd) (i : Nat) : List K := (ws.drop i).map key
theorem hd_at {ws : List Wd} {i : Nat} {x : Wd} (hx : ws[i]? = some x) : hd (ksAt ws i) = key x := by
  obtain ⟨hl, he⟩ := List.getElem?_eq_some_iff.1 hx
  unfold ksAt
  rw [List.drop_eq_getElem_cons hl, he]
  rfl
theorem tail_at (ws : List Wd) (i : Nat) : (ksAt ws i).tail = ksAt ws (i + 1) := by
  unfold ksAt
  rw [← List.map_tail, List.tail_drop]
theorem is_T {x : Wd} {S : List UInt8} {n : Nat} (hx : Gw x) (hS : firstL S = (3, n, 0)) : isS x S = isT (key x) S := by
  unfold isS isT key
  dsimp only
  rcases hx with ⟨h4, _⟩ | ⟨hr, _⟩
  · rw [h4]; rfl
  · by_cases ht : x.text = S
    · have h1 := hr.1
      rw [ht, hS] at h1
      injection h1 with h1 _
      rw [decide_eq_true ht, ← h1]; rfl
    · rw [decide_eq_false ht]; simp
theorem key_T {x : Wd} {S : List UInt8} {n : Nat} (hx : Gw x) (hS : firstL S = (2, n, 0)) : (decide (x.kind = 2) && decide (x.text = S)) = isT (key x) S := by
  unfold isT key
  dsimp only
  rcases hx with ⟨h4, _⟩ | ⟨hr, _⟩
  · rw [h4]; rfl
  · by_cases ht : x.text = S
    · have h1 := hr.1
      rw [ht, hS] at h1
      injection h1 with h1 _
      rw [decide_eq_true ht, ← h1]; rfl
    · rw [decide_eq_false ht]; simp
theorem both_T {x : Wd} {S : List UInt8} {n m : Nat} (hx : Gw x) (hS : firstL S = (m, n, 0)) (hm : m = 2 ∨ m = 3) : (decide (x.text = S) && (decide (x.kind = 3) || decide (x.kind = 2))) = isT (key x) S := by
  unfold isT key
  dsimp only
  rcases hx with ⟨h4, _⟩ | ⟨hr, _⟩
  · rw [h4]; simp
  · by_cases ht : x.text = S
    · have h1 := hr.1
      rw [ht, hS] at h1
      injection h1 with h1 _
      rw [decide_eq_true ht, ← h1]
      rcases hm with rfl | rfl <;> rfl
    · rw [decide_eq_false ht]; simp
theorem nm_N {x : Wd} (hx : Gw x) : nmS x = isNm (key x) := by
  unfold nmS isNm key wordB
  dsimp only
  by_cases hk : x.kind = 2
  · rcases hx with ⟨h4, _⟩ | ⟨hr, _⟩
    · omega
    · rw [hk] at hr
      rw [show nmB (⟨x.text.toArray⟩ : ByteArray).data.toList = true from right_nm hr]
      simp
  · rw [decide_eq_false hk]; rfl
/-- what parse leaves -/
def ParR (w : World) (ws : List Wd) (x : PR) (e : Ending) (w' : World) : Prop := match x with
  | .ok t r => ∃ j, j < ws.length ∧ r = ksAt ws j ∧ ∃ (k n p q : Int) (s : ByteArray) (A : Option Addr) (m c : Nat), e = .returned (.tuple #[.agg #[.int .i64 k, .int .i64 n, .int .i64 p, .int .i64 q, .string s, .slice A m c], .int .i64 (j : Nat), .bool true]) ∧ TrC (fun b => w.heap.size ≤ b) w' t (c6 k n p q s A m c) ∧ Ex w w'
  | .bad r => ∃ j, j < ws.length ∧ r = ksAt ws j ∧ e = .returned (triV 0 0 ⟨#[]⟩ j false) ∧ Ex w w'
  | .stuck => True
theorem par_bad {w : World} {ws : List Wd} {j : Nat} {x : Wd} (hx : ws[j]? = some x) {e : Ending} {w' : World} (h : Ret w (triV 0 0 ⟨#[]⟩ j false) e w') : ParR w ws (.bad (ksAt ws j)) e w' :=
  ⟨j, (List.getElem?_eq_some_iff.1 hx).1, rfl, h.1, h.2⟩
theorem par_lf (w : World) (ws : List Wd) (k n : Int) (S : ByteArray) {j : Nat} {x : Wd} (hx : ws[j]? = some x) {e : Ending} {w' : World} (h : Ret w (triV k n S j true) e w') : ParR w ws (.ok (.node k n 0 0 S []) (ksAt ws j)) e w' :=
  ⟨j, (List.getElem?_eq_some_iff.1 hx).1, rfl, k, n, 0, 0, S, none, 0, 0, h.1, .leaf k n 0 0 S none 0, h.2⟩
theorem ks_end {ws : List Wd} (h : WfW ws) {i : Nat} (hi : i < ws.length) : ∃ s, ksAt ws i = s ++ [kEnd] := by
  obtain ⟨us, E, rfl, hE, hT, hu⟩ := h
  refine ⟨(us.drop i).map key, ?_⟩
  unfold ksAt
  rw [List.drop_append_of_le_length (by simp at hi; omega), List.map_append]
  congr 1
  simp [key, hE, hT]
theorem suf_ks {ws : List Wd} {i : Nat} {r : List K} (hs : Suf r (ksAt ws i)) (hr : ∃ r', r = r' ++ [kEnd]) : ∃ j, j < ws.length ∧ r = ksAt ws j := by
  obtain ⟨n, rfl⟩ := hs
  obtain ⟨r', hr⟩ := hr
  unfold ksAt at hr ⊢
  rw [← List.map_drop, List.drop_drop] at hr ⊢
  refine ⟨i + n, ?_, rfl⟩
  have := congrArg List.length hr
  simp at this
  omega
/-- where a result of the parser stands -/
theorem pz_at {ws : List Wd} (hW : WfW ws) {i : Nat} (hi : i < ws.length) (f lv : Nat) (o : Option Tr) : ∀ t r, (pz f lv o (ksAt ws i) = .ok t r ∨ pz f lv o (ksAt ws i) = .bad r) → ∃ j, j < ws.length ∧ r = ksAt ws j := by
  intro t r h
  obtain ⟨s, hs⟩ := ks_end hW hi
  have hk := pz_kp f lv o s
  rw [← hs] at hk
  refine suf_ks (i := i) ?_ (hk t r h)
  cases o with
  | none =>
    have hf := fine f lv (ksAt ws i)
    rcases h with h | h
    · rw [h] at hf; exact hf.1
    · rw [h] at hf; exact hf
  | some u => exact fine_chain f lv u _ h
/-- a tree that a call hands back, with the place behind it -/
def TreeAt (w : World) (t : Tr) (j : Nat) (e : Ending) (w' : World) : Prop := ∃ (k n p q : Int) (s : ByteArray) (A : Option Addr) (m c : Nat), e = .returned (.tuple #[.agg #[.int .i64 k, .int .i64 n, .int .i64 p, .int .i64 q, .string s, .slice A m c], .int .i64 (j : Nat), .bool true]) ∧ TrC (fun b => w.heap.size ≤ b) w' t (c6 k n p q s A m c) ∧ Ex w w'
theorem tree_end {w W : World} {R : Nat} {Q : Nat → Prop} {t : Tr} {j : Nat} {k n p q : Int} {s : ByteArray} {A : Option Addr} {m c : Nat} (hR : w.heap.size ≤ R) (ht : TrC Q W t (c6 k n p q s A m c)) (hQ : ∀ b, Q b → w.heap.size ≤ b ∧ b ≠ R) (hx : Ex w W) :
    TreeAt w t j (.returned (.tuple #[.agg #[.int .i64 k, .int .i64 n, .int .i64 p, .int .i64 q, .string s, .slice A m c], .int .i64 (j : Nat), .bool true])) (st6 W R (.int .i64 k) (.int .i64 n) (.int .i64 p) (.int .i64 q) (.string s) (.slice A m c)) := by
  have q1 : ∀ b, Q b → b ≠ R := fun b h => (hQ b h).2
  exact ⟨k, n, p, q, s, A, m, c, rfl, ((((((ht.far q1 _).far q1 _).far q1 _).far q1 _).far q1 _).far q1 _).imp (fun b _ h => (hQ b h).1), ex6 hR hx _ _ _ _ _ _⟩
set_option maxRecDepth 100000 in
set_option maxHeartbeats 3200000 in
theorem at_par_bad (ws : List Wd) (b o c i j : Nat) (x0 : Wd) (w : World) (hrw : Rw w b o (wdsV ws)) (hlen : ws.length ≤ 100000) (hx0 : ws[i]? = some x0) (hk : x0.kind ≠ 1) (h0 : isS x0 [40] = true) (HP0 : ∀ w', Ex w w' → Calls Tryz.prog 53 #[.slice (some ⟨b, o, none⟩) ws.length c, .int .i64 ((i : Int) + 1), .int .i64 0] w' (Ret w' (triV 0 0 ⟨#[]⟩ j false))) :
    Calls Tryz.prog 84 #[.slice (some ⟨b, o, none⟩) ws.length c, .int .i64 (i : Nat)] w (Ret w (triV 0 0 ⟨#[]⟩ j false)) := by
  have HW := Lib.hid hrw
  have HX0 := Lib.hid hx0

  have hil : i < ws.length := (List.getElem?_eq_some_iff.1 hx0).1
  have m0 : (i : Int) < (ws.length : Int) := by omega


  have mj0 : (0 : Int) ≤ (j : Int) := by omega
  have mm : (0 : Int) ≤ (i : Int) := by omega
  have mw : (ws.length : Int) ≤ 100000 := by omega
  obtain ⟨TB0, hTB⟩ : ∃ T : ByteArray, T = ⟨x0.text.toArray⟩ := ⟨_, rfl⟩
  have HT0 := Lib.hid hTB
  clear hTB



  have HS0 : Hid (Ex w ((w.alloc (.cells #[.int .i64 0, .int .i64 0, .int .i64 0, .int .i64 0, .string ⟨#[]⟩, .slice none 0 0] 24)).alloc (.cells #[.int .i64 (x0.kind : Nat), .string TB0, .int .i64 (x0.pos.1 : Nat), .int .i64 (x0.pos.2 : Nat)] 66)) ∧ Zero6 ((w.alloc (.cells #[.int .i64 0, .int .i64 0, .int .i64 0, .int .i64 0, .string ⟨#[]⟩, .slice none 0 0] 24)).alloc (.cells #[.int .i64 (x0.kind : Nat), .string TB0, .int .i64 (x0.pos.1 : Nat), .int .i64 (x0.pos.2 : Nat)] 66)) w.heap.size ∧ Blk ((w.alloc (.cells #[.int .i64 0, .int .i64 0, .int .i64 0, .int .i64 0, .string ⟨#[]⟩, .slice none 0 0] 24)).alloc (.cells #[.int .i64 (x0.kind : Nat), .string TB0, .int .i64 (x0.pos.1 : Nat), .int .i64 (x0.pos.2 : Nat)] 66)) (w.heap.size + 1) 66 [.int .i64 (x0.kind : Nat), .string TB0, .int .i64 (x0.pos.1 : Nat), .int .i64 (x0.pos.2 : Nat)]) := ⟨((Ex.refl w).alloc _).alloc _, (Blk.new w _ _).alloc _, Blk.new' _ (by simp) _ _⟩
  have Hi0 : Hid (∀ w, Calls Tryz.prog 83 #[.agg #[.int .i64 (x0.kind : Nat), .string TB0, .int .i64 (x0.pos.1 : Nat), .int .i64 (x0.pos.2 : Nat)], .string ⟨#[40]⟩] w (Ret w (.bool true))) := fun w => by
    rw [HT0.out, ← h0]
    exact rIs_c x0 ⟨#[40]⟩ w
  clear h0
  have e1 : (((x0.kind : Nat) : Int) == 1) = false := beq_eq_false_iff_ne.2 (by omega)
  have e2 : (x0.kind == 1) = false := beq_eq_false_iff_ne.2 (by omega)
  have e3 : (((x0.kind : Nat) : Int) != 1) = true := by rw [bne_iff_ne]; omega
  have e4 : (x0.kind != 1) = true := by rw [bne_iff_ne]; omega
  clear hk
  have HP := Lib.hid HP0
  clear HP0
  unfold triV at HP
  obtain ⟨lb, w00, w01, w02, w03⟩ := word_cells (HW.out.exx (Ex.refl w)) HX0.out
  rw [← HT0.out] at w01
  clear hrw hlen hil hx0
  go_enter Tryz.func84, Tryz.ntmps84
  go_wp2_with fail
  generalize w.heap.size + 1 = nb at *
  refine (Hi0.out _).mono ?_
  rintro e W1 ⟨rfl, hz⟩
  have HS1 : Hid (Ex w W1 ∧ Zero6 W1 w.heap.size ∧ Blk W1 nb 66 [.int .i64 (x0.kind : Nat), .string TB0, .int .i64 (x0.pos.1 : Nat), .int .i64 (x0.pos.2 : Nat)] ∧ w.heap.size + 1 < W1.heap.size) := ⟨HS0.out.1.trans hz, HS0.out.2.1.ex hz, HS0.out.2.2.ex hz, by have := hz.below.size; simp at this; omega⟩
  clear hz
  clear lb w00 w01 w02 w03
  have rz := HS1.out.2.1
  have lz := rz.lt
  have r0 := rz.cell 0
  have r1 := rz.cell 1
  have r2 := rz.cell 2
  have r3 := rz.cell 3
  have r4 := rz.cell 4
  have r5 := rz.cell 5
  have f0 := rz.frozen 0
  have f1 := rz.frozen 1
  have f2 := rz.frozen 2
  have f3 := rz.frozen 3
  have f4 := rz.frozen 4
  have f5 := rz.frozen 5
  simp only [List.getElem?_cons_zero, List.getElem?_cons_succ] at r0 r1 r2 r3 r4 r5
  have tz := HS1.out.2.2.1
  have lt := tz.lt
  have t0 := tz.cell 0
  have t1 := tz.cell 1
  have t2 := tz.cell 2
  have t3 := tz.cell 3
  simp only [List.getElem?_cons_zero, List.getElem?_cons_succ] at t0 t1 t2 t3
  clear rz tz
  obtain ⟨lb, w00, w01, w02, w03⟩ := word_cells (HW.out.exx HS1.out.1) HX0.out
  rw [← HT0.out] at w01
  go_wp2_with fail
  refine (HP.out _ HS1.out.1).mono ?_
  rintro e W2 ⟨rfl, hz⟩
  have HS2 : Hid (Ex w W2 ∧ Zero6 W2 w.heap.size ∧ Blk W2 nb 66 [.int .i64 (x0.kind : Nat), .string TB0, .int .i64 (x0.pos.1 : Nat), .int .i64 (x0.pos.2 : Nat)]) := ⟨HS1.out.1.trans hz, HS1.out.2.1.ex hz, HS1.out.2.2.1.ex hz⟩
  clear hz
  clear lz r0 r1 r2 r3 r4 r5 f0 f1 f2 f3 f4 f5 lt t0 t1 t2 t3
  clear lb w00 w01 w02 w03
  have rz := HS2.out.2.1
  have lz := rz.lt
  have r0 := rz.cell 0
  have r1 := rz.cell 1
  have r2 := rz.cell 2
  have r3 := rz.cell 3
  have r4 := rz.cell 4
  have r5 := rz.cell 5
  have f0 := rz.frozen 0
  have f1 := rz.frozen 1
  have f2 := rz.frozen 2
  have f3 := rz.frozen 3
  have f4 := rz.frozen 4
  have f5 := rz.frozen 5
  simp only [List.getElem?_cons_zero, List.getElem?_cons_succ] at r0 r1 r2 r3 r4 r5
  have tz := HS2.out.2.2
  have lt := tz.lt
  have t0 := tz.cell 0
  have t1 := tz.cell 1
  have t2 := tz.cell 2
  have t3 := tz.cell 3
  simp only [List.getElem?_cons_zero, List.getElem?_cons_succ] at t0 t1 t2 t3
  clear rz tz
  go_wp2_with fail
  refine bodyPost_ret (results_par rfl rfl rfl rfl ((blk6 HS2.out.2.1 _ _ _ _ _ _).alloc _)) rfl ?_
  exact ⟨rfl, (ex6 (Nat.le_refl _) HS2.out.1 _ _ _ _ _ _).alloc _⟩
set_option maxRecDepth 100000 in
set_option maxHeartbeats 3200000 in
theorem at_par_no (ws : List Wd) (b o c i j : Nat) (x0 xj : Wd) (t : Tr) (w : World) (hrw : Rw w b o (wdsV ws)) (hlen : ws.length ≤ 100000) (hx0 : ws[i]? = some x0) (hxj : ws[j]? = some xj) (hk : x0.kind ≠ 1) (h0 : isS x0 [40] = true) (HP0 : ∀ w', Ex w w' → Calls Tryz.prog 53 #[.slice (some ⟨b, o, none⟩) ws.length c, .int .i64 ((i : Int) + 1), .int .i64 0] w' (TreeAt w' t j)) (hj : isS xj [41] = false) :
    Calls Tryz.prog 84 #[.slice (some ⟨b, o, none⟩) ws.length c, .int .i64 (i : Nat)] w (Ret w (triV 0 0 ⟨#[]⟩ j false)) := by
  have HW := Lib.hid hrw
  have HX0 := Lib.hid hx0
  have HXj := Lib.hid hxj
  have hil : i < ws.length := (List.getElem?_eq_some_iff.1 hx0).1
  have m0 : (i : Int) < (ws.length : Int) := by omega
  have hjl : j < ws.length := (List.getElem?_eq_some_iff.1 hxj).1
  have mj : (j : Int) < (ws.length : Int) := by omega
  have mj0 : (0 : Int) ≤ (j : Int) := by omega
  have mm : (0 : Int) ≤ (i : Int) := by omega
  have mw : (ws.length : Int) ≤ 100000 := by omega
  obtain ⟨TB0, hTB⟩ : ∃ T : ByteArray, T = ⟨x0.text.toArray⟩ := ⟨_, rfl⟩
  have HT0 := Lib.hid hTB
  clear hTB
  obtain ⟨TBj, hTB⟩ : ∃ T : ByteArray, T = ⟨xj.text.toArray⟩ := ⟨_, rfl⟩
  have HTj := Lib.hid hTB
  clear hTB
  have HS0 : Hid (Ex w ((w.alloc (.cells #[.int .i64 0, .int .i64 0, .int .i64 0, .int .i64 0, .string ⟨#[]⟩, .slice none 0 0] 24)).alloc (.cells #[.int .i64 (x0.kind : Nat), .string TB0, .int .i64 (x0.pos.1 : Nat), .int .i64 (x0.pos.2 : Nat)] 66)) ∧ Zero6 ((w.alloc (.cells #[.int .i64 0, .int .i64 0, .int .i64 0, .int .i64 0, .string ⟨#[]⟩, .slice none 0 0] 24)).alloc (.cells #[.int .i64 (x0.kind : Nat), .string TB0, .int .i64 (x0.pos.1 : Nat), .int .i64 (x0.pos.2 : Nat)] 66)) w.heap.size ∧ Blk ((w.alloc (.cells #[.int .i64 0, .int .i64 0, .int .i64 0, .int .i64 0, .string ⟨#[]⟩, .slice none 0 0] 24)).alloc (.cells #[.int .i64 (x0.kind : Nat), .string TB0, .int .i64 (x0.pos.1 : Nat), .int .i64 (x0.pos.2 : Nat)] 66)) (w.heap.size + 1) 66 [.int .i64 (x0.kind : Nat), .string TB0, .int .i64 (x0.pos.1 : Nat), .int .i64 (x0.pos.2 : Nat)]) := ⟨((Ex.refl w).alloc _).alloc _, (Blk.new w _ _).alloc _, Blk.new' _ (by simp) _ _⟩
  have Hi0 : Hid (∀ w, Calls Tryz.prog 83 #[.agg #[.int .i64 (x0.kind : Nat), .string TB0, .int .i64 (x0.pos.1 : Nat), .int .i64 (x0.pos.2 : Nat)], .string ⟨#[40]⟩] w (Ret w (.bool true))) := fun w => by
    rw [HT0.out, ← h0]
    exact rIs_c x0 ⟨#[40]⟩ w
  clear h0
  have e1 : (((x0.kind : Nat) : Int) == 1) = false := beq_eq_false_iff_ne.2 (by omega)
  have e2 : (x0.kind == 1) = false := beq_eq_false_iff_ne.2 (by omega)
  have e3 : (((x0.kind : Nat) : Int) != 1) = true := by rw [bne_iff_ne]; omega
  have e4 : (x0.kind != 1) = true := by rw [bne_iff_ne]; omega
  clear hk
  have HP := Lib.hid HP0
  clear HP0
  unfold TreeAt at HP
  have Hij : Hid (∀ w, Calls Tryz.prog 83 #[.agg #[.int .i64 (xj.kind : Nat), .string TBj, .int .i64 (xj.pos.1 : Nat), .int .i64 (xj.pos.2 : Nat)], .string ⟨#[41]⟩] w (Ret w (.bool false))) := fun w => by
    rw [HTj.out, ← hj]
    exact rIs_c xj ⟨#[41]⟩ w
  clear hj
  obtain ⟨lb, w00, w01, w02, w03⟩ := word_cells (HW.out.exx (Ex.refl w)) HX0.out
  rw [← HT0.out] at w01
  clear hrw hlen hil hx0 hxj hjl
  go_enter Tryz.func84, Tryz.ntmps84
  go_wp2_with fail
  generalize w.heap.size + 1 = nb at *
  refine (Hi0.out _).mono ?_
  rintro e W1 ⟨rfl, hz⟩
  have HS1 : Hid (Ex w W1 ∧ Zero6 W1 w.heap.size ∧ Blk W1 nb 66 [.int .i64 (x0.kind : Nat), .string TB0, .int .i64 (x0.pos.1 : Nat), .int .i64 (x0.pos.2 : Nat)] ∧ w.heap.size + 1 < W1.heap.size) := ⟨HS0.out.1.trans hz, HS0.out.2.1.ex hz, HS0.out.2.2.ex hz, by have := hz.below.size; simp at this; omega⟩
  clear hz
  clear lb w00 w01 w02 w03
  have rz := HS1.out.2.1
  have lz := rz.lt
  have r0 := rz.cell 0
  have r1 := rz.cell 1
  have r2 := rz.cell 2
  have r3 := rz.cell 3
  have r4 := rz.cell 4
  have r5 := rz.cell 5
  have f0 := rz.frozen 0
  have f1 := rz.frozen 1
  have f2 := rz.frozen 2
  have f3 := rz.frozen 3
  have f4 := rz.frozen 4
  have f5 := rz.frozen 5
  simp only [List.getElem?_cons_zero, List.getElem?_cons_succ] at r0 r1 r2 r3 r4 r5
  have tz := HS1.out.2.2.1
  have lt := tz.lt
  have t0 := tz.cell 0
  have t1 := tz.cell 1
  have t2 := tz.cell 2
  have t3 := tz.cell 3
  simp only [List.getElem?_cons_zero, List.getElem?_cons_succ] at t0 t1 t2 t3
  clear rz tz
  obtain ⟨lb, w00, w01, w02, w03⟩ := word_cells (HW.out.exx HS1.out.1) HX0.out
  rw [← HT0.out] at w01
  go_wp2_with fail
  refine (HP.out _ HS1.out.1).mono ?_
  rintro e W2 ⟨k9, n9, p9, q9, s9, A9, m9, c9, rfl, ht9, hz⟩
  have HS2 : Hid (Ex w W2 ∧ Zero6 W2 w.heap.size ∧ Blk W2 nb 66 [.int .i64 (x0.kind : Nat), .string TB0, .int .i64 (x0.pos.1 : Nat), .int .i64 (x0.pos.2 : Nat)]) := ⟨HS1.out.1.trans hz, HS1.out.2.1.ex hz, HS1.out.2.2.1.ex hz⟩
  have HT9 : Hid (TrC (fun b => w.heap.size + 1 ≤ b) W2 t (c6 k9 n9 p9 q9 s9 A9 m9 c9)) := ht9.imp (fun b _ h => by have := HS1.out.2.2.2; omega)
  have H8 : Hid (Blk (W2.alloc (.cells #[.int .i64 k9, .int .i64 n9, .int .i64 p9, .int .i64 q9, .string s9, .slice A9 m9 c9] 24)) W2.heap.size 24 (c6 k9 n9 p9 q9 s9 A9 m9 c9) ∧ W2.heap.size ≠ w.heap.size) := ⟨Blk.new W2 _ _, by have := HS2.out.2.1.lt; omega⟩
  clear hz ht9
  clear lz r0 r1 r2 r3 r4 r5 f0 f1 f2 f3 f4 f5 lt t0 t1 t2 t3
  clear lb w00 w01 w02 w03
  have rz := HS2.out.2.1
  have lz := rz.lt
  have r0 := rz.cell 0
  have r1 := rz.cell 1
  have r2 := rz.cell 2
  have r3 := rz.cell 3
  have r4 := rz.cell 4
  have r5 := rz.cell 5
  have f0 := rz.frozen 0
  have f1 := rz.frozen 1
  have f2 := rz.frozen 2
  have f3 := rz.frozen 3
  have f4 := rz.frozen 4
  have f5 := rz.frozen 5
  simp only [List.getElem?_cons_zero, List.getElem?_cons_succ] at r0 r1 r2 r3 r4 r5
  have tz := HS2.out.2.2
  have lt := tz.lt
  have t0 := tz.cell 0
  have t1 := tz.cell 1
  have t2 := tz.cell 2
  have t3 := tz.cell 3
  simp only [List.getElem?_cons_zero, List.getElem?_cons_succ] at t0 t1 t2 t3
  clear rz tz
  obtain ⟨lb, wj0, wj1, wj2, wj3⟩ := word_cells (HW.out.exx HS2.out.1) HXj.out
  rw [← HTj.out] at wj1
  go_wp2_with fail
  generalize hn8 : W2.heap.size = n8 at *
  refine (Hij.out _).mono ?_
  rintro e W3 ⟨rfl, hz⟩
  have HS3 : Hid (Ex w W3 ∧ Zero6 W3 w.heap.size ∧ Blk W3 nb 66 [.int .i64 (x0.kind : Nat), .string TB0, .int .i64 (x0.pos.1 : Nat), .int .i64 (x0.pos.2 : Nat)]) := ⟨(HS2.out.1.alloc _).trans hz, (HS2.out.2.1.alloc _).ex hz, (HS2.out.2.2.alloc _).ex hz⟩
  have HT3 := Lib.hid ((HT9.out.ex ((Ex.refl _).alloc (.cells #[.int .i64 k9, .int .i64 n9, .int .i64 p9, .int .i64 q9, .string s9, .slice A9 m9 c9] 24))).ex hz)
  have h8 := H8.out.1.ex hz
  have l8 := h8.lt
  have y0 := h8.cell 0
  have y1 := h8.cell 1
  have y2 := h8.cell 2
  have y3 := h8.cell 3
  have y4 := h8.cell 4
  have y5 := h8.cell 5
  simp only [List.getElem?_cons_zero, List.getElem?_cons_succ] at y0 y1 y2 y3 y4 y5
  clear hz h8 hn8
  clear lz r0 r1 r2 r3 r4 r5 f0 f1 f2 f3 f4 f5 lt t0 t1 t2 t3
  clear lb wj0 wj1 wj2 wj3
  have rz := HS3.out.2.1
  have lz := rz.lt
  have r0 := rz.cell 0
  have r1 := rz.cell 1
  have r2 := rz.cell 2
  have r3 := rz.cell 3
  have r4 := rz.cell 4
  have r5 := rz.cell 5
  have f0 := rz.frozen 0
  have f1 := rz.frozen 1
  have f2 := rz.frozen 2
  have f3 := rz.frozen 3
  have f4 := rz.frozen 4
  have f5 := rz.frozen 5
  simp only [List.getElem?_cons_zero, List.getElem?_cons_succ] at r0 r1 r2 r3 r4 r5
  have tz := HS3.out.2.2
  have lt := tz.lt
  have t0 := tz.cell 0
  have t1 := tz.cell 1
  have t2 := tz.cell 2
  have t3 := tz.cell 3
  simp only [List.getElem?_cons_zero, List.getElem?_cons_succ] at t0 t1 t2 t3
  clear rz tz
  go_wp2_with fail
  refine bodyPost_ret (results_par rfl rfl rfl rfl (blk6 HS3.out.2.1 _ _ _ _ _ _)) rfl ?_
  exact ⟨rfl, ex6 (Nat.le_refl _) HS3.out.1 _ _ _ _ _ _⟩
set_option maxRecDepth 100000 in
set_option maxHeartbeats 3200000 in
theorem at_par_ok (ws : List Wd) (b o c i j : Nat) (x0 xj : Wd) (t : Tr) (w : World) (hrw : Rw w b o (wdsV ws)) (hlen : ws.length ≤ 100000) (hx0 : ws[i]? = some x0) (hxj : ws[j]? = some xj) (hk : x0.kind ≠ 1) (h0 : isS x0 [40] = true) (HP0 : ∀ w', Ex w w' → Calls Tryz.prog 53 #[.slice (some ⟨b, o, none⟩) ws.length c, .int .i64 ((i : Int) + 1), .int .i64 0] w' (TreeAt w' t j)) (hj : isS xj [41] = true) :
    Calls Tryz.prog 84 #[.slice (some ⟨b, o, none⟩) ws.length c, .int .i64 (i : Nat)] w (TreeAt w t (j + 1)) := by
  have HW := Lib.hid hrw
  have HX0 := Lib.hid hx0
  have HXj := Lib.hid hxj
  have hil : i < ws.length := (List.getElem?_eq_some_iff.1 hx0).1
  have m0 : (i : Int) < (ws.length : Int) := by omega
  have hjl : j < ws.length := (List.getElem?_eq_some_iff.1 hxj).1
  have mj : (j : Int) < (ws.length : Int) := by omega
  have mj0 : (0 : Int) ≤ (j : Int) := by omega
  have mm : (0 : Int) ≤ (i : Int) := by omega
  have mw : (ws.length : Int) ≤ 100000 := by omega
  obtain ⟨TB0, hTB⟩ : ∃ T : ByteArray, T = ⟨x0.text.toArray⟩ := ⟨_, rfl⟩
  have HT0 := Lib.hid hTB
  clear hTB
  obtain ⟨TBj, hTB⟩ : ∃ T : ByteArray, T = ⟨xj.text.toArray⟩ := ⟨_, rfl⟩
  have HTj := Lib.hid hTB
  clear hTB
  have HS0 : Hid (Ex w ((w.alloc (.cells #[.int .i64 0, .int .i64 0, .int .i64 0, .int .i64 0, .string ⟨#[]⟩, .slice none 0 0] 24)).alloc (.cells #[.int .i64 (x0.kind : Nat), .string TB0, .int .i64 (x0.pos.1 : Nat), .int .i64 (x0.pos.2 : Nat)] 66)) ∧ Zero6 ((w.alloc (.cells #[.int .i64 0, .int .i64 0, .int .i64 0, .int .i64 0, .string ⟨#[]⟩, .slice none 0 0] 24)).alloc (.cells #[.int .i64 (x0.kind : Nat), .string TB0, .int .i64 (x0.pos.1 : Nat), .int .i64 (x0.pos.2 : Nat)] 66)) w.heap.size ∧ Blk ((w.alloc (.cells #[.int .i64 0, .int .i64 0, .int .i64 0, .int .i64 0, .string ⟨#[]⟩, .slice none 0 0] 24)).alloc (.cells #[.int .i64 (x0.kind : Nat), .string TB0, .int .i64 (x0.pos.1 : Nat), .int .i64 (x0.pos.2 : Nat)] 66)) (w.heap.size + 1) 66 [.int .i64 (x0.kind : Nat), .string TB0, .int .i64 (x0.pos.1 : Nat), .int .i64 (x0.pos.2 : Nat)]) := ⟨((Ex.refl w).alloc _).alloc _, (Blk.new w _ _).alloc _, Blk.new' _ (by simp) _ _⟩
  have Hi0 : Hid (∀ w, Calls Tryz.prog 83 #[.agg #[.int .i64 (x0.kind : Nat), .string TB0, .int .i64 (x0.pos.1 : Nat), .int .i64 (x0.pos.2 : Nat)], .string ⟨#[40]⟩] w (Ret w (.bool true))) := fun w => by
    rw [HT0.out, ← h0]
    exact rIs_c x0 ⟨#[40]⟩ w
  clear h0
  have e1 : (((x0.kind : Nat) : Int) == 1) = false := beq_eq_false_iff_ne.2 (by omega)
  have e2 : (x0.kind == 1) = false := beq_eq_false_iff_ne.2 (by omega)
  have e3 : (((x0.kind : Nat) : Int) != 1) = true := by rw [bne_iff_ne]; omega
  have e4 : (x0.kind != 1) = true := by rw [bne_iff_ne]; omega
  clear hk
  have HP := Lib.hid HP0
  clear HP0
  unfold TreeAt at HP
  have Hij : Hid (∀ w, Calls Tryz.prog 83 #[.agg #[.int .i64 (xj.kind : Nat), .string TBj, .int .i64 (xj.pos.1 : Nat), .int .i64 (xj.pos.2 : Nat)], .string ⟨#[41]⟩] w (Ret w (.bool true))) := fun w => by
    rw [HTj.out, ← hj]
    exact rIs_c xj ⟨#[41]⟩ w
  clear hj
  obtain ⟨lb, w00, w01, w02, w03⟩ := word_cells (HW.out.exx (Ex.refl w)) HX0.out
  rw [← HT0.out] at w01
  clear hrw hlen hil hx0 hxj hjl
  go_enter Tryz.func84, Tryz.ntmps84
  go_wp2_with fail
  generalize w.heap.size + 1 = nb at *
  refine (Hi0.out _).mono ?_
  rintro e W1 ⟨rfl, hz⟩
  have HS1 : Hid (Ex w W1 ∧ Zero6 W1 w.heap.size ∧ Blk W1 nb 66 [.int .i64 (x0.kind : Nat), .string TB0, .int .i64 (x0.pos.1 : Nat), .int .i64 (x0.pos.2 : Nat)] ∧ w.heap.size + 1 < W1.heap.size) := ⟨HS0.out.1.trans hz, HS0.out.2.1.ex hz, HS0.out.2.2.ex hz, by have := hz.below.size; simp at this; omega⟩
  clear hz
  clear lb w00 w01 w02 w03
  have rz := HS1.out.2.1
  have lz := rz.lt
  have r0 := rz.cell 0
  have r1 := rz.cell 1
  have r2 := rz.cell 2
  have r3 := rz.cell 3
  have r4 := rz.cell 4
  have r5 := rz.cell 5
  have f0 := rz.frozen 0
  have f1 := rz.frozen 1
  have f2 := rz.frozen 2
  have f3 := rz.frozen 3
  have f4 := rz.frozen 4
  have f5 := rz.frozen 5
  simp only [List.getElem?_cons_zero, List.getElem?_cons_succ] at r0 r1 r2 r3 r4 r5
  have tz := HS1.out.2.2.1
  have lt := tz.lt
  have t0 := tz.cell 0
  have t1 := tz.cell 1
  have t2 := tz.cell 2
  have t3 := tz.cell 3
  simp only [List.getElem?_cons_zero, List.getElem?_cons_succ] at t0 t1 t2 t3
  clear rz tz
  obtain ⟨lb, w00, w01, w02, w03⟩ := word_cells (HW.out.exx HS1.out.1) HX0.out
  rw [← HT0.out] at w01
  go_wp2_with fail
  refine (HP.out _ HS1.out.1).mono ?_
  rintro e W2 ⟨k9, n9, p9, q9, s9, A9, m9, c9, rfl, ht9, hz⟩
  have HS2 : Hid (Ex w W2 ∧ Zero6 W2 w.heap.size ∧ Blk W2 nb 66 [.int .i64 (x0.kind : Nat), .string TB0, .int .i64 (x0.pos.1 : Nat), .int .i64 (x0.pos.2 : Nat)]) := ⟨HS1.out.1.trans hz, HS1.out.2.1.ex hz, HS1.out.2.2.1.ex hz⟩
  have HT9 : Hid (TrC (fun b => w.heap.size + 1 ≤ b) W2 t (c6 k9 n9 p9 q9 s9 A9 m9 c9)) := ht9.imp (fun b _ h => by have := HS1.out.2.2.2; omega)
  have H8 : Hid (Blk (W2.alloc (.cells #[.int .i64 k9, .int .i64 n9, .int .i64 p9, .int .i64 q9, .string s9, .slice A9 m9 c9] 24)) W2.heap.size 24 (c6 k9 n9 p9 q9 s9 A9 m9 c9) ∧ W2.heap.size ≠ w.heap.size) := ⟨Blk.new W2 _ _, by have := HS2.out.2.1.lt; omega⟩
  clear hz ht9
  clear lz r0 r1 r2 r3 r4 r5 f0 f1 f2 f3 f4 f5 lt t0 t1 t2 t3
  clear lb w00 w01 w02 w03
  have rz := HS2.out.2.1
  have lz := rz.lt
  have r0 := rz.cell 0
  have r1 := rz.cell 1
  have r2 := rz.cell 2
  have r3 := rz.cell 3
  have r4 := rz.cell 4
  have r5 := rz.cell 5
  have f0 := rz.frozen 0
  have f1 := rz.frozen 1
  have f2 := rz.frozen 2
  have f3 := rz.frozen 3
  have f4 := rz.frozen 4
  have f5 := rz.frozen 5
  simp only [List.getElem?_cons_zero, List.getElem?_cons_succ] at r0 r1 r2 r3 r4 r5
  have tz := HS2.out.2.2
  have lt := tz.lt
  have t0 := tz.cell 0
  have t1 := tz.cell 1
  have t2 := tz.cell 2
  have t3 := tz.cell 3
  simp only [List.getElem?_cons_zero, List.getElem?_cons_succ] at t0 t1 t2 t3
  clear rz tz
  obtain ⟨lb, wj0, wj1, wj2, wj3⟩ := word_cells (HW.out.exx HS2.out.1) HXj.out
  rw [← HTj.out] at wj1
  go_wp2_with fail
  generalize hn8 : W2.heap.size = n8 at *
  refine (Hij.out _).mono ?_
  rintro e W3 ⟨rfl, hz⟩
  have HS3 : Hid (Ex w W3 ∧ Zero6 W3 w.heap.size ∧ Blk W3 nb 66 [.int .i64 (x0.kind : Nat), .string TB0, .int .i64 (x0.pos.1 : Nat), .int .i64 (x0.pos.2 : Nat)]) := ⟨(HS2.out.1.alloc _).trans hz, (HS2.out.2.1.alloc _).ex hz, (HS2.out.2.2.alloc _).ex hz⟩
  have HT3 := Lib.hid ((HT9.out.ex ((Ex.refl _).alloc (.cells #[.int .i64 k9, .int .i64 n9, .int .i64 p9, .int .i64 q9, .string s9, .slice A9 m9 c9] 24))).ex hz)
  have h8 := H8.out.1.ex hz
  have l8 := h8.lt
  have y0 := h8.cell 0
  have y1 := h8.cell 1
  have y2 := h8.cell 2
  have y3 := h8.cell 3
  have y4 := h8.cell 4
  have y5 := h8.cell 5
  simp only [List.getElem?_cons_zero, List.getElem?_cons_succ] at y0 y1 y2 y3 y4 y5
  clear hz h8 hn8
  clear lz r0 r1 r2 r3 r4 r5 f0 f1 f2 f3 f4 f5 lt t0 t1 t2 t3
  clear lb wj0 wj1 wj2 wj3
  have rz := HS3.out.2.1
  have lz := rz.lt
  have r0 := rz.cell 0
  have r1 := rz.cell 1
  have r2 := rz.cell 2
  have r3 := rz.cell 3
  have r4 := rz.cell 4
  have r5 := rz.cell 5
  have f0 := rz.frozen 0
  have f1 := rz.frozen 1
  have f2 := rz.frozen 2
  have f3 := rz.frozen 3
  have f4 := rz.frozen 4
  have f5 := rz.frozen 5
  simp only [List.getElem?_cons_zero, List.getElem?_cons_succ] at r0 r1 r2 r3 r4 r5
  have tz := HS3.out.2.2
  have lt := tz.lt
  have t0 := tz.cell 0
  have t1 := tz.cell 1
  have t2 := tz.cell 2
  have t3 := tz.cell 3
  simp only [List.getElem?_cons_zero, List.getElem?_cons_succ] at t0 t1 t2 t3
  clear rz tz
  go_wp2_with fail
  refine bodyPost_ret (results_par rfl rfl rfl rfl (blk6 HS3.out.2.1 _ _ _ _ _ _)) rfl ?_
  exact tree_end (Nat.le_refl _) HT3.out (fun b h => ⟨by omega, by omega⟩) HS3.out.1
theorem par_tree {w : World} {ws : List Wd} {t : Tr} {j : Nat} (hj : j < ws.length) {e : Ending} {w' : World} (h : TreeAt w t j e w') : ParR w ws (.ok t (ksAt ws j)) e w' := by
  obtain ⟨k, n, p, q, s, A, m, c, h1, h2, h3⟩ := h
  exact ⟨j, hj, rfl, k, n, p, q, s, A, m, c, h1, h2, h3⟩
theorem ks_inj {ws : List Wd} {i j : Nat} (hi : i < ws.length) (hj : j < ws.length) (h : ksAt ws i = ksAt ws j) : i = j := by
  have h5 := congrArg List.length h
  simp [ksAt] at h5
  omega
theorem tree_par {w : World} {ws : List Wd} {t : Tr} {j : Nat} (hj : j < ws.length) {e : Ending} {w' : World} (h : ParR w ws (.ok t (ksAt ws j)) e w') : TreeAt w t j e w' := by
  obtain ⟨j2, hj2, e2, k, n, p, q, s, A, m, c, h1, h2, h3⟩ := h
  obtain rfl := ks_inj hj hj2 e2
  exact ⟨k, n, p, q, s, A, m, c, h1, h2, h3⟩
theorem bad_par {w : World} {ws : List Wd} {j : Nat} (hj : j < ws.length) {e : Ending} {w' : World} (h : ParR w ws (.bad (ksAt ws j)) e w') : Ret w (triV 0 0 ⟨#[]⟩ j false) e w' := by
  obtain ⟨j2, hj2, e2, h1, h2⟩ := h
  obtain rfl := ks_inj hj hj2 e2
  exact ⟨h1, h2⟩
theorem isS_k {x : Wd} {S : List UInt8} (h : isS x S = true) : x.kind ≠ 4 := by
  unfold isS at h
  simp only [Bool.and_eq_true, decide_eq_true_eq] at h
  omega
theorem nmS_k {x : Wd} (h : nmS x = true) : x.kind ≠ 4 := by
  unfold nmS at h
  simp only [Bool.and_eq_true, decide_eq_true_eq] at h
  omega
set_option maxHeartbeats 1600000 in
theorem atom_cc (ws : List Wd) (b o c i : Nat) (x0 : Wd) (w : World) (P : List K → PR) (hW : WfW ws) (hrw : Rw w b o (wdsV ws)) (hlen : ws.length ≤ 100000) (hx0 : ws[i]? = some x0)
    (hat : i + 1 < ws.length → ∀ t r, (P (ksAt ws (i + 1)) = .ok t r ∨ P (ksAt ws (i + 1)) = .bad r) → ∃ j, j < ws.length ∧ r = ksAt ws j) (hst : i + 1 < ws.length → P (ksAt ws (i + 1)) ≠ .stuck)
    (HP : i + 1 < ws.length → ∀ w', Ex w w' → Calls Tryz.prog 53 #[.slice (some ⟨b, o, none⟩) ws.length c, .int .i64 ((i : Int) + 1), .int .i64 0] w' (ParR w' ws (P (ksAt ws (i + 1))))) :
    Calls Tryz.prog 84 #[.slice (some ⟨b, o, none⟩) ws.length c, .int .i64 (i : Nat)] w (ParR w ws (atomP P (ksAt ws i))) := by
  have g0 := hW.gw hx0
  have f1 : firstL [40] = (3, 1, 0) := by decide
  have f2 : firstL [41] = (3, 1, 0) := by decide
  have f3 : firstL [44] = (3, 1, 0) := by decide
  have f4 : firstL [46] = (3, 1, 0) := by decide
  have t1 : firstL [116, 114, 117, 101] = (2, 4, 0) := by decide
  have t2 : firstL [102, 97, 108, 115, 101] = (2, 5, 0) := by decide
  have t3 : firstL [99, 111, 117, 110, 116] = (2, 5, 0) := by decide
  have t4 : firstL [99, 104, 97, 110, 110, 101, 108] = (2, 7, 0) := by decide
  unfold atomP
  rw [hd_at hx0]
  by_cases hk1 : x0.kind = 1
  · rw [if_pos (show (key x0).1 = 1 from hk1), tail_at]
    obtain ⟨y, hy⟩ := hW.more hx0 (by omega)
    rcases g0 with ⟨h4, _⟩ | ⟨hr, hl⟩
    · omega
    · rw [hk1] at hr
      obtain ⟨v1, v2, -⟩ := num_val hr
      exact (at_num ws b o c i x0 w hrw hlen hx0 hk1 v1 v2 hl).mono fun _ _ h => par_lf w ws 1 _ ⟨#[]⟩ hy h
  rw [if_neg (show ¬ (key x0).1 = 1 from hk1)]
  rw [← key_T g0 t1, ← key_T g0 t2, ← is_T g0 f1, ← key_T g0 t3, ← key_T g0 t4]
  cases h0 : isS x0 [40] with
  | true =>
    have hk3 : x0.kind = 3 := by unfold isS at h0; simp only [Bool.and_eq_true, decide_eq_true_eq] at h0; exact h0.1
    rw [if_neg (by rw [decide_eq_false (by omega)]; simp), if_neg (by rw [decide_eq_false (by omega)]; simp), if_pos rfl, tail_at]
    obtain ⟨y, hy⟩ := hW.more hx0 (by omega)
    have hy1 := (List.getElem?_eq_some_iff.1 hy).1
    have HP' := HP hy1
    have hat' := hat hy1
    cases hPR : P (ksAt ws (i + 1)) with
    | stuck => exact absurd hPR (hst hy1)
    | bad r =>
      rw [hPR] at HP'
      obtain ⟨j, hj, rfl⟩ := hat' (nd 0 []) r (.inr hPR)
      refine (at_par_bad ws b o c i j x0 w hrw hlen hx0 hk1 h0 (fun w' hx => (HP' w' hx).mono fun e w2 h => bad_par hj h)).mono fun e w2 h => ?_
      exact ⟨j, hj, rfl, h.1, h.2⟩
    | ok t r =>
      rw [hPR] at HP'
      obtain ⟨j, hj, rfl⟩ := hat' t r (.inl hPR)
      obtain ⟨xj, hxj⟩ : ∃ y, ws[j]? = some y := ⟨_, List.getElem?_eq_getElem hj⟩
      show Calls _ _ _ _ (ParR w ws (if isT (hd (ksAt ws j)) [41] then .ok t (ksAt ws j).tail else .bad (ksAt ws j)))
      rw [hd_at hxj, ← is_T (hW.gw hxj) f2]
      cases hcl : isS xj [41] with
      | false =>
        rw [if_neg (by simp)]
        exact (at_par_no ws b o c i j x0 xj t w hrw hlen hx0 hxj hk1 h0 (fun w' hx => (HP' w' hx).mono fun e w2 h => tree_par hj h) hcl).mono fun e w2 h => par_bad hxj h
      | true =>
        rw [if_pos rfl, tail_at]
        obtain ⟨y2, hy2⟩ := hW.more hxj (isS_k hcl)
        exact (at_par_ok ws b o c i j x0 xj t w hrw hlen hx0 hxj hk1 h0 (fun w' hx => (HP' w' hx).mono fun e w2 h => tree_par hj h) hcl).mono fun e w2 h => par_tree (List.getElem?_eq_some_iff.1 hy2).1 h
  | false =>
    by_cases hk2 : x0.kind = 2
    · rw [decide_eq_true hk2]
      simp only [Bool.true_and]
      obtain ⟨y1, hy1⟩ : ∃ y, ws[i + 1]? = some y := hW.more hx0 (by omega)
      by_cases hv0 : x0.text = [116, 114, 117, 101]
      · rw [if_pos (decide_eq_true hv0), tail_at]
        exact (at_true ws b o c i x0 w hrw hlen hx0 hk2 hv0 h0).mono fun _ _ h => par_lf w ws 13 0 _ hy1 h
      rw [if_neg (by simp [hv0])]
      by_cases hv1 : x0.text = [102, 97, 108, 115, 101]
      · rw [if_pos (decide_eq_true hv1), tail_at]
        exact (at_false ws b o c i x0 w hrw hlen hx0 hk2 hv1 h0).mono fun _ _ h => par_lf w ws 14 0 _ hy1 h
      rw [if_neg (by simp [hv1]), if_neg (by simp)]
      by_cases hv2 : x0.text = [99, 111, 117, 110, 116]
      · rw [if_pos (decide_eq_true hv2), tail_at]
        unfold countP
        obtain ⟨x1, hx1⟩ : ∃ y, ws[i + 1]? = some y := hW.more hx0 (by omega)
        have g1 := hW.gw hx1
        rw [hd_at hx1, ← is_T g1 f1]
        cases h1 : isS x1 [40] with
        | false =>
          rw [if_neg (by simp)]
          exact (at_count1 ws b o c i x0 x1 w hrw hlen hx0 hx1 hk2 hv2 h0 h1).mono fun _ _ h => par_bad hx1 h
        | true =>
          rw [if_pos rfl, tail_at]
          obtain ⟨x2, hx2⟩ : ∃ y, ws[i + 2]? = some y := hW.more hx1 (isS_k h1)
          have g2 := hW.gw hx2
          rw [hd_at hx2, ← nm_N g2]
          cases h2 : nmS x2 with
          | false =>
            rw [if_neg (by simp)]
            exact (at_count2 ws b o c i x0 x1 x2 w hrw hlen hx0 hx1 hx2 hk2 hv2 h0 h1 h2 g2.len).mono fun _ _ h => par_bad hx2 h
          | true =>
            rw [if_pos rfl, tail_at]
            obtain ⟨x3, hx3⟩ : ∃ y, ws[i + 3]? = some y := hW.more hx2 (nmS_k h2)
            have g3 := hW.gw hx3
            rw [hd_at hx3, ← is_T g3 f2]
            cases h3 : isS x3 [41] with
            | false =>
              rw [if_neg (by simp)]
              exact (at_count3 ws b o c i x0 x1 x2 x3 w hrw hlen hx0 hx1 hx2 hx3 hk2 hv2 h0 h1 h2 g2.len h3).mono fun _ _ h => par_bad hx3 h
            | true =>
              rw [if_pos rfl]
              obtain ⟨x4, hx4⟩ : ∃ y, ws[i + 4]? = some y := hW.more hx3 (isS_k h3)
              have h9 := (at_count_ok ws b o c i x0 x1 x2 x3 w hrw hlen hx0 hx1 hx2 hx3 hk2 hv2 h0 h1 h2 g2.len h3).mono fun _ _ h => par_lf w ws 3 0 _ hx4 h
              rw [tail_at]
              exact h9
      rw [if_neg (by simp [hv2])]
      by_cases hv3 : x0.text = [99, 104, 97, 110, 110, 101, 108]
      · rw [if_pos (decide_eq_true hv3), tail_at]
        unfold chanP
        obtain ⟨x1, hx1⟩ : ∃ y, ws[i + 1]? = some y := hW.more hx0 (by omega)
        have g1 := hW.gw hx1
        rw [hd_at hx1, ← is_T g1 f1]
        cases h1 : isS x1 [40] with
        | false =>
          rw [if_neg (by simp)]
          exact (at_channel1 ws b o c i x0 x1 w hrw hlen hx0 hx1 hk2 hv3 h0 h1).mono fun _ _ h => par_bad hx1 h
        | true =>
          rw [if_pos rfl, tail_at]
          obtain ⟨x2, hx2⟩ : ∃ y, ws[i + 2]? = some y := hW.more hx1 (isS_k h1)
          have g2 := hW.gw hx2
          rw [hd_at hx2, ← nm_N g2]
          cases h2 : nmS x2 with
          | false =>
            rw [if_neg (by simp)]
            exact (at_channel2 ws b o c i x0 x1 x2 w hrw hlen hx0 hx1 hx2 hk2 hv3 h0 h1 h2 g2.len).mono fun _ _ h => par_bad hx2 h
          | true =>
            rw [if_pos rfl, tail_at]
            obtain ⟨x3, hx3⟩ : ∃ y, ws[i + 3]? = some y := hW.more hx2 (nmS_k h2)
            have g3 := hW.gw hx3
            rw [hd_at hx3, ← is_T g3 f3]
            cases h3 : isS x3 [44] with
            | false =>
              rw [if_neg (by simp)]
              exact (at_channel3 ws b o c i x0 x1 x2 x3 w hrw hlen hx0 hx1 hx2 hx3 hk2 hv3 h0 h1 h2 g2.len h3).mono fun _ _ h => par_bad hx3 h
            | true =>
              rw [if_pos rfl, tail_at]
              obtain ⟨x4, hx4⟩ : ∃ y, ws[i + 4]? = some y := hW.more hx3 (isS_k h3)
              have g4 := hW.gw hx4
              rw [hd_at hx4, ← nm_N g4]
              cases h4 : nmS x4 with
              | false =>
                rw [if_neg (by simp)]
                exact (at_channel4 ws b o c i x0 x1 x2 x3 x4 w hrw hlen hx0 hx1 hx2 hx3 hx4 hk2 hv3 h0 h1 h2 g2.len h3 h4 g4.len).mono fun _ _ h => par_bad hx4 h
              | true =>
                rw [if_pos rfl, tail_at]
                obtain ⟨x5, hx5⟩ : ∃ y, ws[i + 5]? = some y := hW.more hx4 (nmS_k h4)
                have g5 := hW.gw hx5
                rw [hd_at hx5, ← is_T g5 f2]
                cases h5 : isS x5 [41] with
                | false =>
                  rw [if_neg (by simp)]
                  exact (at_channel5 ws b o c i x0 x1 x2 x3 x4 x5 w hrw hlen hx0 hx1 hx2 hx3 hx4 hx5 hk2 hv3 h0 h1 h2 g2.len h3 h4 g4.len h5).mono fun _ _ h => par_bad hx5 h
                | true =>
                  rw [if_pos rfl]
                  obtain ⟨x6, hx6⟩ : ∃ y, ws[i + 6]? = some y := hW.more hx5 (isS_k h5)
                  have h9 := (at_channel_ok ws b o c i x0 x1 x2 x3 x4 x5 w hrw hlen hx0 hx1 hx2 hx3 hx4 hx5 hk2 hv3 h0 h1 h2 g2.len h3 h4 g4.len h5).mono fun _ _ h => par_lf w ws 4 0 _ hx6 h
                  rw [tail_at]
                  exact h9
      rw [if_neg (by simp [hv3])]
      unfold varP
      rw [hd_at hx0, ← nm_N g0]
      cases n0 : nmS x0 with
      | false =>
        rw [if_neg (by simp)]
        exact (at_var0 ws b o c i x0 w hrw hlen hx0 hk2 hv0 hv1 hv2 hv3 h0 n0 g0.len).mono fun _ _ h => par_bad hx0 h
      | true =>
        rw [if_pos rfl, tail_at]
        obtain ⟨x1, hx1⟩ : ∃ y, ws[i + 1]? = some y := hW.more hx0 (by omega)
        have g1 := hW.gw hx1
        rw [hd_at hx1, ← is_T g1 f4]
        cases h1 : isS x1 [46] with
        | false =>
          rw [if_neg (by simp)]
          exact (at_var1 ws b o c i x0 x1 w hrw hlen hx0 hx1 hk2 hv0 hv1 hv2 hv3 h0 n0 g0.len h1).mono fun _ _ h => par_bad hx1 h
        | true =>
          rw [if_pos rfl, tail_at]
          obtain ⟨x2, hx2⟩ : ∃ y, ws[i + 2]? = some y := hW.more hx1 (isS_k h1)
          have g2 := hW.gw hx2
          rw [hd_at hx2, ← nm_N g2]
          cases h2 : nmS x2 with
          | false =>
            rw [if_neg (by simp)]
            exact (at_var2 ws b o c i x0 x1 x2 w hrw hlen hx0 hx1 hx2 hk2 hv0 hv1 hv2 hv3 h0 n0 g0.len h1 h2 g2.len).mono fun _ _ h => par_bad hx2 h
          | true =>
            rw [if_pos rfl]
            obtain ⟨x3, hx3⟩ : ∃ y, ws[i + 3]? = some y := hW.more hx2 (nmS_k h2)
            have h9 := (at_var_ok ws b o c i x0 x1 x2 w hrw hlen hx0 hx1 hx2 hk2 hv0 hv1 hv2 hv3 h0 n0 g0.len h1 h2 g2.len).mono fun _ _ h => par_lf w ws 2 0 _ hx3 h
            rw [tail_at]
            exact h9
    · rw [decide_eq_false hk2]
      simp only [Bool.false_and]
      rw [if_neg (by simp), if_neg (by simp), if_neg (by simp), if_neg (by simp), if_neg (by simp)]
      unfold varP
      rw [hd_at hx0, ← nm_N g0, show nmS x0 = false by unfold nmS; rw [decide_eq_false hk2]; rfl, if_neg (by simp)]
      exact (at_kind ws b o c i x0 w hrw hlen hx0 hk1 hk2 h0).mono fun _ _ h => par_bad hx0 h
end Go.Proofs.YthjalkonlcjhnaaGreatDoor
