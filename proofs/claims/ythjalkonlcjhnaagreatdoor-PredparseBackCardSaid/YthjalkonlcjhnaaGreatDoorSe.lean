/-
  The law Back, walked.
  Conditions: the world's tables are as laid (Envw).
-/
import Derived.Test.YthjalkonlcjhnaaGreatDoorRd
import Derived.Test.YthjalkonlcjhnaaGreatDoorTa
import Derived.Test.YthjalkonlcjhnaaGreatDoorQr
import Derived.Test.YthjalkonlcjhnaaGreatDoorUc
namespace Go.Proofs.YthjalkonlcjhnaaGreatDoor
open Go.RowKit
theorem zero_c (t : Tr) (Q : Nat → Prop) (w : World) (k n p q : Int) (s : ByteArray) (A : Option Addr) (m c : Nat) (hs : t.size ≤ 1000000) (h : TrC Q w t (c6 k n p q s A m c)) :
    Calls Tryz.prog 24 #[.agg #[.int .i64 k, .int .i64 n, .int .i64 p, .int .i64 q, .string s, .slice A m c]] w (Ret w (.bool (sameB t (nd 0 [])))) := by
  have HS : Hid (∀ w', Ex w w' → Calls Tryz.prog 10 #[.agg #[.int .i64 k, .int .i64 n, .int .i64 p, .int .i64 q, .string s, .slice A m c], .agg #[.int .i64 0, .int .i64 0, .int .i64 0, .int .i64 0, .string ⟨#[]⟩, .slice none 0 0]] w' (Ret w' (.bool (sameB t (nd 0 []))))) := fun w' hx =>
    same_c t.size t (nd 0 []) Q Q w' k n p q 0 0 0 0 s ⟨#[]⟩ A none m 0 c 0 (Nat.le_refl _) hs (by rw [nd_size0]; omega) (h.ex hx) (.leaf 0 0 0 0 ⟨#[]⟩ none 0)
  generalize sameB t (nd 0 []) = qq at *
  clear h
  go_enter Tryz.func24, Tryz.ntmps24
  go_wp2_with fail
  refine (HS.out _ ((Ex.refl _).alloc _)).mono ?_
  rintro e w' ⟨rfl, z, rfl⟩
  go_wp2_with fail
  go_ret
  exact Ret.mk rfl (((Ex.refl _).alloc _).ext _)
theorem zero_z (w : World) : Calls Tryz.prog 24 #[.agg #[.int .i64 0, .int .i64 0, .int .i64 0, .int .i64 0, .string ⟨#[]⟩, .slice none 0 0]] w (Ret w (.bool true)) := by
  have := zero_c (nd 0 []) (fun _ => True) w 0 0 0 0 ⟨#[]⟩ none 0 0 (by rw [nd_size0]; omega) (.leaf 0 0 0 0 ⟨#[]⟩ none 0)
  rw [same_eq] at this; exact this
theorem same_self (x : Tr) (Q Q' : Nat → Prop) (w : World) (k n p q : Int) (s : ByteArray) (A : Option Addr) (m c : Nat) (k' n' p' q' : Int) (s' : ByteArray) (A' : Option Addr) (m' c' : Nat) (hs : x.size ≤ 1000000) (h : TrC Q w x (c6 k n p q s A m c)) (h' : TrC Q' w x (c6 k' n' p' q' s' A' m' c')) :
    Calls Tryz.prog 10 #[.agg #[.int .i64 k, .int .i64 n, .int .i64 p, .int .i64 q, .string s, .slice A m c], .agg #[.int .i64 k', .int .i64 n', .int .i64 p', .int .i64 q', .string s', .slice A' m' c']] w (Ret w (.bool true)) := by
  have := same_c x.size x x Q Q' w k n p q k' n' p' q' s s' A A' m m' c c' (Nat.le_refl _) hs hs h h'
  rw [same_eq] at this; exact this
theorem back_long (t : Tr) (Q : Nat → Prop) (w : World) (k n p q : Int) (s : ByteArray) (A : Option Addr) (m c : Nat) (S : ByteArray) (hE : Envw w) (hn : LnOk t) (ht : TrC Q w t (c6 k n p q s A m c)) (hl : 1000 < S.size) : Calls Tryz.prog 5 #[.agg #[.int .i64 k, .int .i64 n, .int .i64 p, .int .i64 q, .string s, .slice A m c], .string S] w (Ret w (.bool true)) := by
  have HA := Lib.hid (fun w' (hx : Ex w w') => awake_c w' (hE.ex hx))
  have HG := Lib.hid (fun w' (hx : Ex w w') => great_c t Q w' k n p q s A m c hn (ht.ex hx))
  unfold GreatR at HG
  have BP : Hid (Blk (w.alloc (.cells #[.int .i64 k, .int .i64 n, .int .i64 p, .int .i64 q, .string s, .slice A m c] 24)) w.heap.size 24 (c6 k n p q s A m c)) := Blk.new w _ _
  have z1 : decide (1000 < (S.size : Int)) = true := decide_eq_true (by omega)
  clear hE hn ht hl
  go_enter Tryz.func5, Tryz.ntmps5
  go_wp2_with fail
  refine (HA.out _ ((Ex.refl _).alloc _)).mono ?_
  rintro e w1 ⟨rfl, hx1⟩
  have BP1 := Lib.hid (BP.out.ex hx1)
  have HX1 : Hid (Ex w w1) := ((Ex.refl w).alloc _).trans hx1
  have lp := BP1.out.lt
  have a0 := BP1.out.cell 0
  have a1 := BP1.out.cell 1
  have a2 := BP1.out.cell 2
  have a3 := BP1.out.cell 3
  have a4 := BP1.out.cell 4
  have a5 := BP1.out.cell 5
  simp only [List.getElem?_cons_zero, List.getElem?_cons_succ] at a0 a1 a2 a3 a4 a5
  clear hx1
  go_wp2_with fail
  refine (HG.out _ HX1.out).mono ?_
  rintro e w2 ⟨g1, rfl, hg1, -, hx2⟩
  have BP2 := Lib.hid (BP1.out.ex hx2)
  have HX2 : Hid (Ex w w2) := HX1.out.trans hx2
  have Hg1 := Lib.hid hg1
  clear lp a0 a1 a2 a3 a4 a5 hx2 hg1 BP BP1 HA HG
  have lp := BP2.out.lt
  have a0 := BP2.out.cell 0
  have a1 := BP2.out.cell 1
  have a2 := BP2.out.cell 2
  have a3 := BP2.out.cell 3
  have a4 := BP2.out.cell 4
  have a5 := BP2.out.cell 5
  simp only [List.getElem?_cons_zero, List.getElem?_cons_succ] at a0 a1 a2 a3 a4 a5
  cases g1 with
  | true =>
    go_wp2_with fail
    go_ret
    exact Ret.mk rfl HX2.out
  | false =>
    go_wp2_with fail
    go_ret
    exact Ret.mk rfl HX2.out
set_option maxRecDepth 20000 in
set_option maxHeartbeats 4000000 in
theorem back_vt (t : Tr) (Q : Nat → Prop) (w : World) (k n p q : Int) (s : ByteArray) (A : Option Addr) (m c : Nat) (S : ByteArray) (hE : Envw w) (hn : LnOk t) (hm : NmOk t) (ht : TrC Q w t (c6 k n p q s A m c)) (hv : validB t = true) (hl : S.size ≤ 1000) (x : Tr) (hp : parseO S.data.toList = .tree x) : Calls Tryz.prog 5 #[.agg #[.int .i64 k, .int .i64 n, .int .i64 p, .int .i64 q, .string s, .slice A m c], .string S] w (Ret w (.bool true)) := by
  have HA := Lib.hid (fun w' (hx : Ex w w') => awake_c w' (hE.ex hx))
  have HG := Lib.hid (fun w' (hx : Ex w w') => great_c t Q w' k n p q s A m c hn (ht.ex hx))
  unfold GreatR at HG
  have BP : Hid (Blk (w.alloc (.cells #[.int .i64 k, .int .i64 n, .int .i64 p, .int .i64 q, .string s, .slice A m c] 24)) w.heap.size 24 (c6 k n p q s A m c)) := Blk.new w _ _
  have z1 : decide (1000 < (S.size : Int)) = false := decide_eq_false (by omega)
  have HPs := Lib.hid (fun w' (hx : Ex w w') => parse_c S w' (hE.ex hx).1)
  rw [hp] at HPs
  unfold ParseR at HPs
  dsimp only at HPs
  have HTp := Lib.hid (fun (hs : t.size ≤ 250) w' (hx : Ex w w') => text_c t Q w' k n p q s A m c (hE.ex hx) (by omega) hm (ht.ex hx))
  unfold TextV at HTp
  rw [hv] at HTp
  rw [if_pos rfl] at HTp
  have HPt := Lib.hid (fun w' (hx : Ex w w') => parse_c ⟨(wrL t 0).toArray⟩ w' (hE.ex hx).1)
  rw [show (⟨(wrL t 0).toArray⟩ : ByteArray).data.toList = wrL t 0 from rfl, back_law hv] at HPt
  unfold ParseR at HPt
  dsimp only at HPt
  have HVp := Lib.hid (fun (hs : t.size ≤ 250) w' (hx : Ex w w') => valid_c t Q w' k n p q s A m c (by omega) hm (ht.ex hx))
  rw [hv] at HVp
  have HTw := Lib.hid ht
  have hvx := parse_valid hp
  have HVal := Lib.hid hvx
  have HPx := Lib.hid (fun w' (hx : Ex w w') => parse_c ⟨(wrL x 0).toArray⟩ w' (hE.ex hx).1)
  rw [show (⟨(wrL x 0).toArray⟩ : ByteArray).data.toList = wrL x 0 from rfl, back_law hvx] at HPx
  unfold ParseR at HPx
  dsimp only at HPx
  have HSz : Hid (x.size ≤ 250 ∧ x.depth ≤ 40) := by
    unfold validB smallB at hvx
    simp only [Bool.and_eq_true, decide_eq_true_eq] at hvx
    exact ⟨by omega, by omega⟩
  have HNm : Hid (NmOk x) := formed_names x (by
    unfold validB at hvx
    rw [Bool.and_eq_true] at hvx
    exact hvx.2)
  have HLn : Hid (LnOk x) := LnOk.of_size (N := 250) (by unfold maxLen; omega) x HSz.out.1
  have HEe := Lib.hid hE
  generalize hTX : (⟨(wrL x 0).toArray⟩ : ByteArray) = TX at *
  have HTX := Lib.hid hTX
  clear hvx hTX
  generalize (⟨(wrL t 0).toArray⟩ : ByteArray) = TP at *
  clear hE hn hm ht hl hv hp
  go_enter Tryz.func5, Tryz.ntmps5
  go_wp2_with fail
  refine (HA.out _ ((Ex.refl _).alloc _)).mono ?_
  rintro e w1 ⟨rfl, hx1⟩
  have BP1 := Lib.hid (BP.out.ex hx1)
  have HX1 : Hid (Ex w w1) := ((Ex.refl w).alloc _).trans hx1
  have lp := BP1.out.lt
  have a0 := BP1.out.cell 0
  have a1 := BP1.out.cell 1
  have a2 := BP1.out.cell 2
  have a3 := BP1.out.cell 3
  have a4 := BP1.out.cell 4
  have a5 := BP1.out.cell 5
  simp only [List.getElem?_cons_zero, List.getElem?_cons_succ] at a0 a1 a2 a3 a4 a5
  clear hx1
  go_wp2_with fail
  refine (HG.out _ HX1.out).mono ?_
  rintro e w2 ⟨g1, rfl, hg1, -, hx2⟩
  have BP2 := Lib.hid (BP1.out.ex hx2)
  have HX2 : Hid (Ex w w2) := HX1.out.trans hx2
  have Hg1 := Lib.hid hg1
  clear lp a0 a1 a2 a3 a4 a5 hx2 hg1 BP BP1 HA HG
  have lp := BP2.out.lt
  have a0 := BP2.out.cell 0
  have a1 := BP2.out.cell 1
  have a2 := BP2.out.cell 2
  have a3 := BP2.out.cell 3
  have a4 := BP2.out.cell 4
  have a5 := BP2.out.cell 5
  simp only [List.getElem?_cons_zero, List.getElem?_cons_succ] at a0 a1 a2 a3 a4 a5
  cases g1 with
  | true =>
    go_wp2_with fail
    go_ret
    exact Ret.mk rfl HX2.out
  | false =>
    have hsz := Hg1.out (by simp)
    have HTp2 := Lib.hid (HTp.out hsz)
    have HVp2 := Lib.hid (HVp.out hsz)
    have HSt : Hid (t.size ≤ 250) := hsz
    clear Hg1 HTp hsz HVp
    go_wp2_with fail
    refine (HTp2.out _ HX2.out).mono ?_
    rintro e w3 ⟨rfl, hx3⟩
    have HX3 : Hid (Ex w w3) := HX2.out.trans hx3
    have BP3 := Lib.hid (BP2.out.ex hx3)
    clear hx3 BP2 lp a0 a1 a2 a3 a4 a5
    go_wp2_with fail
    refine (HPt.out _ HX3.out).mono ?_
    rintro e w4 ⟨kz, nz, pz, qz, sz, Az, mz, cz, rfl, htz, hx4⟩
    have HX4 : Hid (Ex w ((w4.alloc (.cells #[.int .i64 kz, .int .i64 nz, .int .i64 pz, .int .i64 qz, .string sz, .slice Az mz cz] 24)).alloc (.cells #[.int .i64 0, .int .i64 0] 39))) := ((HX3.out.trans hx4).alloc _).alloc _
    have BP4 := Lib.hid ((((BP3.out.ex hx4).alloc (.cells #[.int .i64 kz, .int .i64 nz, .int .i64 pz, .int .i64 qz, .string sz, .slice Az mz cz] 24)).alloc (.cells #[.int .i64 0, .int .i64 0] 39)))
    have BZ4 : Hid (Blk ((w4.alloc (.cells #[.int .i64 kz, .int .i64 nz, .int .i64 pz, .int .i64 qz, .string sz, .slice Az mz cz] 24)).alloc (.cells #[.int .i64 0, .int .i64 0] 39)) w4.heap.size 24 (c6 kz nz pz qz sz Az mz cz)) := (Blk.new w4 _ _).alloc _
    have HTz := Lib.hid ((htz.ex ((Ex.refl _).alloc (.cells #[.int .i64 kz, .int .i64 nz, .int .i64 pz, .int .i64 qz, .string sz, .slice Az mz cz] 24))).ex ((Ex.refl _).alloc (.cells #[.int .i64 0, .int .i64 0] 39)))
    have bp3 := BP3.out.ex hx4
    have lp := bp3.lt
    have a0 := bp3.cell 0
    have a1 := bp3.cell 1
    have a2 := bp3.cell 2
    have a3 := bp3.cell 3
    have a4 := bp3.cell 4
    have a5 := bp3.cell 5
    simp only [List.getElem?_cons_zero, List.getElem?_cons_succ] at a0 a1 a2 a3 a4 a5
    clear htz hx4 bp3
    go_wp2_with fail
    refine (HVp2.out _ HX4.out).mono ?_
    rintro e w5 ⟨rfl, hx5⟩
    have HX5 : Hid (Ex w w5) := HX4.out.trans hx5
    have BP5 := Lib.hid (BP4.out.ex hx5)
    have BZ5 := Lib.hid (BZ4.out.ex hx5)
    have HTz5 := Lib.hid (HTz.out.ex hx5)
    clear lp a0 a1 a2 a3 a4 a5 hx5 BP4 BZ4 HTz
    have lp := BP5.out.lt
    have a0 := BP5.out.cell 0
    have a1 := BP5.out.cell 1
    have a2 := BP5.out.cell 2
    have a3 := BP5.out.cell 3
    have a4 := BP5.out.cell 4
    have a5 := BP5.out.cell 5
    simp only [List.getElem?_cons_zero, List.getElem?_cons_succ] at a0 a1 a2 a3 a4 a5
    have lz := BZ5.out.lt
    have b0 := BZ5.out.cell 0
    have b1 := BZ5.out.cell 1
    have b2 := BZ5.out.cell 2
    have b3 := BZ5.out.cell 3
    have b4 := BZ5.out.cell 4
    have b5 := BZ5.out.cell 5
    simp only [List.getElem?_cons_zero, List.getElem?_cons_succ] at b0 b1 b2 b3 b4 b5
    go_wp2_with fail
    refine (same_self t _ _ _ kz nz pz qz sz Az mz cz k n p q s A m c (by have := HSt.out; omega) HTz5.out (HTw.out.ex HX5.out)).mono ?_
    rintro e w5b ⟨rfl, hx5b⟩
    have HXW : Hid (Ex w w5b) := HX5.out.trans hx5b
    clear hx5b lp a0 a1 a2 a3 a4 a5 lz b0 b1 b2 b3 b4 b5
    go_wp2_with fail
    refine (HPs.out _ HXW.out).mono ?_
    rintro e w6 ⟨kx, nx, px, qx, sx, Ax, mx, cx, rfl, htx, hx6⟩
    have HX6 : Hid (Ex w ((w6.alloc (.cells #[.int .i64 kx, .int .i64 nx, .int .i64 px, .int .i64 qx, .string sx, .slice Ax mx cx] 24)).alloc (.cells #[.int .i64 0, .int .i64 0] 39))) := ((HXW.out.trans hx6).alloc _).alloc _
    have BX6 : Hid (Blk ((w6.alloc (.cells #[.int .i64 kx, .int .i64 nx, .int .i64 px, .int .i64 qx, .string sx, .slice Ax mx cx] 24)).alloc (.cells #[.int .i64 0, .int .i64 0] 39)) w6.heap.size 24 (c6 kx nx px qx sx Ax mx cx)) := (Blk.new w6 _ _).alloc _
    have HTx := Lib.hid ((htx.ex ((Ex.refl _).alloc (.cells #[.int .i64 kx, .int .i64 nx, .int .i64 px, .int .i64 qx, .string sx, .slice Ax mx cx] 24))).ex ((Ex.refl _).alloc (.cells #[.int .i64 0, .int .i64 0] 39)))
    clear htx hx6
    go_wp2_with fail
    have HGx := Lib.hid (great_c x _ _ kx nx px qx sx Ax mx cx HLn.out HTx.out)
    unfold GreatR at HGx
    refine HGx.out.mono ?_
    rintro e w7 ⟨g2, rfl, -, hg2, hx7⟩
    have hg3 := hg2 HSz.out.1 HSz.out.2
    subst hg3
    have HX7 : Hid (Ex w w7) := HX6.out.trans hx7
    have BX7 := Lib.hid (BX6.out.ex hx7)
    have HTx7 := Lib.hid (HTx.out.ex hx7)
    have lx := BX7.out.lt
    have d0 := BX7.out.cell 0
    have d1 := BX7.out.cell 1
    have d2 := BX7.out.cell 2
    have d3 := BX7.out.cell 3
    have d4 := BX7.out.cell 4
    have d5 := BX7.out.cell 5
    simp only [List.getElem?_cons_zero, List.getElem?_cons_succ] at d0 d1 d2 d3 d4 d5
    clear hg2 hx7 HGx BX6 HTx HX6
    go_wp2_with fail
    have HVx := Lib.hid (valid_c x _ _ kx nx px qx sx Ax mx cx (by have := HSz.out.1; omega) HNm.out HTx7.out)
    rw [HVal.out] at HVx
    refine HVx.out.mono ?_
    rintro e w8 ⟨rfl, hx8⟩
    have HX8 : Hid (Ex w w8) := HX7.out.trans hx8
    have BX8 := Lib.hid (BX7.out.ex hx8)
    have HTx8 := Lib.hid (HTx7.out.ex hx8)
    clear hx8 HVx BX7 HTx7 lx d0 d1 d2 d3 d4 d5
    have lx := BX8.out.lt
    have d0 := BX8.out.cell 0
    have d1 := BX8.out.cell 1
    have d2 := BX8.out.cell 2
    have d3 := BX8.out.cell 3
    have d4 := BX8.out.cell 4
    have d5 := BX8.out.cell 5
    simp only [List.getElem?_cons_zero, List.getElem?_cons_succ] at d0 d1 d2 d3 d4 d5
    go_wp2_with fail
    have HTt := Lib.hid (text_c x _ _ kx nx px qx sx Ax mx cx (HEe.out.ex HX8.out) (by have := HSz.out.1; omega) HNm.out HTx8.out)
    unfold TextV at HTt
    rw [HVal.out, if_pos rfl, HTX.out] at HTt
    refine HTt.out.mono ?_
    rintro e w9 ⟨rfl, hx9⟩
    have HX9 : Hid (Ex w w9) := HX8.out.trans hx9
    have BX9 := Lib.hid (BX8.out.ex hx9)
    have HTx9 := Lib.hid (HTx8.out.ex hx9)
    clear hx9 HTt BX8 HTx8 lx d0 d1 d2 d3 d4 d5
    go_wp2_with fail
    refine (HPx.out _ HX9.out).mono ?_
    rintro e w10 ⟨ky, ny, py, qy, sy, Ay, my, cy, rfl, hty, hx10⟩
    have HX10 : Hid (Ex w ((w10.alloc (.cells #[.int .i64 ky, .int .i64 ny, .int .i64 py, .int .i64 qy, .string sy, .slice Ay my cy] 24)).alloc (.cells #[.int .i64 0, .int .i64 0] 39))) := ((HX9.out.trans hx10).alloc _).alloc _
    have BX10 := Lib.hid (BX9.out.ex hx10)
    have HTx10 := Lib.hid (((HTx9.out.ex hx10).ex ((Ex.refl _).alloc (.cells #[.int .i64 ky, .int .i64 ny, .int .i64 py, .int .i64 qy, .string sy, .slice Ay my cy] 24))).ex ((Ex.refl _).alloc (.cells #[.int .i64 0, .int .i64 0] 39)))
    have HTy := Lib.hid ((hty.ex ((Ex.refl _).alloc (.cells #[.int .i64 ky, .int .i64 ny, .int .i64 py, .int .i64 qy, .string sy, .slice Ay my cy] 24))).ex ((Ex.refl _).alloc (.cells #[.int .i64 0, .int .i64 0] 39)))
    have lx := BX10.out.lt
    have d0 := BX10.out.cell 0
    have d1 := BX10.out.cell 1
    have d2 := BX10.out.cell 2
    have d3 := BX10.out.cell 3
    have d4 := BX10.out.cell 4
    have d5 := BX10.out.cell 5
    simp only [List.getElem?_cons_zero, List.getElem?_cons_succ] at d0 d1 d2 d3 d4 d5
    clear hty hx10 BX9 HTx9
    go_wp2_with fail
    refine (same_self x _ _ _ kx nx px qx sx Ax mx cx ky ny py qy sy Ay my cy (by have := HSz.out.1; omega) HTx10.out HTy.out).mono ?_
    rintro e w11 ⟨rfl, z11, rfl⟩
    go_wp2_with fail
    go_ret
    exact Ret.mk rfl (HX10.out.ext _)
set_option maxRecDepth 20000 in
set_option maxHeartbeats 4000000 in
theorem back_ve (t : Tr) (Q : Nat → Prop) (w : World) (k n p q : Int) (s : ByteArray) (A : Option Addr) (m c : Nat) (S : ByteArray) (hE : Envw w) (hn : LnOk t) (hm : NmOk t) (ht : TrC Q w t (c6 k n p q s A m c)) (hv : validB t = true) (hl : S.size ≤ 1000) (ep : Nat × Nat) (en : Nat) (hp : parseO S.data.toList = .err ep en) : Calls Tryz.prog 5 #[.agg #[.int .i64 k, .int .i64 n, .int .i64 p, .int .i64 q, .string s, .slice A m c], .string S] w (Ret w (.bool true)) := by
  have HA := Lib.hid (fun w' (hx : Ex w w') => awake_c w' (hE.ex hx))
  have HG := Lib.hid (fun w' (hx : Ex w w') => great_c t Q w' k n p q s A m c hn (ht.ex hx))
  unfold GreatR at HG
  have BP : Hid (Blk (w.alloc (.cells #[.int .i64 k, .int .i64 n, .int .i64 p, .int .i64 q, .string s, .slice A m c] 24)) w.heap.size 24 (c6 k n p q s A m c)) := Blk.new w _ _
  have z1 : decide (1000 < (S.size : Int)) = false := decide_eq_false (by omega)
  have HPs := Lib.hid (fun w' (hx : Ex w w') => parse_c S w' (hE.ex hx).1)
  rw [hp] at HPs
  unfold ParseR at HPs
  dsimp only at HPs
  have HTp := Lib.hid (fun (hs : t.size ≤ 250) w' (hx : Ex w w') => text_c t Q w' k n p q s A m c (hE.ex hx) (by omega) hm (ht.ex hx))
  unfold TextV at HTp
  rw [hv] at HTp
  rw [if_pos rfl] at HTp
  have HPt := Lib.hid (fun w' (hx : Ex w w') => parse_c ⟨(wrL t 0).toArray⟩ w' (hE.ex hx).1)
  rw [show (⟨(wrL t 0).toArray⟩ : ByteArray).data.toList = wrL t 0 from rfl, back_law hv] at HPt
  unfold ParseR at HPt
  dsimp only at HPt
  have HVp := Lib.hid (fun (hs : t.size ≤ 250) w' (hx : Ex w w') => valid_c t Q w' k n p q s A m c (by omega) hm (ht.ex hx))
  rw [hv] at HVp
  have HTw := Lib.hid ht
  have hen := parseO_err hp
  have HEn : Hid ((((en : Nat) : Int) != 0) = true ∧ (((en : Nat) : Int) == 0) = false) := ⟨by rw [bne_iff_ne]; omega, beq_eq_false_iff_ne.2 (by omega)⟩
  have HZ := Lib.hid zero_z
  obtain ⟨ep1, ep2⟩ := ep
  dsimp only at HPs
  clear hen
  generalize (⟨(wrL t 0).toArray⟩ : ByteArray) = TP at *
  clear hE hn hm ht hl hv hp
  go_enter Tryz.func5, Tryz.ntmps5
  go_wp2_with fail
  refine (HA.out _ ((Ex.refl _).alloc _)).mono ?_
  rintro e w1 ⟨rfl, hx1⟩
  have BP1 := Lib.hid (BP.out.ex hx1)
  have HX1 : Hid (Ex w w1) := ((Ex.refl w).alloc _).trans hx1
  have lp := BP1.out.lt
  have a0 := BP1.out.cell 0
  have a1 := BP1.out.cell 1
  have a2 := BP1.out.cell 2
  have a3 := BP1.out.cell 3
  have a4 := BP1.out.cell 4
  have a5 := BP1.out.cell 5
  simp only [List.getElem?_cons_zero, List.getElem?_cons_succ] at a0 a1 a2 a3 a4 a5
  clear hx1
  go_wp2_with fail
  refine (HG.out _ HX1.out).mono ?_
  rintro e w2 ⟨g1, rfl, hg1, -, hx2⟩
  have BP2 := Lib.hid (BP1.out.ex hx2)
  have HX2 : Hid (Ex w w2) := HX1.out.trans hx2
  have Hg1 := Lib.hid hg1
  clear lp a0 a1 a2 a3 a4 a5 hx2 hg1 BP BP1 HA HG
  have lp := BP2.out.lt
  have a0 := BP2.out.cell 0
  have a1 := BP2.out.cell 1
  have a2 := BP2.out.cell 2
  have a3 := BP2.out.cell 3
  have a4 := BP2.out.cell 4
  have a5 := BP2.out.cell 5
  simp only [List.getElem?_cons_zero, List.getElem?_cons_succ] at a0 a1 a2 a3 a4 a5
  cases g1 with
  | true =>
    go_wp2_with fail
    go_ret
    exact Ret.mk rfl HX2.out
  | false =>
    have hsz := Hg1.out (by simp)
    have HTp2 := Lib.hid (HTp.out hsz)
    have HVp2 := Lib.hid (HVp.out hsz)
    have HSt : Hid (t.size ≤ 250) := hsz
    clear Hg1 HTp hsz HVp
    go_wp2_with fail
    refine (HTp2.out _ HX2.out).mono ?_
    rintro e w3 ⟨rfl, hx3⟩
    have HX3 : Hid (Ex w w3) := HX2.out.trans hx3
    have BP3 := Lib.hid (BP2.out.ex hx3)
    clear hx3 BP2 lp a0 a1 a2 a3 a4 a5
    go_wp2_with fail
    refine (HPt.out _ HX3.out).mono ?_
    rintro e w4 ⟨kz, nz, pz, qz, sz, Az, mz, cz, rfl, htz, hx4⟩
    have HX4 : Hid (Ex w ((w4.alloc (.cells #[.int .i64 kz, .int .i64 nz, .int .i64 pz, .int .i64 qz, .string sz, .slice Az mz cz] 24)).alloc (.cells #[.int .i64 0, .int .i64 0] 39))) := ((HX3.out.trans hx4).alloc _).alloc _
    have BP4 := Lib.hid ((((BP3.out.ex hx4).alloc (.cells #[.int .i64 kz, .int .i64 nz, .int .i64 pz, .int .i64 qz, .string sz, .slice Az mz cz] 24)).alloc (.cells #[.int .i64 0, .int .i64 0] 39)))
    have BZ4 : Hid (Blk ((w4.alloc (.cells #[.int .i64 kz, .int .i64 nz, .int .i64 pz, .int .i64 qz, .string sz, .slice Az mz cz] 24)).alloc (.cells #[.int .i64 0, .int .i64 0] 39)) w4.heap.size 24 (c6 kz nz pz qz sz Az mz cz)) := (Blk.new w4 _ _).alloc _
    have HTz := Lib.hid ((htz.ex ((Ex.refl _).alloc (.cells #[.int .i64 kz, .int .i64 nz, .int .i64 pz, .int .i64 qz, .string sz, .slice Az mz cz] 24))).ex ((Ex.refl _).alloc (.cells #[.int .i64 0, .int .i64 0] 39)))
    have bp3 := BP3.out.ex hx4
    have lp := bp3.lt
    have a0 := bp3.cell 0
    have a1 := bp3.cell 1
    have a2 := bp3.cell 2
    have a3 := bp3.cell 3
    have a4 := bp3.cell 4
    have a5 := bp3.cell 5
    simp only [List.getElem?_cons_zero, List.getElem?_cons_succ] at a0 a1 a2 a3 a4 a5
    clear htz hx4 bp3
    go_wp2_with fail
    refine (HVp2.out _ HX4.out).mono ?_
    rintro e w5 ⟨rfl, hx5⟩
    have HX5 : Hid (Ex w w5) := HX4.out.trans hx5
    have BP5 := Lib.hid (BP4.out.ex hx5)
    have BZ5 := Lib.hid (BZ4.out.ex hx5)
    have HTz5 := Lib.hid (HTz.out.ex hx5)
    clear lp a0 a1 a2 a3 a4 a5 hx5 BP4 BZ4 HTz
    have lp := BP5.out.lt
    have a0 := BP5.out.cell 0
    have a1 := BP5.out.cell 1
    have a2 := BP5.out.cell 2
    have a3 := BP5.out.cell 3
    have a4 := BP5.out.cell 4
    have a5 := BP5.out.cell 5
    simp only [List.getElem?_cons_zero, List.getElem?_cons_succ] at a0 a1 a2 a3 a4 a5
    have lz := BZ5.out.lt
    have b0 := BZ5.out.cell 0
    have b1 := BZ5.out.cell 1
    have b2 := BZ5.out.cell 2
    have b3 := BZ5.out.cell 3
    have b4 := BZ5.out.cell 4
    have b5 := BZ5.out.cell 5
    simp only [List.getElem?_cons_zero, List.getElem?_cons_succ] at b0 b1 b2 b3 b4 b5
    go_wp2_with fail
    refine (same_self t _ _ _ kz nz pz qz sz Az mz cz k n p q s A m c (by have := HSt.out; omega) HTz5.out (HTw.out.ex HX5.out)).mono ?_
    rintro e w5b ⟨rfl, hx5b⟩
    have HXW : Hid (Ex w w5b) := HX5.out.trans hx5b
    clear hx5b lp a0 a1 a2 a3 a4 a5 lz b0 b1 b2 b3 b4 b5
    go_wp2_with fail
    refine (HPs.out _ HXW.out).mono ?_
    rintro e w6 ⟨rfl, hx6⟩
    have HX6 := Lib.hid (HXW.out.trans hx6)
    clear hx6
    have be1 : (((en : Nat) : Int) != 0) = true := HEn.out.1
    have be2 : (((en : Nat) : Int) == 0) = false := HEn.out.2
    go_wp2_with fail
    refine (HZ.out _).mono ?_
    rintro e w7 ⟨rfl, z7, rfl⟩
    go_wp2_with fail
    go_ret
    exact Ret.mk rfl (((HX6.out.alloc _).alloc _).ext _)
set_option maxRecDepth 20000 in
set_option maxHeartbeats 4000000 in
theorem back_nt (t : Tr) (Q : Nat → Prop) (w : World) (k n p q : Int) (s : ByteArray) (A : Option Addr) (m c : Nat) (S : ByteArray) (hE : Envw w) (hn : LnOk t) (hm : NmOk t) (ht : TrC Q w t (c6 k n p q s A m c)) (hv : validB t = false) (hl : S.size ≤ 1000) (x : Tr) (hp : parseO S.data.toList = .tree x) : Calls Tryz.prog 5 #[.agg #[.int .i64 k, .int .i64 n, .int .i64 p, .int .i64 q, .string s, .slice A m c], .string S] w (Ret w (.bool true)) := by
  have HA := Lib.hid (fun w' (hx : Ex w w') => awake_c w' (hE.ex hx))
  have HG := Lib.hid (fun w' (hx : Ex w w') => great_c t Q w' k n p q s A m c hn (ht.ex hx))
  unfold GreatR at HG
  have BP : Hid (Blk (w.alloc (.cells #[.int .i64 k, .int .i64 n, .int .i64 p, .int .i64 q, .string s, .slice A m c] 24)) w.heap.size 24 (c6 k n p q s A m c)) := Blk.new w _ _
  have z1 : decide (1000 < (S.size : Int)) = false := decide_eq_false (by omega)
  have HPs := Lib.hid (fun w' (hx : Ex w w') => parse_c S w' (hE.ex hx).1)
  rw [hp] at HPs
  unfold ParseR at HPs
  dsimp only at HPs
  have HTp := Lib.hid (fun (hs : t.size ≤ 250) w' (hx : Ex w w') => text_c t Q w' k n p q s A m c (hE.ex hx) (by omega) hm (ht.ex hx))
  unfold TextV at HTp
  rw [hv] at HTp
  rw [if_neg (by simp)] at HTp
  have hvx := parse_valid hp
  have HVal := Lib.hid hvx
  have HPx := Lib.hid (fun w' (hx : Ex w w') => parse_c ⟨(wrL x 0).toArray⟩ w' (hE.ex hx).1)
  rw [show (⟨(wrL x 0).toArray⟩ : ByteArray).data.toList = wrL x 0 from rfl, back_law hvx] at HPx
  unfold ParseR at HPx
  dsimp only at HPx
  have HSz : Hid (x.size ≤ 250 ∧ x.depth ≤ 40) := by
    unfold validB smallB at hvx
    simp only [Bool.and_eq_true, decide_eq_true_eq] at hvx
    exact ⟨by omega, by omega⟩
  have HNm : Hid (NmOk x) := formed_names x (by
    unfold validB at hvx
    rw [Bool.and_eq_true] at hvx
    exact hvx.2)
  have HLn : Hid (LnOk x) := LnOk.of_size (N := 250) (by unfold maxLen; omega) x HSz.out.1
  have HEe := Lib.hid hE
  generalize hTX : (⟨(wrL x 0).toArray⟩ : ByteArray) = TX at *
  have HTX := Lib.hid hTX
  clear hvx hTX
  clear hE hn hm ht hl hv hp
  go_enter Tryz.func5, Tryz.ntmps5
  go_wp2_with fail
  refine (HA.out _ ((Ex.refl _).alloc _)).mono ?_
  rintro e w1 ⟨rfl, hx1⟩
  have BP1 := Lib.hid (BP.out.ex hx1)
  have HX1 : Hid (Ex w w1) := ((Ex.refl w).alloc _).trans hx1
  have lp := BP1.out.lt
  have a0 := BP1.out.cell 0
  have a1 := BP1.out.cell 1
  have a2 := BP1.out.cell 2
  have a3 := BP1.out.cell 3
  have a4 := BP1.out.cell 4
  have a5 := BP1.out.cell 5
  simp only [List.getElem?_cons_zero, List.getElem?_cons_succ] at a0 a1 a2 a3 a4 a5
  clear hx1
  go_wp2_with fail
  refine (HG.out _ HX1.out).mono ?_
  rintro e w2 ⟨g1, rfl, hg1, -, hx2⟩
  have BP2 := Lib.hid (BP1.out.ex hx2)
  have HX2 : Hid (Ex w w2) := HX1.out.trans hx2
  have Hg1 := Lib.hid hg1
  clear lp a0 a1 a2 a3 a4 a5 hx2 hg1 BP BP1 HA HG
  have lp := BP2.out.lt
  have a0 := BP2.out.cell 0
  have a1 := BP2.out.cell 1
  have a2 := BP2.out.cell 2
  have a3 := BP2.out.cell 3
  have a4 := BP2.out.cell 4
  have a5 := BP2.out.cell 5
  simp only [List.getElem?_cons_zero, List.getElem?_cons_succ] at a0 a1 a2 a3 a4 a5
  cases g1 with
  | true =>
    go_wp2_with fail
    go_ret
    exact Ret.mk rfl HX2.out
  | false =>
    have hsz := Hg1.out (by simp)
    have HTp2 := Lib.hid (HTp.out hsz)
    have HSt : Hid (t.size ≤ 250) := hsz
    clear Hg1 HTp hsz
    go_wp2_with fail
    refine (HTp2.out _ HX2.out).mono ?_
    rintro e w3 ⟨rfl, hx3⟩
    have HX3 : Hid (Ex w w3) := HX2.out.trans hx3
    have BP3 := Lib.hid (BP2.out.ex hx3)
    clear hx3 BP2 lp a0 a1 a2 a3 a4 a5
    have HXW := HX3
    go_wp2_with fail
    refine (HPs.out _ HXW.out).mono ?_
    rintro e w6 ⟨kx, nx, px, qx, sx, Ax, mx, cx, rfl, htx, hx6⟩
    have HX6 : Hid (Ex w ((w6.alloc (.cells #[.int .i64 kx, .int .i64 nx, .int .i64 px, .int .i64 qx, .string sx, .slice Ax mx cx] 24)).alloc (.cells #[.int .i64 0, .int .i64 0] 39))) := ((HXW.out.trans hx6).alloc _).alloc _
    have BX6 : Hid (Blk ((w6.alloc (.cells #[.int .i64 kx, .int .i64 nx, .int .i64 px, .int .i64 qx, .string sx, .slice Ax mx cx] 24)).alloc (.cells #[.int .i64 0, .int .i64 0] 39)) w6.heap.size 24 (c6 kx nx px qx sx Ax mx cx)) := (Blk.new w6 _ _).alloc _
    have HTx := Lib.hid ((htx.ex ((Ex.refl _).alloc (.cells #[.int .i64 kx, .int .i64 nx, .int .i64 px, .int .i64 qx, .string sx, .slice Ax mx cx] 24))).ex ((Ex.refl _).alloc (.cells #[.int .i64 0, .int .i64 0] 39)))
    clear htx hx6
    go_wp2_with fail
    have HGx := Lib.hid (great_c x _ _ kx nx px qx sx Ax mx cx HLn.out HTx.out)
    unfold GreatR at HGx
    refine HGx.out.mono ?_
    rintro e w7 ⟨g2, rfl, -, hg2, hx7⟩
    have hg3 := hg2 HSz.out.1 HSz.out.2
    subst hg3
    have HX7 : Hid (Ex w w7) := HX6.out.trans hx7
    have BX7 := Lib.hid (BX6.out.ex hx7)
    have HTx7 := Lib.hid (HTx.out.ex hx7)
    have lx := BX7.out.lt
    have d0 := BX7.out.cell 0
    have d1 := BX7.out.cell 1
    have d2 := BX7.out.cell 2
    have d3 := BX7.out.cell 3
    have d4 := BX7.out.cell 4
    have d5 := BX7.out.cell 5
    simp only [List.getElem?_cons_zero, List.getElem?_cons_succ] at d0 d1 d2 d3 d4 d5
    clear hg2 hx7 HGx BX6 HTx HX6
    go_wp2_with fail
    have HVx := Lib.hid (valid_c x _ _ kx nx px qx sx Ax mx cx (by have := HSz.out.1; omega) HNm.out HTx7.out)
    rw [HVal.out] at HVx
    refine HVx.out.mono ?_
    rintro e w8 ⟨rfl, hx8⟩
    have HX8 : Hid (Ex w w8) := HX7.out.trans hx8
    have BX8 := Lib.hid (BX7.out.ex hx8)
    have HTx8 := Lib.hid (HTx7.out.ex hx8)
    clear hx8 HVx BX7 HTx7 lx d0 d1 d2 d3 d4 d5
    have lx := BX8.out.lt
    have d0 := BX8.out.cell 0
    have d1 := BX8.out.cell 1
    have d2 := BX8.out.cell 2
    have d3 := BX8.out.cell 3
    have d4 := BX8.out.cell 4
    have d5 := BX8.out.cell 5
    simp only [List.getElem?_cons_zero, List.getElem?_cons_succ] at d0 d1 d2 d3 d4 d5
    go_wp2_with fail
    have HTt := Lib.hid (text_c x _ _ kx nx px qx sx Ax mx cx (HEe.out.ex HX8.out) (by have := HSz.out.1; omega) HNm.out HTx8.out)
    unfold TextV at HTt
    rw [HVal.out, if_pos rfl, HTX.out] at HTt
    refine HTt.out.mono ?_
    rintro e w9 ⟨rfl, hx9⟩
    have HX9 : Hid (Ex w w9) := HX8.out.trans hx9
    have BX9 := Lib.hid (BX8.out.ex hx9)
    have HTx9 := Lib.hid (HTx8.out.ex hx9)
    clear hx9 HTt BX8 HTx8 lx d0 d1 d2 d3 d4 d5
    go_wp2_with fail
    refine (HPx.out _ HX9.out).mono ?_
    rintro e w10 ⟨ky, ny, py, qy, sy, Ay, my, cy, rfl, hty, hx10⟩
    have HX10 : Hid (Ex w ((w10.alloc (.cells #[.int .i64 ky, .int .i64 ny, .int .i64 py, .int .i64 qy, .string sy, .slice Ay my cy] 24)).alloc (.cells #[.int .i64 0, .int .i64 0] 39))) := ((HX9.out.trans hx10).alloc _).alloc _
    have BX10 := Lib.hid (BX9.out.ex hx10)
    have HTx10 := Lib.hid (((HTx9.out.ex hx10).ex ((Ex.refl _).alloc (.cells #[.int .i64 ky, .int .i64 ny, .int .i64 py, .int .i64 qy, .string sy, .slice Ay my cy] 24))).ex ((Ex.refl _).alloc (.cells #[.int .i64 0, .int .i64 0] 39)))
    have HTy := Lib.hid ((hty.ex ((Ex.refl _).alloc (.cells #[.int .i64 ky, .int .i64 ny, .int .i64 py, .int .i64 qy, .string sy, .slice Ay my cy] 24))).ex ((Ex.refl _).alloc (.cells #[.int .i64 0, .int .i64 0] 39)))
    have lx := BX10.out.lt
    have d0 := BX10.out.cell 0
    have d1 := BX10.out.cell 1
    have d2 := BX10.out.cell 2
    have d3 := BX10.out.cell 3
    have d4 := BX10.out.cell 4
    have d5 := BX10.out.cell 5
    simp only [List.getElem?_cons_zero, List.getElem?_cons_succ] at d0 d1 d2 d3 d4 d5
    clear hty hx10 BX9 HTx9
    go_wp2_with fail
    refine (same_self x _ _ _ kx nx px qx sx Ax mx cx ky ny py qy sy Ay my cy (by have := HSz.out.1; omega) HTx10.out HTy.out).mono ?_
    rintro e w11 ⟨rfl, z11, rfl⟩
    go_wp2_with fail
    go_ret
    exact Ret.mk rfl (HX10.out.ext _)
set_option maxRecDepth 20000 in
set_option maxHeartbeats 4000000 in
theorem back_ne (t : Tr) (Q : Nat → Prop) (w : World) (k n p q : Int) (s : ByteArray) (A : Option Addr) (m c : Nat) (S : ByteArray) (hE : Envw w) (hn : LnOk t) (hm : NmOk t) (ht : TrC Q w t (c6 k n p q s A m c)) (hv : validB t = false) (hl : S.size ≤ 1000) (ep : Nat × Nat) (en : Nat) (hp : parseO S.data.toList = .err ep en) : Calls Tryz.prog 5 #[.agg #[.int .i64 k, .int .i64 n, .int .i64 p, .int .i64 q, .string s, .slice A m c], .string S] w (Ret w (.bool true)) := by
  have HA := Lib.hid (fun w' (hx : Ex w w') => awake_c w' (hE.ex hx))
  have HG := Lib.hid (fun w' (hx : Ex w w') => great_c t Q w' k n p q s A m c hn (ht.ex hx))
  unfold GreatR at HG
  have BP : Hid (Blk (w.alloc (.cells #[.int .i64 k, .int .i64 n, .int .i64 p, .int .i64 q, .string s, .slice A m c] 24)) w.heap.size 24 (c6 k n p q s A m c)) := Blk.new w _ _
  have z1 : decide (1000 < (S.size : Int)) = false := decide_eq_false (by omega)
  have HPs := Lib.hid (fun w' (hx : Ex w w') => parse_c S w' (hE.ex hx).1)
  rw [hp] at HPs
  unfold ParseR at HPs
  dsimp only at HPs
  have HTp := Lib.hid (fun (hs : t.size ≤ 250) w' (hx : Ex w w') => text_c t Q w' k n p q s A m c (hE.ex hx) (by omega) hm (ht.ex hx))
  unfold TextV at HTp
  rw [hv] at HTp
  rw [if_neg (by simp)] at HTp
  have hen := parseO_err hp
  have HEn : Hid ((((en : Nat) : Int) != 0) = true ∧ (((en : Nat) : Int) == 0) = false) := ⟨by rw [bne_iff_ne]; omega, beq_eq_false_iff_ne.2 (by omega)⟩
  have HZ := Lib.hid zero_z
  obtain ⟨ep1, ep2⟩ := ep
  dsimp only at HPs
  clear hen
  clear hE hn hm ht hl hv hp
  go_enter Tryz.func5, Tryz.ntmps5
  go_wp2_with fail
  refine (HA.out _ ((Ex.refl _).alloc _)).mono ?_
  rintro e w1 ⟨rfl, hx1⟩
  have BP1 := Lib.hid (BP.out.ex hx1)
  have HX1 : Hid (Ex w w1) := ((Ex.refl w).alloc _).trans hx1
  have lp := BP1.out.lt
  have a0 := BP1.out.cell 0
  have a1 := BP1.out.cell 1
  have a2 := BP1.out.cell 2
  have a3 := BP1.out.cell 3
  have a4 := BP1.out.cell 4
  have a5 := BP1.out.cell 5
  simp only [List.getElem?_cons_zero, List.getElem?_cons_succ] at a0 a1 a2 a3 a4 a5
  clear hx1
  go_wp2_with fail
  refine (HG.out _ HX1.out).mono ?_
  rintro e w2 ⟨g1, rfl, hg1, -, hx2⟩
  have BP2 := Lib.hid (BP1.out.ex hx2)
  have HX2 : Hid (Ex w w2) := HX1.out.trans hx2
  have Hg1 := Lib.hid hg1
  clear lp a0 a1 a2 a3 a4 a5 hx2 hg1 BP BP1 HA HG
  have lp := BP2.out.lt
  have a0 := BP2.out.cell 0
  have a1 := BP2.out.cell 1
  have a2 := BP2.out.cell 2
  have a3 := BP2.out.cell 3
  have a4 := BP2.out.cell 4
  have a5 := BP2.out.cell 5
  simp only [List.getElem?_cons_zero, List.getElem?_cons_succ] at a0 a1 a2 a3 a4 a5
  cases g1 with
  | true =>
    go_wp2_with fail
    go_ret
    exact Ret.mk rfl HX2.out
  | false =>
    have hsz := Hg1.out (by simp)
    have HTp2 := Lib.hid (HTp.out hsz)
    have HSt : Hid (t.size ≤ 250) := hsz
    clear Hg1 HTp hsz
    go_wp2_with fail
    refine (HTp2.out _ HX2.out).mono ?_
    rintro e w3 ⟨rfl, hx3⟩
    have HX3 : Hid (Ex w w3) := HX2.out.trans hx3
    have BP3 := Lib.hid (BP2.out.ex hx3)
    clear hx3 BP2 lp a0 a1 a2 a3 a4 a5
    have HXW := HX3
    go_wp2_with fail
    refine (HPs.out _ HXW.out).mono ?_
    rintro e w6 ⟨rfl, hx6⟩
    have HX6 := Lib.hid (HXW.out.trans hx6)
    clear hx6
    have be1 : (((en : Nat) : Int) != 0) = true := HEn.out.1
    have be2 : (((en : Nat) : Int) == 0) = false := HEn.out.2
    go_wp2_with fail
    refine (HZ.out _).mono ?_
    rintro e w7 ⟨rfl, z7, rfl⟩
    go_wp2_with fail
    go_ret
    exact Ret.mk rfl (((HX6.out.alloc _).alloc _).ext _)

theorem back_law_c (t : Tr) (Q : Nat → Prop) (w : World) (k n p q : Int) (s : ByteArray) (A : Option Addr) (m c : Nat) (S : ByteArray) (hE : Envw w) (hn : LnOk t) (hm : NmOk t) (ht : TrC Q w t (c6 k n p q s A m c)) : Calls Tryz.prog 5 #[.agg #[.int .i64 k, .int .i64 n, .int .i64 p, .int .i64 q, .string s, .slice A m c], .string S] w (Ret w (.bool true)) := by
  by_cases hl : 1000 < S.size
  · exact back_long t Q w k n p q s A m c S hE hn ht hl
  · cases hv : validB t with
    | true =>
      cases hp : parseO S.data.toList with
      | tree x => exact back_vt t Q w k n p q s A m c S hE hn hm ht hv (by omega) x hp
      | err ep en => exact back_ve t Q w k n p q s A m c S hE hn hm ht hv (by omega) ep en hp
    | false =>
      cases hp : parseO S.data.toList with
      | tree x => exact back_nt t Q w k n p q s A m c S hE hn hm ht hv (by omega) x hp
      | err ep en => exact back_ne t Q w k n p q s A m c S hE hn hm ht hv (by omega) ep en hp
end Go.Proofs.YthjalkonlcjhnaaGreatDoor
