/-
  The law Texts, walked.
  Conditions: the world's tables are as laid (Envw).
-/
import Derived.Test.YthjalkonlcjhnaaGreatDoorRd
import Derived.Test.YthjalkonlcjhnaaGreatDoorTa
import Derived.Test.YthjalkonlcjhnaaGreatDoorWl
namespace Go.Proofs.YthjalkonlcjhnaaGreatDoor
open Go.RowKit
theorem zero_c (t : Tr) (Q : Nat → Prop) (w : World) (k n p q : Int) (s : ByteArray) (A : Option Addr) (m c : Nat) (hs : t.size ≤ 1000000) (h : TrC Q w t (c6 k n p q s A m c)) :
    Calls Tryz.prog 24 #[.agg #[.int .i64 k, .int .i64 n, .int .i64 p, .int .i64 q, .string s, .slice A m c]] w (Ret w (.bool (sameB t (nd 0 [])))) := by
  have HS : Hid (∀ w', Ex w w' → Calls Tryz.prog 10 #[.agg #[.int .i64 k, .int .i64 n, .int .i64 p, .int .i64 q, .string s, .slice A m c], .agg #[.int .i64 0, .int .i64 0, .int .i64 0, .int .i64 0, .string ⟨#[]⟩, .slice none 0 0]] w' (Ret w' (.bool (sameB t (nd 0 []))))) := fun w' hx =>
    same_c t.size t (nd 0 []) Q Q w' k n p q 0 0 0 0 s ⟨#[]⟩ A none m 0 c 0 (Nat.le_refl _) hs (by rw [nd_size0]; omega) (h.ex hx) (.leaf 0 0 0 0 ⟨#[]⟩ none 0)
  generalize sameB t (nd 0 []) = qq at *
  clear h
  go_enter Tryz.func24, Tryz.ntmps24
  go_wp2_with fail
  refine (HS.out _ ((Ex.refl _).alloc _)).mono ?_
  rintro e w' ⟨rfl, z, rfl⟩
  go_wp2_with fail
  go_ret
  exact Ret.mk rfl (((Ex.refl _).alloc _).ext _)
set_option maxRecDepth 100000 in
set_option maxHeartbeats 6400000 in
theorem texts_mid (t : Tr) (Q : Nat → Prop) (w : World) (k n p q : Int) (s S : ByteArray) (A : Option Addr) (m c : Nat) (hE : Envw w) (hn : LnOk t) (hm : NmOk t) (ht : TrC Q w t (c6 k n p q s A m c)) (h1 : 1000 < S.size) (h2 : S.size ≤ 16384) :
    Calls Tryz.prog 4 #[.agg #[.int .i64 k, .int .i64 n, .int .i64 p, .int .i64 q, .string s, .slice A m c], .string S] w (Ret w (.bool true)) := by
  have HG := Lib.hid (fun w' (hx : Ex w w') => great_c t Q w' k n p q s A m c hn (ht.ex hx))
  unfold GreatR at HG
  have HT := Lib.hid ht
  have HM := Lib.hid hm
  have HEn := Lib.hid hE
  have HA := Lib.hid (fun w' (hx : Ex w w') => awake_c w' (hE.ex hx))
  have HX0 : Hid (Ex w (w.alloc (.cells #[.int .i64 k, .int .i64 n, .int .i64 p, .int .i64 q, .string s, .slice A m c] 24))) := (Ex.refl w).alloc _
  have BP0 : Hid (Blk (w.alloc (.cells #[.int .i64 k, .int .i64 n, .int .i64 p, .int .i64 q, .string s, .slice A m c] 24)) w.heap.size 24 (c6 k n p q s A m c)) := Blk.new w _ _
  clear hE hn hm ht
  have z1 : decide (1000 < (S.size : Int)) = true := decide_eq_true (by omega)
  have z2 : decide ((S.size : Int) ≤ 16384) = true := decide_eq_true (by omega)
  clear h1 h2
  go_enter Tryz.func4, Tryz.ntmps4
  go_wp2_with fail
  refine (HA.out _ HX0.out).mono ?_
  rintro e W1 ⟨rfl, hz⟩
  have HX1 : Hid (Ex w W1) := HX0.out.trans hz
  have BP1 := Lib.hid (BP0.out.ex hz)
  clear hz
  have al := (BP1.out).lt
  have a0 := (BP1.out).cell 0
  have a1 := (BP1.out).cell 1
  have a2 := (BP1.out).cell 2
  have a3 := (BP1.out).cell 3
  have a4 := (BP1.out).cell 4
  have a5 := (BP1.out).cell 5
  simp only [List.getElem?_cons_zero, List.getElem?_cons_succ] at a0 a1 a2 a3 a4 a5
  go_wp2_with fail
  refine (HG.out _ HX1.out).mono ?_
  rintro e W2 ⟨g1, rfl, hg1, -, hz⟩
  have HX2 : Hid (Ex w W2) := HX1.out.trans hz
  have BP2 := Lib.hid (BP1.out.ex hz)
  have Hg1 := Lib.hid hg1
  clear hz hg1
  clear al a0 a1 a2 a3 a4 a5
  have al := (BP2.out).lt
  have a0 := (BP2.out).cell 0
  have a1 := (BP2.out).cell 1
  have a2 := (BP2.out).cell 2
  have a3 := (BP2.out).cell 3
  have a4 := (BP2.out).cell 4
  have a5 := (BP2.out).cell 5
  simp only [List.getElem?_cons_zero, List.getElem?_cons_succ] at a0 a1 a2 a3 a4 a5
  cases g1 with
  | true =>
    go_wp2_with fail
    go_ret
    exact Ret.mk rfl HX2.out
  | false =>
    clear Hg1
    go_wp2_with fail
    go_ret
    exact Ret.mk rfl HX2.out
set_option maxRecDepth 100000 in
set_option maxHeartbeats 6400000 in
theorem texts_long_y (t : Tr) (Q : Nat → Prop) (w : World) (k n p q : Int) (s S : ByteArray) (A : Option Addr) (m c : Nat) (hE : Envw w) (hn : LnOk t) (hm : NmOk t) (ht : TrC Q w t (c6 k n p q s A m c)) (h1 : 16384 < S.size) (hv : validB t = true) :
    Calls Tryz.prog 4 #[.agg #[.int .i64 k, .int .i64 n, .int .i64 p, .int .i64 q, .string s, .slice A m c], .string S] w (Ret w (.bool true)) := by
  have HG := Lib.hid (fun w' (hx : Ex w w') => great_c t Q w' k n p q s A m c hn (ht.ex hx))
  unfold GreatR at HG
  have HT := Lib.hid ht
  have HM := Lib.hid hm
  have HEn := Lib.hid hE
  have HA := Lib.hid (fun w' (hx : Ex w w') => awake_c w' (hE.ex hx))
  have HX0 : Hid (Ex w (w.alloc (.cells #[.int .i64 k, .int .i64 n, .int .i64 p, .int .i64 q, .string s, .slice A m c] 24))) := (Ex.refl w).alloc _
  have BP0 : Hid (Blk (w.alloc (.cells #[.int .i64 k, .int .i64 n, .int .i64 p, .int .i64 q, .string s, .slice A m c] 24)) w.heap.size 24 (c6 k n p q s A m c)) := Blk.new w _ _
  clear hE hn hm ht
  have HPe : Hid (∀ w', Ex w w' → Calls Tryz.prog 23 #[.string S] w' (ParseR w' (.err (0, 0) 5))) := fun w' hx => by
    have h9 := parse_c S w' (HEn.out.ex hx).1
    unfold parseO at h9
    rw [if_pos (by rw [← size_data]; exact h1)] at h9
    exact h9
  unfold ParseR at HPe
  dsimp only at HPe
  have HZe : Hid (∀ w', Calls Tryz.prog 24 #[.agg #[.int .i64 0, .int .i64 0, .int .i64 0, .int .i64 0, .string ⟨#[]⟩, .slice none 0 0]] w' (Ret w' (.bool true))) := fun w' => by
    have h9 := zero_c (nd 0 []) (fun _ => True) w' 0 0 0 0 ⟨#[]⟩ none 0 0 (by rw [nd_size0]; omega) (.leaf 0 0 0 0 ⟨#[]⟩ none 0)
    rw [same_eq] at h9
    exact h9
  have z1 : decide (1000 < (S.size : Int)) = true := decide_eq_true (by omega)
  have z2 : decide ((S.size : Int) ≤ 16384) = false := decide_eq_false (by omega)
  have z3 : decide (16384 < (S.size : Int)) = true := decide_eq_true (by omega)
  clear h1
  go_enter Tryz.func4, Tryz.ntmps4
  go_wp2_with fail
  refine (HA.out _ HX0.out).mono ?_
  rintro e W1 ⟨rfl, hz⟩
  have HX1 : Hid (Ex w W1) := HX0.out.trans hz
  have BP1 := Lib.hid (BP0.out.ex hz)
  clear hz
  have al := (BP1.out).lt
  have a0 := (BP1.out).cell 0
  have a1 := (BP1.out).cell 1
  have a2 := (BP1.out).cell 2
  have a3 := (BP1.out).cell 3
  have a4 := (BP1.out).cell 4
  have a5 := (BP1.out).cell 5
  simp only [List.getElem?_cons_zero, List.getElem?_cons_succ] at a0 a1 a2 a3 a4 a5
  go_wp2_with fail
  refine (HG.out _ HX1.out).mono ?_
  rintro e W2 ⟨g1, rfl, hg1, -, hz⟩
  have HX2 : Hid (Ex w W2) := HX1.out.trans hz
  have BP2 := Lib.hid (BP1.out.ex hz)
  have Hg1 := Lib.hid hg1
  clear hz hg1
  clear al a0 a1 a2 a3 a4 a5
  have al := (BP2.out).lt
  have a0 := (BP2.out).cell 0
  have a1 := (BP2.out).cell 1
  have a2 := (BP2.out).cell 2
  have a3 := (BP2.out).cell 3
  have a4 := (BP2.out).cell 4
  have a5 := (BP2.out).cell 5
  simp only [List.getElem?_cons_zero, List.getElem?_cons_succ] at a0 a1 a2 a3 a4 a5
  cases g1 with
  | true =>
    go_wp2_with fail
    go_ret
    exact Ret.mk rfl HX2.out
  | false =>
    have hsz := Hg1.out (by simp)
    clear Hg1 HG HA
    have HTx := Lib.hid (fun w' (hx : Ex w w') => text_c t Q w' k n p q s A m c (HEn.out.ex hx) (by omega) HM.out (HT.out.ex hx))
    have HV := Lib.hid (fun w' (hx : Ex w w') => valid_c t Q w' k n p q s A m c (by omega) HM.out (HT.out.ex hx))
    have HWr := Lib.hid (fun w' (hx : Ex w w') => rWritten_c t Q w' k n p q s A m c (by omega) HM.out (HT.out.ex hx))
    rw [← valid_wrt] at HWr
    unfold TextV at HTx
    rw [hv] at HTx HV HWr
    rw [if_pos rfl] at HTx
    have HRt := Lib.hid (fun w' (hx : Ex w w') => rText_c t.size t Q w' k n p q s A m c (Nat.le_refl _) (by omega) (by unfold validB at hv; rw [Bool.and_eq_true] at hv; exact hv.2) (HT.out.ex hx))
    generalize (⟨(wrL t 0).toArray⟩ : ByteArray) = RR at *
    have rr : (RR.toList != RR.toList) = false := by simp
    clear hsz hv
    go_wp2_with fail
    refine (HTx.out _ HX2.out).mono ?_
    rintro e W3 ⟨rfl, hz⟩
    have HX3 : Hid (Ex w W3) := HX2.out.trans hz
    have BP3 := Lib.hid (BP2.out.ex hz)
    clear hz
    clear al a0 a1 a2 a3 a4 a5
    have al := (BP3.out).lt
    have a0 := (BP3.out).cell 0
    have a1 := (BP3.out).cell 1
    have a2 := (BP3.out).cell 2
    have a3 := (BP3.out).cell 3
    have a4 := (BP3.out).cell 4
    have a5 := (BP3.out).cell 5
    simp only [List.getElem?_cons_zero, List.getElem?_cons_succ] at a0 a1 a2 a3 a4 a5
    go_wp2_with fail
    refine (HWr.out _ HX3.out).mono ?_
    rintro e W4 ⟨rfl, hz⟩
    have HX4 : Hid (Ex w W4) := HX3.out.trans hz
    have BP4 := Lib.hid (BP3.out.ex hz)
    clear hz
    clear al a0 a1 a2 a3 a4 a5
    have al := (BP4.out).lt
    have a0 := (BP4.out).cell 0
    have a1 := (BP4.out).cell 1
    have a2 := (BP4.out).cell 2
    have a3 := (BP4.out).cell 3
    have a4 := (BP4.out).cell 4
    have a5 := (BP4.out).cell 5
    simp only [List.getElem?_cons_zero, List.getElem?_cons_succ] at a0 a1 a2 a3 a4 a5
    go_wp2_with fail
    refine (HV.out _ HX4.out).mono ?_
    rintro e W5 ⟨rfl, hz⟩
    have HX5 : Hid (Ex w W5) := HX4.out.trans hz
    have BP5 := Lib.hid (BP4.out.ex hz)
    clear hz
    clear al a0 a1 a2 a3 a4 a5
    have al := (BP5.out).lt
    have a0 := (BP5.out).cell 0
    have a1 := (BP5.out).cell 1
    have a2 := (BP5.out).cell 2
    have a3 := (BP5.out).cell 3
    have a4 := (BP5.out).cell 4
    have a5 := (BP5.out).cell 5
    simp only [List.getElem?_cons_zero, List.getElem?_cons_succ] at a0 a1 a2 a3 a4 a5
    go_wp2_with fail
    refine (HRt.out _ HX5.out).mono ?_
    rintro e W6 ⟨rfl, hz⟩
    have HX6 : Hid (Ex w W6) := HX5.out.trans hz
    have BP6 := Lib.hid (BP5.out.ex hz)
    clear hz
    clear al a0 a1 a2 a3 a4 a5
    go_wp2_with fail
    refine (HPe.out _ HX6.out).mono ?_
    rintro e W7 ⟨rfl, hz⟩
    have HX7 : Hid (Ex w W7) := HX6.out.trans hz
    clear hz
    go_wp2_with fail
    refine (HZe.out _).mono ?_
    rintro e W8 ⟨rfl, hz⟩
    have HX8 : Hid (Ex w W8) := ((HX7.out.alloc _).alloc _).trans hz
    clear hz
    go_wp2_with fail
    go_ret
    exact Ret.mk (by first | rfl | simp) HX8.out
set_option maxRecDepth 100000 in
set_option maxHeartbeats 6400000 in
theorem texts_err_y (t : Tr) (Q : Nat → Prop) (w : World) (k n p q : Int) (s S : ByteArray) (A : Option Addr) (m c : Nat) (hE : Envw w) (hn : LnOk t) (hm : NmOk t) (ht : TrC Q w t (c6 k n p q s A m c)) (h1 : S.size ≤ 1000) (pp1 pp2 nn : Nat) (ho : parseO S.data.toList = .err (pp1, pp2) nn) (hv : validB t = true) :
    Calls Tryz.prog 4 #[.agg #[.int .i64 k, .int .i64 n, .int .i64 p, .int .i64 q, .string s, .slice A m c], .string S] w (Ret w (.bool true)) := by
  have HG := Lib.hid (fun w' (hx : Ex w w') => great_c t Q w' k n p q s A m c hn (ht.ex hx))
  unfold GreatR at HG
  have HT := Lib.hid ht
  have HM := Lib.hid hm
  have HEn := Lib.hid hE
  have HA := Lib.hid (fun w' (hx : Ex w w') => awake_c w' (hE.ex hx))
  have HX0 : Hid (Ex w (w.alloc (.cells #[.int .i64 k, .int .i64 n, .int .i64 p, .int .i64 q, .string s, .slice A m c] 24))) := (Ex.refl w).alloc _
  have BP0 : Hid (Blk (w.alloc (.cells #[.int .i64 k, .int .i64 n, .int .i64 p, .int .i64 q, .string s, .slice A m c] 24)) w.heap.size 24 (c6 k n p q s A m c)) := Blk.new w _ _
  clear hE hn hm ht
  have HPe := Lib.hid (fun w' (hx : Ex w w') => parse_c S w' (HEn.out.ex hx).1)
  have HRe := Lib.hid (fun w' => rParse_c S w' (by omega))
  rw [ho] at HPe HRe
  unfold ParseR at HPe HRe
  dsimp only at HPe HRe
  have HSz : Hid (∀ w', Calls Tryz.prog 10 #[.agg #[.int .i64 0, .int .i64 0, .int .i64 0, .int .i64 0, .string ⟨#[]⟩, .slice none 0 0], .agg #[.int .i64 0, .int .i64 0, .int .i64 0, .int .i64 0, .string ⟨#[]⟩, .slice none 0 0]] w' (Ret w' (.bool true))) := fun w' => by
    have h9 := same_c 1 (nd 0 []) (nd 0 []) (fun _ => True) (fun _ => True) w' 0 0 0 0 0 0 0 0 ⟨#[]⟩ ⟨#[]⟩ none none 0 0 0 0 (by rw [nd_size0]; omega) (by decide) (by rw [nd_size0]; omega) (.leaf 0 0 0 0 ⟨#[]⟩ none 0) (.leaf 0 0 0 0 ⟨#[]⟩ none 0)
    rw [same_eq] at h9
    exact h9
  have z1 : decide (1000 < (S.size : Int)) = false := decide_eq_false (by omega)
  have z3 : decide (16384 < (S.size : Int)) = false := decide_eq_false (by omega)
  have e1 : (((nn : Nat) : Int) == ((nn : Nat) : Int)) = true := by simp
  clear h1 ho
  go_enter Tryz.func4, Tryz.ntmps4
  go_wp2_with fail
  refine (HA.out _ HX0.out).mono ?_
  rintro e W1 ⟨rfl, hz⟩
  have HX1 : Hid (Ex w W1) := HX0.out.trans hz
  have BP1 := Lib.hid (BP0.out.ex hz)
  clear hz
  have al := (BP1.out).lt
  have a0 := (BP1.out).cell 0
  have a1 := (BP1.out).cell 1
  have a2 := (BP1.out).cell 2
  have a3 := (BP1.out).cell 3
  have a4 := (BP1.out).cell 4
  have a5 := (BP1.out).cell 5
  simp only [List.getElem?_cons_zero, List.getElem?_cons_succ] at a0 a1 a2 a3 a4 a5
  go_wp2_with fail
  refine (HG.out _ HX1.out).mono ?_
  rintro e W2 ⟨g1, rfl, hg1, -, hz⟩
  have HX2 : Hid (Ex w W2) := HX1.out.trans hz
  have BP2 := Lib.hid (BP1.out.ex hz)
  have Hg1 := Lib.hid hg1
  clear hz hg1
  clear al a0 a1 a2 a3 a4 a5
  have al := (BP2.out).lt
  have a0 := (BP2.out).cell 0
  have a1 := (BP2.out).cell 1
  have a2 := (BP2.out).cell 2
  have a3 := (BP2.out).cell 3
  have a4 := (BP2.out).cell 4
  have a5 := (BP2.out).cell 5
  simp only [List.getElem?_cons_zero, List.getElem?_cons_succ] at a0 a1 a2 a3 a4 a5
  cases g1 with
  | true =>
    go_wp2_with fail
    go_ret
    exact Ret.mk rfl HX2.out
  | false =>
    have hsz := Hg1.out (by simp)
    clear Hg1 HG HA
    have HTx := Lib.hid (fun w' (hx : Ex w w') => text_c t Q w' k n p q s A m c (HEn.out.ex hx) (by omega) HM.out (HT.out.ex hx))
    have HV := Lib.hid (fun w' (hx : Ex w w') => valid_c t Q w' k n p q s A m c (by omega) HM.out (HT.out.ex hx))
    have HWr := Lib.hid (fun w' (hx : Ex w w') => rWritten_c t Q w' k n p q s A m c (by omega) HM.out (HT.out.ex hx))
    rw [← valid_wrt] at HWr
    unfold TextV at HTx
    rw [hv] at HTx HV HWr
    rw [if_pos rfl] at HTx
    have HRt := Lib.hid (fun w' (hx : Ex w w') => rText_c t.size t Q w' k n p q s A m c (Nat.le_refl _) (by omega) (by unfold validB at hv; rw [Bool.and_eq_true] at hv; exact hv.2) (HT.out.ex hx))
    generalize (⟨(wrL t 0).toArray⟩ : ByteArray) = RR at *
    have rr : (RR.toList != RR.toList) = false := by simp
    clear hsz hv
    go_wp2_with fail
    refine (HTx.out _ HX2.out).mono ?_
    rintro e W3 ⟨rfl, hz⟩
    have HX3 : Hid (Ex w W3) := HX2.out.trans hz
    have BP3 := Lib.hid (BP2.out.ex hz)
    clear hz
    clear al a0 a1 a2 a3 a4 a5
    have al := (BP3.out).lt
    have a0 := (BP3.out).cell 0
    have a1 := (BP3.out).cell 1
    have a2 := (BP3.out).cell 2
    have a3 := (BP3.out).cell 3
    have a4 := (BP3.out).cell 4
    have a5 := (BP3.out).cell 5
    simp only [List.getElem?_cons_zero, List.getElem?_cons_succ] at a0 a1 a2 a3 a4 a5
    go_wp2_with fail
    refine (HWr.out _ HX3.out).mono ?_
    rintro e W4 ⟨rfl, hz⟩
    have HX4 : Hid (Ex w W4) := HX3.out.trans hz
    have BP4 := Lib.hid (BP3.out.ex hz)
    clear hz
    clear al a0 a1 a2 a3 a4 a5
    have al := (BP4.out).lt
    have a0 := (BP4.out).cell 0
    have a1 := (BP4.out).cell 1
    have a2 := (BP4.out).cell 2
    have a3 := (BP4.out).cell 3
    have a4 := (BP4.out).cell 4
    have a5 := (BP4.out).cell 5
    simp only [List.getElem?_cons_zero, List.getElem?_cons_succ] at a0 a1 a2 a3 a4 a5
    go_wp2_with fail
    refine (HV.out _ HX4.out).mono ?_
    rintro e W5 ⟨rfl, hz⟩
    have HX5 : Hid (Ex w W5) := HX4.out.trans hz
    have BP5 := Lib.hid (BP4.out.ex hz)
    clear hz
    clear al a0 a1 a2 a3 a4 a5
    have al := (BP5.out).lt
    have a0 := (BP5.out).cell 0
    have a1 := (BP5.out).cell 1
    have a2 := (BP5.out).cell 2
    have a3 := (BP5.out).cell 3
    have a4 := (BP5.out).cell 4
    have a5 := (BP5.out).cell 5
    simp only [List.getElem?_cons_zero, List.getElem?_cons_succ] at a0 a1 a2 a3 a4 a5
    go_wp2_with fail
    refine (HRt.out _ HX5.out).mono ?_
    rintro e W6 ⟨rfl, hz⟩
    have HX6 : Hid (Ex w W6) := HX5.out.trans hz
    have BP6 := Lib.hid (BP5.out.ex hz)
    clear hz
    clear al a0 a1 a2 a3 a4 a5
    go_wp2_with fail
    refine (HPe.out _ HX6.out).mono ?_
    rintro e W7 ⟨rfl, hz⟩
    have HX7 : Hid (Ex w W7) := HX6.out.trans hz
    have H8 : Hid (Blk ((W7.alloc (.cells #[.int .i64 0, .int .i64 0, .int .i64 0, .int .i64 0, .string ⟨#[]⟩, .slice none 0 0] 24)).alloc (.cells #[.int .i64 (pp1 : Nat), .int .i64 (pp2 : Nat)] 39)) W7.heap.size 24 (c6 0 0 0 0 ⟨#[]⟩ none 0 0)) := (Blk.new W7 _ _).alloc _
    have H9 : Hid (Blk ((W7.alloc (.cells #[.int .i64 0, .int .i64 0, .int .i64 0, .int .i64 0, .string ⟨#[]⟩, .slice none 0 0] 24)).alloc (.cells #[.int .i64 (pp1 : Nat), .int .i64 (pp2 : Nat)] 39)) (W7.heap.size + 1) 39 [.int .i64 (pp1 : Nat), .int .i64 (pp2 : Nat)]) := Blk.new' _ (by simp) _ _
    clear hz
    go_wp2_with fail
    generalize W7.heap.size + 1 = nb at *
    refine (HRe.out _).mono ?_
    rintro e W8 ⟨rfl, hz⟩
    have HX8 : Hid (Ex w W8) := ((HX7.out.alloc _).alloc _).trans hz
    have H88 := Lib.hid (H8.out.ex hz)
    have H98 := Lib.hid (H9.out.ex hz)
    clear hz
    have bl := (H88.out).lt
    have b0 := (H88.out).cell 0
    have b1 := (H88.out).cell 1
    have b2 := (H88.out).cell 2
    have b3 := (H88.out).cell 3
    have b4 := (H88.out).cell 4
    have b5 := (H88.out).cell 5
    simp only [List.getElem?_cons_zero, List.getElem?_cons_succ] at b0 b1 b2 b3 b4 b5
    have dl := (H98.out).lt
    have d0 := (H98.out).cell 0
    have d1 := (H98.out).cell 1
    simp only [List.getElem?_cons_zero, List.getElem?_cons_succ] at d0 d1
    go_wp2_with fail
    have H89 := Lib.hid ((H88.out.alloc (.cells #[.int .i64 0, .int .i64 0, .int .i64 0, .int .i64 0, .string ⟨#[]⟩, .slice none 0 0] 24)).alloc (.cells #[.int .i64 (pp1 : Nat), .int .i64 (pp2 : Nat)] 39))
    have H99 := Lib.hid ((H98.out.alloc (.cells #[.int .i64 0, .int .i64 0, .int .i64 0, .int .i64 0, .string ⟨#[]⟩, .slice none 0 0] 24)).alloc (.cells #[.int .i64 (pp1 : Nat), .int .i64 (pp2 : Nat)] 39))
    have H70 : Hid (Blk ((W8.alloc (.cells #[.int .i64 0, .int .i64 0, .int .i64 0, .int .i64 0, .string ⟨#[]⟩, .slice none 0 0] 24)).alloc (.cells #[.int .i64 (pp1 : Nat), .int .i64 (pp2 : Nat)] 39)) (W8.heap.size + 1) 39 [.int .i64 (pp1 : Nat), .int .i64 (pp2 : Nat)]) := Blk.new' _ (by simp) _ _
    generalize W8.heap.size + 1 = nc at *
    refine (HSz.out _).mono ?_
    rintro e W9 ⟨rfl, hz⟩
    have HX9 : Hid (Ex w W9) := ((HX8.out.alloc _).alloc _).trans hz
    have H999 := Lib.hid (H99.out.ex hz)
    have H709 := Lib.hid (H70.out.ex hz)
    clear hz
    clear bl b0 b1 b2 b3 b4 b5
    clear dl d0 d1
    have dl := (H999.out).lt
    have d0 := (H999.out).cell 0
    have d1 := (H999.out).cell 1
    simp only [List.getElem?_cons_zero, List.getElem?_cons_succ] at d0 d1
    have bl := (H709.out).lt
    have b0 := (H709.out).cell 0
    have b1 := (H709.out).cell 1
    simp only [List.getElem?_cons_zero, List.getElem?_cons_succ] at b0 b1
    go_wp2_with fail
    go_ret
    exact Ret.mk (by first | rfl | simp) HX9.out
set_option maxRecDepth 100000 in
set_option maxHeartbeats 6400000 in
theorem texts_tree_y (t : Tr) (Q : Nat → Prop) (w : World) (k n p q : Int) (s S : ByteArray) (A : Option Addr) (m c : Nat) (hE : Envw w) (hn : LnOk t) (hm : NmOk t) (ht : TrC Q w t (c6 k n p q s A m c)) (h1 : S.size ≤ 1000) (T : Tr) (ho : parseO S.data.toList = .tree T) (hT : T.size ≤ 1000000) (hv : validB t = true) :
    Calls Tryz.prog 4 #[.agg #[.int .i64 k, .int .i64 n, .int .i64 p, .int .i64 q, .string s, .slice A m c], .string S] w (Ret w (.bool true)) := by
  have HG := Lib.hid (fun w' (hx : Ex w w') => great_c t Q w' k n p q s A m c hn (ht.ex hx))
  unfold GreatR at HG
  have HT := Lib.hid ht
  have HM := Lib.hid hm
  have HEn := Lib.hid hE
  have HA := Lib.hid (fun w' (hx : Ex w w') => awake_c w' (hE.ex hx))
  have HX0 : Hid (Ex w (w.alloc (.cells #[.int .i64 k, .int .i64 n, .int .i64 p, .int .i64 q, .string s, .slice A m c] 24))) := (Ex.refl w).alloc _
  have BP0 : Hid (Blk (w.alloc (.cells #[.int .i64 k, .int .i64 n, .int .i64 p, .int .i64 q, .string s, .slice A m c] 24)) w.heap.size 24 (c6 k n p q s A m c)) := Blk.new w _ _
  clear hE hn hm ht
  have HPe := Lib.hid (fun w' (hx : Ex w w') => parse_c S w' (HEn.out.ex hx).1)
  have HRe := Lib.hid (fun w' => rParse_c S w' (by omega))
  rw [ho] at HPe HRe
  unfold ParseR at HPe HRe
  dsimp only at HPe HRe
  have z1 : decide (1000 < (S.size : Int)) = false := decide_eq_false (by omega)
  have z3 : decide (16384 < (S.size : Int)) = false := decide_eq_false (by omega)
  have HTs := Lib.hid hT
  clear h1 ho hT
  go_enter Tryz.func4, Tryz.ntmps4
  go_wp2_with fail
  refine (HA.out _ HX0.out).mono ?_
  rintro e W1 ⟨rfl, hz⟩
  have HX1 : Hid (Ex w W1) := HX0.out.trans hz
  have BP1 := Lib.hid (BP0.out.ex hz)
  clear hz
  have al := (BP1.out).lt
  have a0 := (BP1.out).cell 0
  have a1 := (BP1.out).cell 1
  have a2 := (BP1.out).cell 2
  have a3 := (BP1.out).cell 3
  have a4 := (BP1.out).cell 4
  have a5 := (BP1.out).cell 5
  simp only [List.getElem?_cons_zero, List.getElem?_cons_succ] at a0 a1 a2 a3 a4 a5
  go_wp2_with fail
  refine (HG.out _ HX1.out).mono ?_
  rintro e W2 ⟨g1, rfl, hg1, -, hz⟩
  have HX2 : Hid (Ex w W2) := HX1.out.trans hz
  have BP2 := Lib.hid (BP1.out.ex hz)
  have Hg1 := Lib.hid hg1
  clear hz hg1
  clear al a0 a1 a2 a3 a4 a5
  have al := (BP2.out).lt
  have a0 := (BP2.out).cell 0
  have a1 := (BP2.out).cell 1
  have a2 := (BP2.out).cell 2
  have a3 := (BP2.out).cell 3
  have a4 := (BP2.out).cell 4
  have a5 := (BP2.out).cell 5
  simp only [List.getElem?_cons_zero, List.getElem?_cons_succ] at a0 a1 a2 a3 a4 a5
  cases g1 with
  | true =>
    go_wp2_with fail
    go_ret
    exact Ret.mk rfl HX2.out
  | false =>
    have hsz := Hg1.out (by simp)
    clear Hg1 HG HA
    have HTx := Lib.hid (fun w' (hx : Ex w w') => text_c t Q w' k n p q s A m c (HEn.out.ex hx) (by omega) HM.out (HT.out.ex hx))
    have HV := Lib.hid (fun w' (hx : Ex w w') => valid_c t Q w' k n p q s A m c (by omega) HM.out (HT.out.ex hx))
    have HWr := Lib.hid (fun w' (hx : Ex w w') => rWritten_c t Q w' k n p q s A m c (by omega) HM.out (HT.out.ex hx))
    rw [← valid_wrt] at HWr
    unfold TextV at HTx
    rw [hv] at HTx HV HWr
    rw [if_pos rfl] at HTx
    have HRt := Lib.hid (fun w' (hx : Ex w w') => rText_c t.size t Q w' k n p q s A m c (Nat.le_refl _) (by omega) (by unfold validB at hv; rw [Bool.and_eq_true] at hv; exact hv.2) (HT.out.ex hx))
    generalize (⟨(wrL t 0).toArray⟩ : ByteArray) = RR at *
    have rr : (RR.toList != RR.toList) = false := by simp
    clear hsz hv
    go_wp2_with fail
    refine (HTx.out _ HX2.out).mono ?_
    rintro e W3 ⟨rfl, hz⟩
    have HX3 : Hid (Ex w W3) := HX2.out.trans hz
    have BP3 := Lib.hid (BP2.out.ex hz)
    clear hz
    clear al a0 a1 a2 a3 a4 a5
    have al := (BP3.out).lt
    have a0 := (BP3.out).cell 0
    have a1 := (BP3.out).cell 1
    have a2 := (BP3.out).cell 2
    have a3 := (BP3.out).cell 3
    have a4 := (BP3.out).cell 4
    have a5 := (BP3.out).cell 5
    simp only [List.getElem?_cons_zero, List.getElem?_cons_succ] at a0 a1 a2 a3 a4 a5
    go_wp2_with fail
    refine (HWr.out _ HX3.out).mono ?_
    rintro e W4 ⟨rfl, hz⟩
    have HX4 : Hid (Ex w W4) := HX3.out.trans hz
    have BP4 := Lib.hid (BP3.out.ex hz)
    clear hz
    clear al a0 a1 a2 a3 a4 a5
    have al := (BP4.out).lt
    have a0 := (BP4.out).cell 0
    have a1 := (BP4.out).cell 1
    have a2 := (BP4.out).cell 2
    have a3 := (BP4.out).cell 3
    have a4 := (BP4.out).cell 4
    have a5 := (BP4.out).cell 5
    simp only [List.getElem?_cons_zero, List.getElem?_cons_succ] at a0 a1 a2 a3 a4 a5
    go_wp2_with fail
    refine (HV.out _ HX4.out).mono ?_
    rintro e W5 ⟨rfl, hz⟩
    have HX5 : Hid (Ex w W5) := HX4.out.trans hz
    have BP5 := Lib.hid (BP4.out.ex hz)
    clear hz
    clear al a0 a1 a2 a3 a4 a5
    have al := (BP5.out).lt
    have a0 := (BP5.out).cell 0
    have a1 := (BP5.out).cell 1
    have a2 := (BP5.out).cell 2
    have a3 := (BP5.out).cell 3
    have a4 := (BP5.out).cell 4
    have a5 := (BP5.out).cell 5
    simp only [List.getElem?_cons_zero, List.getElem?_cons_succ] at a0 a1 a2 a3 a4 a5
    go_wp2_with fail
    refine (HRt.out _ HX5.out).mono ?_
    rintro e W6 ⟨rfl, hz⟩
    have HX6 : Hid (Ex w W6) := HX5.out.trans hz
    have BP6 := Lib.hid (BP5.out.ex hz)
    clear hz
    clear al a0 a1 a2 a3 a4 a5
    go_wp2_with fail
    refine (HPe.out _ HX6.out).mono ?_
    rintro e W7 ⟨k9, n9, p9, q9, s9, A9, m9, c9, rfl, ht9, hz⟩
    have HX7 : Hid (Ex w W7) := HX6.out.trans hz
    have H8 : Hid (Blk ((W7.alloc (.cells #[.int .i64 k9, .int .i64 n9, .int .i64 p9, .int .i64 q9, .string s9, .slice A9 m9 c9] 24)).alloc (.cells #[.int .i64 0, .int .i64 0] 39)) W7.heap.size 24 (c6 k9 n9 p9 q9 s9 A9 m9 c9)) := (Blk.new W7 _ _).alloc _
    have H9 : Hid (Blk ((W7.alloc (.cells #[.int .i64 k9, .int .i64 n9, .int .i64 p9, .int .i64 q9, .string s9, .slice A9 m9 c9] 24)).alloc (.cells #[.int .i64 0, .int .i64 0] 39)) (W7.heap.size + 1) 39 [.int .i64 0, .int .i64 0]) := Blk.new' _ (by simp) _ _
    have HT9 := Lib.hid ((ht9.ex ((Ex.refl _).alloc (.cells #[.int .i64 k9, .int .i64 n9, .int .i64 p9, .int .i64 q9, .string s9, .slice A9 m9 c9] 24))).ex ((Ex.refl _).alloc (.cells #[.int .i64 0, .int .i64 0] 39)))
    clear hz ht9
    go_wp2_with fail
    generalize W7.heap.size + 1 = nb at *
    refine (HRe.out _).mono ?_
    rintro e W8 ⟨k8, n8, p8, q8, s8, A8, m8, c8, rfl, ht8, hz⟩
    have HX8 : Hid (Ex w W8) := ((HX7.out.alloc _).alloc _).trans hz
    have H88 := Lib.hid (H8.out.ex hz)
    have H98 := Lib.hid (H9.out.ex hz)
    have HT98 := Lib.hid (HT9.out.ex hz)
    have HT8 := Lib.hid ht8
    clear hz ht8
    have bl := (H88.out).lt
    have b0 := (H88.out).cell 0
    have b1 := (H88.out).cell 1
    have b2 := (H88.out).cell 2
    have b3 := (H88.out).cell 3
    have b4 := (H88.out).cell 4
    have b5 := (H88.out).cell 5
    simp only [List.getElem?_cons_zero, List.getElem?_cons_succ] at b0 b1 b2 b3 b4 b5
    have dl := (H98.out).lt
    have d0 := (H98.out).cell 0
    have d1 := (H98.out).cell 1
    simp only [List.getElem?_cons_zero, List.getElem?_cons_succ] at d0 d1
    have HSm : Hid (∀ w', Ex W8 w' → Calls Tryz.prog 10 #[.agg #[.int .i64 k9, .int .i64 n9, .int .i64 p9, .int .i64 q9, .string s9, .slice A9 m9 c9], .agg #[.int .i64 k8, .int .i64 n8, .int .i64 p8, .int .i64 q8, .string s8, .slice A8 m8 c8]] w' (Ret w' (.bool true))) := fun w' hx => by
      have h9 := same_c T.size T T _ _ w' k9 n9 p9 q9 k8 n8 p8 q8 s9 s8 A9 A8 m9 m8 c9 c8 (Nat.le_refl _) HTs.out HTs.out (HT98.out.ex hx) (HT8.out.ex hx)
      rw [same_eq] at h9
      exact h9
    go_wp2_with fail
    have H99 := Lib.hid ((H98.out.alloc (.cells #[.int .i64 k8, .int .i64 n8, .int .i64 p8, .int .i64 q8, .string s8, .slice A8 m8 c8] 24)).alloc (.cells #[.int .i64 0, .int .i64 0] 39))
    have H70 : Hid (Blk ((W8.alloc (.cells #[.int .i64 k8, .int .i64 n8, .int .i64 p8, .int .i64 q8, .string s8, .slice A8 m8 c8] 24)).alloc (.cells #[.int .i64 0, .int .i64 0] 39)) (W8.heap.size + 1) 39 [.int .i64 0, .int .i64 0]) := Blk.new' _ (by simp) _ _
    generalize W8.heap.size + 1 = nc at *
    refine (HSm.out _ (((Ex.refl _).alloc _).alloc _)).mono ?_
    rintro e W9 ⟨rfl, hz⟩
    have HX9 : Hid (Ex w W9) := ((HX8.out.alloc _).alloc _).trans hz
    have H999 := Lib.hid (H99.out.ex hz)
    have H709 := Lib.hid (H70.out.ex hz)
    clear hz
    clear bl b0 b1 b2 b3 b4 b5
    clear dl d0 d1
    have dl := (H999.out).lt
    have d0 := (H999.out).cell 0
    have d1 := (H999.out).cell 1
    simp only [List.getElem?_cons_zero, List.getElem?_cons_succ] at d0 d1
    have bl := (H709.out).lt
    have b0 := (H709.out).cell 0
    have b1 := (H709.out).cell 1
    simp only [List.getElem?_cons_zero, List.getElem?_cons_succ] at b0 b1
    go_wp2_with fail
    go_ret
    exact Ret.mk (by first | rfl | simp) HX9.out
set_option maxRecDepth 100000 in
set_option maxHeartbeats 6400000 in
theorem texts_long_n (t : Tr) (Q : Nat → Prop) (w : World) (k n p q : Int) (s S : ByteArray) (A : Option Addr) (m c : Nat) (hE : Envw w) (hn : LnOk t) (hm : NmOk t) (ht : TrC Q w t (c6 k n p q s A m c)) (h1 : 16384 < S.size) (hv : validB t = false) :
    Calls Tryz.prog 4 #[.agg #[.int .i64 k, .int .i64 n, .int .i64 p, .int .i64 q, .string s, .slice A m c], .string S] w (Ret w (.bool true)) := by
  have HG := Lib.hid (fun w' (hx : Ex w w') => great_c t Q w' k n p q s A m c hn (ht.ex hx))
  unfold GreatR at HG
  have HT := Lib.hid ht
  have HM := Lib.hid hm
  have HEn := Lib.hid hE
  have HA := Lib.hid (fun w' (hx : Ex w w') => awake_c w' (hE.ex hx))
  have HX0 : Hid (Ex w (w.alloc (.cells #[.int .i64 k, .int .i64 n, .int .i64 p, .int .i64 q, .string s, .slice A m c] 24))) := (Ex.refl w).alloc _
  have BP0 : Hid (Blk (w.alloc (.cells #[.int .i64 k, .int .i64 n, .int .i64 p, .int .i64 q, .string s, .slice A m c] 24)) w.heap.size 24 (c6 k n p q s A m c)) := Blk.new w _ _
  clear hE hn hm ht
  have HPe : Hid (∀ w', Ex w w' → Calls Tryz.prog 23 #[.string S] w' (ParseR w' (.err (0, 0) 5))) := fun w' hx => by
    have h9 := parse_c S w' (HEn.out.ex hx).1
    unfold parseO at h9
    rw [if_pos (by rw [← size_data]; exact h1)] at h9
    exact h9
  unfold ParseR at HPe
  dsimp only at HPe
  have HZe : Hid (∀ w', Calls Tryz.prog 24 #[.agg #[.int .i64 0, .int .i64 0, .int .i64 0, .int .i64 0, .string ⟨#[]⟩, .slice none 0 0]] w' (Ret w' (.bool true))) := fun w' => by
    have h9 := zero_c (nd 0 []) (fun _ => True) w' 0 0 0 0 ⟨#[]⟩ none 0 0 (by rw [nd_size0]; omega) (.leaf 0 0 0 0 ⟨#[]⟩ none 0)
    rw [same_eq] at h9
    exact h9
  have z1 : decide (1000 < (S.size : Int)) = true := decide_eq_true (by omega)
  have z2 : decide ((S.size : Int) ≤ 16384) = false := decide_eq_false (by omega)
  have z3 : decide (16384 < (S.size : Int)) = true := decide_eq_true (by omega)
  clear h1
  go_enter Tryz.func4, Tryz.ntmps4
  go_wp2_with fail
  refine (HA.out _ HX0.out).mono ?_
  rintro e W1 ⟨rfl, hz⟩
  have HX1 : Hid (Ex w W1) := HX0.out.trans hz
  have BP1 := Lib.hid (BP0.out.ex hz)
  clear hz
  have al := (BP1.out).lt
  have a0 := (BP1.out).cell 0
  have a1 := (BP1.out).cell 1
  have a2 := (BP1.out).cell 2
  have a3 := (BP1.out).cell 3
  have a4 := (BP1.out).cell 4
  have a5 := (BP1.out).cell 5
  simp only [List.getElem?_cons_zero, List.getElem?_cons_succ] at a0 a1 a2 a3 a4 a5
  go_wp2_with fail
  refine (HG.out _ HX1.out).mono ?_
  rintro e W2 ⟨g1, rfl, hg1, -, hz⟩
  have HX2 : Hid (Ex w W2) := HX1.out.trans hz
  have BP2 := Lib.hid (BP1.out.ex hz)
  have Hg1 := Lib.hid hg1
  clear hz hg1
  clear al a0 a1 a2 a3 a4 a5
  have al := (BP2.out).lt
  have a0 := (BP2.out).cell 0
  have a1 := (BP2.out).cell 1
  have a2 := (BP2.out).cell 2
  have a3 := (BP2.out).cell 3
  have a4 := (BP2.out).cell 4
  have a5 := (BP2.out).cell 5
  simp only [List.getElem?_cons_zero, List.getElem?_cons_succ] at a0 a1 a2 a3 a4 a5
  cases g1 with
  | true =>
    go_wp2_with fail
    go_ret
    exact Ret.mk rfl HX2.out
  | false =>
    have hsz := Hg1.out (by simp)
    clear Hg1 HG HA
    have HTx := Lib.hid (fun w' (hx : Ex w w') => text_c t Q w' k n p q s A m c (HEn.out.ex hx) (by omega) HM.out (HT.out.ex hx))
    have HV := Lib.hid (fun w' (hx : Ex w w') => valid_c t Q w' k n p q s A m c (by omega) HM.out (HT.out.ex hx))
    have HWr := Lib.hid (fun w' (hx : Ex w w') => rWritten_c t Q w' k n p q s A m c (by omega) HM.out (HT.out.ex hx))
    rw [← valid_wrt] at HWr
    unfold TextV at HTx
    rw [hv] at HTx HV HWr
    rw [if_neg (by simp)] at HTx
    clear hsz hv
    go_wp2_with fail
    refine (HTx.out _ HX2.out).mono ?_
    rintro e W3 ⟨rfl, hz⟩
    have HX3 : Hid (Ex w W3) := HX2.out.trans hz
    have BP3 := Lib.hid (BP2.out.ex hz)
    clear hz
    clear al a0 a1 a2 a3 a4 a5
    have al := (BP3.out).lt
    have a0 := (BP3.out).cell 0
    have a1 := (BP3.out).cell 1
    have a2 := (BP3.out).cell 2
    have a3 := (BP3.out).cell 3
    have a4 := (BP3.out).cell 4
    have a5 := (BP3.out).cell 5
    simp only [List.getElem?_cons_zero, List.getElem?_cons_succ] at a0 a1 a2 a3 a4 a5
    go_wp2_with fail
    refine (HWr.out _ HX3.out).mono ?_
    rintro e W4 ⟨rfl, hz⟩
    have HX4 : Hid (Ex w W4) := HX3.out.trans hz
    have BP4 := Lib.hid (BP3.out.ex hz)
    clear hz
    clear al a0 a1 a2 a3 a4 a5
    have al := (BP4.out).lt
    have a0 := (BP4.out).cell 0
    have a1 := (BP4.out).cell 1
    have a2 := (BP4.out).cell 2
    have a3 := (BP4.out).cell 3
    have a4 := (BP4.out).cell 4
    have a5 := (BP4.out).cell 5
    simp only [List.getElem?_cons_zero, List.getElem?_cons_succ] at a0 a1 a2 a3 a4 a5
    go_wp2_with fail
    refine (HV.out _ HX4.out).mono ?_
    rintro e W5 ⟨rfl, hz⟩
    have HX5 : Hid (Ex w W5) := HX4.out.trans hz
    have BP5 := Lib.hid (BP4.out.ex hz)
    clear hz
    clear al a0 a1 a2 a3 a4 a5
    have al := (BP5.out).lt
    have a0 := (BP5.out).cell 0
    have a1 := (BP5.out).cell 1
    have a2 := (BP5.out).cell 2
    have a3 := (BP5.out).cell 3
    have a4 := (BP5.out).cell 4
    have a5 := (BP5.out).cell 5
    simp only [List.getElem?_cons_zero, List.getElem?_cons_succ] at a0 a1 a2 a3 a4 a5
    go_wp2_with fail
    refine (HPe.out _ HX5.out).mono ?_
    rintro e W7 ⟨rfl, hz⟩
    have HX7 : Hid (Ex w W7) := HX5.out.trans hz
    clear hz
    clear al a0 a1 a2 a3 a4 a5
    go_wp2_with fail
    refine (HZe.out _).mono ?_
    rintro e W8 ⟨rfl, hz⟩
    have HX8 : Hid (Ex w W8) := ((HX7.out.alloc _).alloc _).trans hz
    clear hz
    go_wp2_with fail
    go_ret
    exact Ret.mk (by first | rfl | simp) HX8.out
set_option maxRecDepth 100000 in
set_option maxHeartbeats 6400000 in
theorem texts_err_n (t : Tr) (Q : Nat → Prop) (w : World) (k n p q : Int) (s S : ByteArray) (A : Option Addr) (m c : Nat) (hE : Envw w) (hn : LnOk t) (hm : NmOk t) (ht : TrC Q w t (c6 k n p q s A m c)) (h1 : S.size ≤ 1000) (pp1 pp2 nn : Nat) (ho : parseO S.data.toList = .err (pp1, pp2) nn) (hv : validB t = false) :
    Calls Tryz.prog 4 #[.agg #[.int .i64 k, .int .i64 n, .int .i64 p, .int .i64 q, .string s, .slice A m c], .string S] w (Ret w (.bool true)) := by
  have HG := Lib.hid (fun w' (hx : Ex w w') => great_c t Q w' k n p q s A m c hn (ht.ex hx))
  unfold GreatR at HG
  have HT := Lib.hid ht
  have HM := Lib.hid hm
  have HEn := Lib.hid hE
  have HA := Lib.hid (fun w' (hx : Ex w w') => awake_c w' (hE.ex hx))
  have HX0 : Hid (Ex w (w.alloc (.cells #[.int .i64 k, .int .i64 n, .int .i64 p, .int .i64 q, .string s, .slice A m c] 24))) := (Ex.refl w).alloc _
  have BP0 : Hid (Blk (w.alloc (.cells #[.int .i64 k, .int .i64 n, .int .i64 p, .int .i64 q, .string s, .slice A m c] 24)) w.heap.size 24 (c6 k n p q s A m c)) := Blk.new w _ _
  clear hE hn hm ht
  have HPe := Lib.hid (fun w' (hx : Ex w w') => parse_c S w' (HEn.out.ex hx).1)
  have HRe := Lib.hid (fun w' => rParse_c S w' (by omega))
  rw [ho] at HPe HRe
  unfold ParseR at HPe HRe
  dsimp only at HPe HRe
  have HSz : Hid (∀ w', Calls Tryz.prog 10 #[.agg #[.int .i64 0, .int .i64 0, .int .i64 0, .int .i64 0, .string ⟨#[]⟩, .slice none 0 0], .agg #[.int .i64 0, .int .i64 0, .int .i64 0, .int .i64 0, .string ⟨#[]⟩, .slice none 0 0]] w' (Ret w' (.bool true))) := fun w' => by
    have h9 := same_c 1 (nd 0 []) (nd 0 []) (fun _ => True) (fun _ => True) w' 0 0 0 0 0 0 0 0 ⟨#[]⟩ ⟨#[]⟩ none none 0 0 0 0 (by rw [nd_size0]; omega) (by decide) (by rw [nd_size0]; omega) (.leaf 0 0 0 0 ⟨#[]⟩ none 0) (.leaf 0 0 0 0 ⟨#[]⟩ none 0)
    rw [same_eq] at h9
    exact h9
  have z1 : decide (1000 < (S.size : Int)) = false := decide_eq_false (by omega)
  have z3 : decide (16384 < (S.size : Int)) = false := decide_eq_false (by omega)
  have e1 : (((nn : Nat) : Int) == ((nn : Nat) : Int)) = true := by simp
  clear h1 ho
  go_enter Tryz.func4, Tryz.ntmps4
  go_wp2_with fail
  refine (HA.out _ HX0.out).mono ?_
  rintro e W1 ⟨rfl, hz⟩
  have HX1 : Hid (Ex w W1) := HX0.out.trans hz
  have BP1 := Lib.hid (BP0.out.ex hz)
  clear hz
  have al := (BP1.out).lt
  have a0 := (BP1.out).cell 0
  have a1 := (BP1.out).cell 1
  have a2 := (BP1.out).cell 2
  have a3 := (BP1.out).cell 3
  have a4 := (BP1.out).cell 4
  have a5 := (BP1.out).cell 5
  simp only [List.getElem?_cons_zero, List.getElem?_cons_succ] at a0 a1 a2 a3 a4 a5
  go_wp2_with fail
  refine (HG.out _ HX1.out).mono ?_
  rintro e W2 ⟨g1, rfl, hg1, -, hz⟩
  have HX2 : Hid (Ex w W2) := HX1.out.trans hz
  have BP2 := Lib.hid (BP1.out.ex hz)
  have Hg1 := Lib.hid hg1
  clear hz hg1
  clear al a0 a1 a2 a3 a4 a5
  have al := (BP2.out).lt
  have a0 := (BP2.out).cell 0
  have a1 := (BP2.out).cell 1
  have a2 := (BP2.out).cell 2
  have a3 := (BP2.out).cell 3
  have a4 := (BP2.out).cell 4
  have a5 := (BP2.out).cell 5
  simp only [List.getElem?_cons_zero, List.getElem?_cons_succ] at a0 a1 a2 a3 a4 a5
  cases g1 with
  | true =>
    go_wp2_with fail
    go_ret
    exact Ret.mk rfl HX2.out
  | false =>
    have hsz := Hg1.out (by simp)
    clear Hg1 HG HA
    have HTx := Lib.hid (fun w' (hx : Ex w w') => text_c t Q w' k n p q s A m c (HEn.out.ex hx) (by omega) HM.out (HT.out.ex hx))
    have HV := Lib.hid (fun w' (hx : Ex w w') => valid_c t Q w' k n p q s A m c (by omega) HM.out (HT.out.ex hx))
    have HWr := Lib.hid (fun w' (hx : Ex w w') => rWritten_c t Q w' k n p q s A m c (by omega) HM.out (HT.out.ex hx))
    rw [← valid_wrt] at HWr
    unfold TextV at HTx
    rw [hv] at HTx HV HWr
    rw [if_neg (by simp)] at HTx
    clear hsz hv
    go_wp2_with fail
    refine (HTx.out _ HX2.out).mono ?_
    rintro e W3 ⟨rfl, hz⟩
    have HX3 : Hid (Ex w W3) := HX2.out.trans hz
    have BP3 := Lib.hid (BP2.out.ex hz)
    clear hz
    clear al a0 a1 a2 a3 a4 a5
    have al := (BP3.out).lt
    have a0 := (BP3.out).cell 0
    have a1 := (BP3.out).cell 1
    have a2 := (BP3.out).cell 2
    have a3 := (BP3.out).cell 3
    have a4 := (BP3.out).cell 4
    have a5 := (BP3.out).cell 5
    simp only [List.getElem?_cons_zero, List.getElem?_cons_succ] at a0 a1 a2 a3 a4 a5
    go_wp2_with fail
    refine (HWr.out _ HX3.out).mono ?_
    rintro e W4 ⟨rfl, hz⟩
    have HX4 : Hid (Ex w W4) := HX3.out.trans hz
    have BP4 := Lib.hid (BP3.out.ex hz)
    clear hz
    clear al a0 a1 a2 a3 a4 a5
    have al := (BP4.out).lt
    have a0 := (BP4.out).cell 0
    have a1 := (BP4.out).cell 1
    have a2 := (BP4.out).cell 2
    have a3 := (BP4.out).cell 3
    have a4 := (BP4.out).cell 4
    have a5 := (BP4.out).cell 5
    simp only [List.getElem?_cons_zero, List.getElem?_cons_succ] at a0 a1 a2 a3 a4 a5
    go_wp2_with fail
    refine (HV.out _ HX4.out).mono ?_
    rintro e W5 ⟨rfl, hz⟩
    have HX5 : Hid (Ex w W5) := HX4.out.trans hz
    have BP5 := Lib.hid (BP4.out.ex hz)
    clear hz
    clear al a0 a1 a2 a3 a4 a5
    have al := (BP5.out).lt
    have a0 := (BP5.out).cell 0
    have a1 := (BP5.out).cell 1
    have a2 := (BP5.out).cell 2
    have a3 := (BP5.out).cell 3
    have a4 := (BP5.out).cell 4
    have a5 := (BP5.out).cell 5
    simp only [List.getElem?_cons_zero, List.getElem?_cons_succ] at a0 a1 a2 a3 a4 a5
    go_wp2_with fail
    refine (HPe.out _ HX5.out).mono ?_
    rintro e W7 ⟨rfl, hz⟩
    have HX7 : Hid (Ex w W7) := HX5.out.trans hz
    have H8 : Hid (Blk ((W7.alloc (.cells #[.int .i64 0, .int .i64 0, .int .i64 0, .int .i64 0, .string ⟨#[]⟩, .slice none 0 0] 24)).alloc (.cells #[.int .i64 (pp1 : Nat), .int .i64 (pp2 : Nat)] 39)) W7.heap.size 24 (c6 0 0 0 0 ⟨#[]⟩ none 0 0)) := (Blk.new W7 _ _).alloc _
    have H9 : Hid (Blk ((W7.alloc (.cells #[.int .i64 0, .int .i64 0, .int .i64 0, .int .i64 0, .string ⟨#[]⟩, .slice none 0 0] 24)).alloc (.cells #[.int .i64 (pp1 : Nat), .int .i64 (pp2 : Nat)] 39)) (W7.heap.size + 1) 39 [.int .i64 (pp1 : Nat), .int .i64 (pp2 : Nat)]) := Blk.new' _ (by simp) _ _
    clear hz
    clear al a0 a1 a2 a3 a4 a5
    go_wp2_with fail
    generalize W7.heap.size + 1 = nb at *
    refine (HRe.out _).mono ?_
    rintro e W8 ⟨rfl, hz⟩
    have HX8 : Hid (Ex w W8) := ((HX7.out.alloc _).alloc _).trans hz
    have H88 := Lib.hid (H8.out.ex hz)
    have H98 := Lib.hid (H9.out.ex hz)
    clear hz
    have bl := (H88.out).lt
    have b0 := (H88.out).cell 0
    have b1 := (H88.out).cell 1
    have b2 := (H88.out).cell 2
    have b3 := (H88.out).cell 3
    have b4 := (H88.out).cell 4
    have b5 := (H88.out).cell 5
    simp only [List.getElem?_cons_zero, List.getElem?_cons_succ] at b0 b1 b2 b3 b4 b5
    have dl := (H98.out).lt
    have d0 := (H98.out).cell 0
    have d1 := (H98.out).cell 1
    simp only [List.getElem?_cons_zero, List.getElem?_cons_succ] at d0 d1
    go_wp2_with fail
    have H89 := Lib.hid ((H88.out.alloc (.cells #[.int .i64 0, .int .i64 0, .int .i64 0, .int .i64 0, .string ⟨#[]⟩, .slice none 0 0] 24)).alloc (.cells #[.int .i64 (pp1 : Nat), .int .i64 (pp2 : Nat)] 39))
    have H99 := Lib.hid ((H98.out.alloc (.cells #[.int .i64 0, .int .i64 0, .int .i64 0, .int .i64 0, .string ⟨#[]⟩, .slice none 0 0] 24)).alloc (.cells #[.int .i64 (pp1 : Nat), .int .i64 (pp2 : Nat)] 39))
    have H70 : Hid (Blk ((W8.alloc (.cells #[.int .i64 0, .int .i64 0, .int .i64 0, .int .i64 0, .string ⟨#[]⟩, .slice none 0 0] 24)).alloc (.cells #[.int .i64 (pp1 : Nat), .int .i64 (pp2 : Nat)] 39)) (W8.heap.size + 1) 39 [.int .i64 (pp1 : Nat), .int .i64 (pp2 : Nat)]) := Blk.new' _ (by simp) _ _
    generalize W8.heap.size + 1 = nc at *
    refine (HSz.out _).mono ?_
    rintro e W9 ⟨rfl, hz⟩
    have HX9 : Hid (Ex w W9) := ((HX8.out.alloc _).alloc _).trans hz
    have H999 := Lib.hid (H99.out.ex hz)
    have H709 := Lib.hid (H70.out.ex hz)
    clear hz
    clear bl b0 b1 b2 b3 b4 b5
    clear dl d0 d1
    have dl := (H999.out).lt
    have d0 := (H999.out).cell 0
    have d1 := (H999.out).cell 1
    simp only [List.getElem?_cons_zero, List.getElem?_cons_succ] at d0 d1
    have bl := (H709.out).lt
    have b0 := (H709.out).cell 0
    have b1 := (H709.out).cell 1
    simp only [List.getElem?_cons_zero, List.getElem?_cons_succ] at b0 b1
    go_wp2_with fail
    go_ret
    exact Ret.mk (by first | rfl | simp) HX9.out
set_option maxRecDepth 100000 in
set_option maxHeartbeats 6400000 in
theorem texts_tree_n (t : Tr) (Q : Nat → Prop) (w : World) (k n p q : Int) (s S : ByteArray) (A : Option Addr) (m c : Nat) (hE : Envw w) (hn : LnOk t) (hm : NmOk t) (ht : TrC Q w t (c6 k n p q s A m c)) (h1 : S.size ≤ 1000) (T : Tr) (ho : parseO S.data.toList = .tree T) (hT : T.size ≤ 1000000) (hv : validB t = false) :
    Calls Tryz.prog 4 #[.agg #[.int .i64 k, .int .i64 n, .int .i64 p, .int .i64 q, .string s, .slice A m c], .string S] w (Ret w (.bool true)) := by
  have HG := Lib.hid (fun w' (hx : Ex w w') => great_c t Q w' k n p q s A m c hn (ht.ex hx))
  unfold GreatR at HG
  have HT := Lib.hid ht
  have HM := Lib.hid hm
  have HEn := Lib.hid hE
  have HA := Lib.hid (fun w' (hx : Ex w w') => awake_c w' (hE.ex hx))
  have HX0 : Hid (Ex w (w.alloc (.cells #[.int .i64 k, .int .i64 n, .int .i64 p, .int .i64 q, .string s, .slice A m c] 24))) := (Ex.refl w).alloc _
  have BP0 : Hid (Blk (w.alloc (.cells #[.int .i64 k, .int .i64 n, .int .i64 p, .int .i64 q, .string s, .slice A m c] 24)) w.heap.size 24 (c6 k n p q s A m c)) := Blk.new w _ _
  clear hE hn hm ht
  have HPe := Lib.hid (fun w' (hx : Ex w w') => parse_c S w' (HEn.out.ex hx).1)
  have HRe := Lib.hid (fun w' => rParse_c S w' (by omega))
  rw [ho] at HPe HRe
  unfold ParseR at HPe HRe
  dsimp only at HPe HRe
  have z1 : decide (1000 < (S.size : Int)) = false := decide_eq_false (by omega)
  have z3 : decide (16384 < (S.size : Int)) = false := decide_eq_false (by omega)
  have HTs := Lib.hid hT
  clear h1 ho hT
  go_enter Tryz.func4, Tryz.ntmps4
  go_wp2_with fail
  refine (HA.out _ HX0.out).mono ?_
  rintro e W1 ⟨rfl, hz⟩
  have HX1 : Hid (Ex w W1) := HX0.out.trans hz
  have BP1 := Lib.hid (BP0.out.ex hz)
  clear hz
  have al := (BP1.out).lt
  have a0 := (BP1.out).cell 0
  have a1 := (BP1.out).cell 1
  have a2 := (BP1.out).cell 2
  have a3 := (BP1.out).cell 3
  have a4 := (BP1.out).cell 4
  have a5 := (BP1.out).cell 5
  simp only [List.getElem?_cons_zero, List.getElem?_cons_succ] at a0 a1 a2 a3 a4 a5
  go_wp2_with fail
  refine (HG.out _ HX1.out).mono ?_
  rintro e W2 ⟨g1, rfl, hg1, -, hz⟩
  have HX2 : Hid (Ex w W2) := HX1.out.trans hz
  have BP2 := Lib.hid (BP1.out.ex hz)
  have Hg1 := Lib.hid hg1
  clear hz hg1
  clear al a0 a1 a2 a3 a4 a5
  have al := (BP2.out).lt
  have a0 := (BP2.out).cell 0
  have a1 := (BP2.out).cell 1
  have a2 := (BP2.out).cell 2
  have a3 := (BP2.out).cell 3
  have a4 := (BP2.out).cell 4
  have a5 := (BP2.out).cell 5
  simp only [List.getElem?_cons_zero, List.getElem?_cons_succ] at a0 a1 a2 a3 a4 a5
  cases g1 with
  | true =>
    go_wp2_with fail
    go_ret
    exact Ret.mk rfl HX2.out
  | false =>
    have hsz := Hg1.out (by simp)
    clear Hg1 HG HA
    have HTx := Lib.hid (fun w' (hx : Ex w w') => text_c t Q w' k n p q s A m c (HEn.out.ex hx) (by omega) HM.out (HT.out.ex hx))
    have HV := Lib.hid (fun w' (hx : Ex w w') => valid_c t Q w' k n p q s A m c (by omega) HM.out (HT.out.ex hx))
    have HWr := Lib.hid (fun w' (hx : Ex w w') => rWritten_c t Q w' k n p q s A m c (by omega) HM.out (HT.out.ex hx))
    rw [← valid_wrt] at HWr
    unfold TextV at HTx
    rw [hv] at HTx HV HWr
    rw [if_neg (by simp)] at HTx
    clear hsz hv
    go_wp2_with fail
    refine (HTx.out _ HX2.out).mono ?_
    rintro e W3 ⟨rfl, hz⟩
    have HX3 : Hid (Ex w W3) := HX2.out.trans hz
    have BP3 := Lib.hid (BP2.out.ex hz)
    clear hz
    clear al a0 a1 a2 a3 a4 a5
    have al := (BP3.out).lt
    have a0 := (BP3.out).cell 0
    have a1 := (BP3.out).cell 1
    have a2 := (BP3.out).cell 2
    have a3 := (BP3.out).cell 3
    have a4 := (BP3.out).cell 4
    have a5 := (BP3.out).cell 5
    simp only [List.getElem?_cons_zero, List.getElem?_cons_succ] at a0 a1 a2 a3 a4 a5
    go_wp2_with fail
    refine (HWr.out _ HX3.out).mono ?_
    rintro e W4 ⟨rfl, hz⟩
    have HX4 : Hid (Ex w W4) := HX3.out.trans hz
    have BP4 := Lib.hid (BP3.out.ex hz)
    clear hz
    clear al a0 a1 a2 a3 a4 a5
    have al := (BP4.out).lt
    have a0 := (BP4.out).cell 0
    have a1 := (BP4.out).cell 1
    have a2 := (BP4.out).cell 2
    have a3 := (BP4.out).cell 3
    have a4 := (BP4.out).cell 4
    have a5 := (BP4.out).cell 5
    simp only [List.getElem?_cons_zero, List.getElem?_cons_succ] at a0 a1 a2 a3 a4 a5
    go_wp2_with fail
    refine (HV.out _ HX4.out).mono ?_
    rintro e W5 ⟨rfl, hz⟩
    have HX5 : Hid (Ex w W5) := HX4.out.trans hz
    have BP5 := Lib.hid (BP4.out.ex hz)
    clear hz
    clear al a0 a1 a2 a3 a4 a5
    have al := (BP5.out).lt
    have a0 := (BP5.out).cell 0
    have a1 := (BP5.out).cell 1
    have a2 := (BP5.out).cell 2
    have a3 := (BP5.out).cell 3
    have a4 := (BP5.out).cell 4
    have a5 := (BP5.out).cell 5
    simp only [List.getElem?_cons_zero, List.getElem?_cons_succ] at a0 a1 a2 a3 a4 a5
    go_wp2_with fail
    refine (HPe.out _ HX5.out).mono ?_
    rintro e W7 ⟨k9, n9, p9, q9, s9, A9, m9, c9, rfl, ht9, hz⟩
    have HX7 : Hid (Ex w W7) := HX5.out.trans hz
    have H8 : Hid (Blk ((W7.alloc (.cells #[.int .i64 k9, .int .i64 n9, .int .i64 p9, .int .i64 q9, .string s9, .slice A9 m9 c9] 24)).alloc (.cells #[.int .i64 0, .int .i64 0] 39)) W7.heap.size 24 (c6 k9 n9 p9 q9 s9 A9 m9 c9)) := (Blk.new W7 _ _).alloc _
    have H9 : Hid (Blk ((W7.alloc (.cells #[.int .i64 k9, .int .i64 n9, .int .i64 p9, .int .i64 q9, .string s9, .slice A9 m9 c9] 24)).alloc (.cells #[.int .i64 0, .int .i64 0] 39)) (W7.heap.size + 1) 39 [.int .i64 0, .int .i64 0]) := Blk.new' _ (by simp) _ _
    have HT9 := Lib.hid ((ht9.ex ((Ex.refl _).alloc (.cells #[.int .i64 k9, .int .i64 n9, .int .i64 p9, .int .i64 q9, .string s9, .slice A9 m9 c9] 24))).ex ((Ex.refl _).alloc (.cells #[.int .i64 0, .int .i64 0] 39)))
    clear hz ht9
    clear al a0 a1 a2 a3 a4 a5
    go_wp2_with fail
    generalize W7.heap.size + 1 = nb at *
    refine (HRe.out _).mono ?_
    rintro e W8 ⟨k8, n8, p8, q8, s8, A8, m8, c8, rfl, ht8, hz⟩
    have HX8 : Hid (Ex w W8) := ((HX7.out.alloc _).alloc _).trans hz
    have H88 := Lib.hid (H8.out.ex hz)
    have H98 := Lib.hid (H9.out.ex hz)
    have HT98 := Lib.hid (HT9.out.ex hz)
    have HT8 := Lib.hid ht8
    clear hz ht8
    have bl := (H88.out).lt
    have b0 := (H88.out).cell 0
    have b1 := (H88.out).cell 1
    have b2 := (H88.out).cell 2
    have b3 := (H88.out).cell 3
    have b4 := (H88.out).cell 4
    have b5 := (H88.out).cell 5
    simp only [List.getElem?_cons_zero, List.getElem?_cons_succ] at b0 b1 b2 b3 b4 b5
    have dl := (H98.out).lt
    have d0 := (H98.out).cell 0
    have d1 := (H98.out).cell 1
    simp only [List.getElem?_cons_zero, List.getElem?_cons_succ] at d0 d1
    have HSm : Hid (∀ w', Ex W8 w' → Calls Tryz.prog 10 #[.agg #[.int .i64 k9, .int .i64 n9, .int .i64 p9, .int .i64 q9, .string s9, .slice A9 m9 c9], .agg #[.int .i64 k8, .int .i64 n8, .int .i64 p8, .int .i64 q8, .string s8, .slice A8 m8 c8]] w' (Ret w' (.bool true))) := fun w' hx => by
      have h9 := same_c T.size T T _ _ w' k9 n9 p9 q9 k8 n8 p8 q8 s9 s8 A9 A8 m9 m8 c9 c8 (Nat.le_refl _) HTs.out HTs.out (HT98.out.ex hx) (HT8.out.ex hx)
      rw [same_eq] at h9
      exact h9
    go_wp2_with fail
    have H99 := Lib.hid ((H98.out.alloc (.cells #[.int .i64 k8, .int .i64 n8, .int .i64 p8, .int .i64 q8, .string s8, .slice A8 m8 c8] 24)).alloc (.cells #[.int .i64 0, .int .i64 0] 39))
    have H70 : Hid (Blk ((W8.alloc (.cells #[.int .i64 k8, .int .i64 n8, .int .i64 p8, .int .i64 q8, .string s8, .slice A8 m8 c8] 24)).alloc (.cells #[.int .i64 0, .int .i64 0] 39)) (W8.heap.size + 1) 39 [.int .i64 0, .int .i64 0]) := Blk.new' _ (by simp) _ _
    generalize W8.heap.size + 1 = nc at *
    refine (HSm.out _ (((Ex.refl _).alloc _).alloc _)).mono ?_
    rintro e W9 ⟨rfl, hz⟩
    have HX9 : Hid (Ex w W9) := ((HX8.out.alloc _).alloc _).trans hz
    have H999 := Lib.hid (H99.out.ex hz)
    have H709 := Lib.hid (H70.out.ex hz)
    clear hz
    clear bl b0 b1 b2 b3 b4 b5
    clear dl d0 d1
    have dl := (H999.out).lt
    have d0 := (H999.out).cell 0
    have d1 := (H999.out).cell 1
    simp only [List.getElem?_cons_zero, List.getElem?_cons_succ] at d0 d1
    have bl := (H709.out).lt
    have b0 := (H709.out).cell 0
    have b1 := (H709.out).cell 1
    simp only [List.getElem?_cons_zero, List.getElem?_cons_succ] at b0 b1
    go_wp2_with fail
    go_ret
    exact Ret.mk (by first | rfl | simp) HX9.out
theorem texts_law (t : Tr) (Q : Nat → Prop) (w : World) (k n p q : Int) (s S : ByteArray) (A : Option Addr) (m c : Nat) (hE : Envw w) (hn : LnOk t) (hm : NmOk t) (ht : TrC Q w t (c6 k n p q s A m c)) :
    Calls Tryz.prog 4 #[.agg #[.int .i64 k, .int .i64 n, .int .i64 p, .int .i64 q, .string s, .slice A m c], .string S] w (Ret w (.bool true)) := by
  by_cases h1 : S.size ≤ 1000
  · cases ho : parseO S.data.toList with
    | err pp nn =>
      obtain ⟨pp1, pp2⟩ := pp
      cases hv : validB t with
      | true => exact texts_err_y t Q w k n p q s S A m c hE hn hm ht h1 pp1 pp2 nn ho hv
      | false => exact texts_err_n t Q w k n p q s S A m c hE hn hm ht h1 pp1 pp2 nn ho hv
    | tree T =>
      have hT : T.size ≤ 1000000 := by
        obtain ⟨ks, -, -, h⟩ := parseO_tree ho
        have := small_size h
        omega
      cases hv : validB t with
      | true => exact texts_tree_y t Q w k n p q s S A m c hE hn hm ht h1 T ho hT hv
      | false => exact texts_tree_n t Q w k n p q s S A m c hE hn hm ht h1 T ho hT hv
  · by_cases h2 : S.size ≤ 16384
    · exact texts_mid t Q w k n p q s S A m c hE hn hm ht (by omega) h2
    · cases hv : validB t with
      | true => exact texts_long_y t Q w k n p q s S A m c hE hn hm ht (by omega) hv
      | false => exact texts_long_n t Q w k n p q s S A m c hE hn hm ht (by omega) hv
end Go.Proofs.YthjalkonlcjhnaaGreatDoor
