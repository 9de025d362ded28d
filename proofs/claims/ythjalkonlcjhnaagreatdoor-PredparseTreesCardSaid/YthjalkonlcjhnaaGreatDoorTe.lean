/-
  The reference's form of a tree, walked.
  Conditions: as each theorem says.
-/
import Derived.Test.YthjalkonlcjhnaaGreatDoorTd
namespace Go.Proofs.YthjalkonlcjhnaaGreatDoor
open Go.RowKit
/-- names stand only where a kind has them -/
def plainB (k p q : Int) (s : ByteArray) : Bool := namesB k || (decide (p = 0) && decide (q = 0) && decide (s.size = 0))
theorem empty_of {s : ByteArray} (h : s.size = 0) : s = ⟨#[]⟩ := by
  have h1 : s.data.toList = [] := List.eq_nil_of_length_eq_zero (by rw [← size_data]; exact h)
  obtain ⟨d⟩ := s
  congr 1
  exact Array.toList_inj.1 h1
set_option maxRecDepth 20000 in
set_option maxHeartbeats 1600000 in
theorem rf_A (k n p q : Int) (s : ByteArray) (A : Option Addr) (l : List Tr) (c : Nat) (w : World) (h0 : partsI k ≠ (l.length : Int)) :
    Calls Tryz.prog 63 #[.agg #[.int .i64 k, .int .i64 n, .int .i64 p, .int .i64 q, .string s, .slice A l.length c]] w (Ret w (.bool false)) := by
  have HP := Lib.hid (fun w => rParts_c k w)
  have e0 : (partsI k != ((l.length : Nat) : Int)) = true := by rw [bne_iff_ne]; exact h0
  have e0' : (partsI k == ((l.length : Nat) : Int)) = false := beq_eq_false_iff_ne.2 h0
  clear h0
  generalize partsI k = pI at *
  go_enter Tryz.func63, Tryz.ntmps63
  go_wp2_with fail
  refine wp_region_ext (by kernel_rfl) (by kernel_rfl) ?_
  repeat (go_big_quiet_step ((go_at_call 99; exact quiet_ext (HP.out _))))
  refine wpQuiet_end (fun z => ?_)
  go_wp2_with fail
  go_ret
  exact Ret.mk rfl (((Ex.refl _).alloc _).ext _)
set_option maxRecDepth 20000 in
set_option maxHeartbeats 1600000 in
theorem rf_B (k n p q : Int) (s : ByteArray) (A : Option Addr) (l : List Tr) (c : Nat) (w : World) (h0 : partsI k = (l.length : Int)) (h1 : n ≠ 0) (h2 : k ≠ 1) :
    Calls Tryz.prog 63 #[.agg #[.int .i64 k, .int .i64 n, .int .i64 p, .int .i64 q, .string s, .slice A l.length c]] w (Ret w (.bool false)) := by
  have HP := Lib.hid (fun w => rParts_c k w)
  rw [h0] at HP
  clear h0
  have e1 : (n != 0) = true := by rw [bne_iff_ne]; omega
  have e1' : (n == 0) = false := beq_eq_false_iff_ne.2 (by omega)
  have e2 : (k != 1) = true := by rw [bne_iff_ne]; exact h2
  have e2' : (k == 1) = false := beq_eq_false_iff_ne.2 h2
  clear h1 h2
  go_enter Tryz.func63, Tryz.ntmps63
  go_wp2_with fail
  refine wp_region_ext (by kernel_rfl) (by kernel_rfl) ?_
  repeat (go_big_quiet_step ((go_at_call 99; exact quiet_ext (HP.out _))))
  refine wpQuiet_end (fun z => ?_)
  go_wp2_with fail
  go_ret
  exact Ret.mk rfl (((Ex.refl _).alloc _).ext _)
set_option maxRecDepth 20000 in
set_option maxHeartbeats 1600000 in
theorem rf_C (k n p q : Int) (s : ByteArray) (A : Option Addr) (l : List Tr) (c : Nat) (w : World) (h0 : partsI k = (l.length : Int)) (h1 : n < 0) (h2 : k = 1) :
    Calls Tryz.prog 63 #[.agg #[.int .i64 k, .int .i64 n, .int .i64 p, .int .i64 q, .string s, .slice A l.length c]] w (Ret w (.bool false)) := by
  have HP := Lib.hid (fun w => rParts_c k w)
  rw [h0] at HP
  clear h0
  have e3 : decide (n < 0) = true := decide_eq_true h1
  subst h2
  go_enter Tryz.func63, Tryz.ntmps63
  go_wp2_with fail
  refine wp_region_ext (by kernel_rfl) (by kernel_rfl) ?_
  repeat (go_big_quiet_step ((go_at_call 99; exact quiet_ext (HP.out _))))
  refine wpQuiet_end (fun z => ?_)
  go_wp2_with fail
  go_ret
  exact Ret.mk rfl (((Ex.refl _).alloc _).ext _)
set_option maxRecDepth 20000 in
set_option maxHeartbeats 1600000 in
theorem rf_D (k n p q : Int) (s : ByteArray) (A : Option Addr) (l : List Tr) (c : Nat) (w : World) (h0 : partsI k = (l.length : Int)) (h1 : 1125899906842624 < n) (h2 : k = 1) :
    Calls Tryz.prog 63 #[.agg #[.int .i64 k, .int .i64 n, .int .i64 p, .int .i64 q, .string s, .slice A l.length c]] w (Ret w (.bool false)) := by
  have HP := Lib.hid (fun w => rParts_c k w)
  rw [h0] at HP
  clear h0
  have e3 : decide (n < 0) = false := decide_eq_false (by omega)
  have e4 : decide (1125899906842624 < n) = true := decide_eq_true h1
  subst h2
  go_enter Tryz.func63, Tryz.ntmps63
  go_wp2_with fail
  refine wp_region_ext (by kernel_rfl) (by kernel_rfl) ?_
  repeat (go_big_quiet_step ((go_at_call 99; exact quiet_ext (HP.out _))))
  refine wpQuiet_end (fun z => ?_)
  go_wp2_with fail
  go_ret
  exact Ret.mk rfl (((Ex.refl _).alloc _).ext _)
set_option maxRecDepth 20000 in
set_option maxHeartbeats 1600000 in
theorem rf_Ep (k n p q : Int) (s : ByteArray) (A : Option Addr) (l : List Tr) (c : Nat) (w : World) (h0 : partsI k = (l.length : Int)) (h1 : 0 ≤ n) (h1' : n ≤ 1125899906842624) (h2 : k = 1) (hp : p ≠ 0) :
    Calls Tryz.prog 63 #[.agg #[.int .i64 k, .int .i64 n, .int .i64 p, .int .i64 q, .string s, .slice A l.length c]] w (Ret w (.bool false)) := by
  have HP := Lib.hid (fun w => rParts_c k w)
  rw [h0] at HP
  clear h0
  have g1 : (p != 0) = true := by rw [bne_iff_ne]; exact hp
  have g1' : (p == 0) = false := beq_eq_false_iff_ne.2 hp
  have HNm := Lib.hid (fun w => names_c 1 w)
  rw [show namesB 1 = false from rfl] at HNm
  have e3 : decide (n < 0) = false := decide_eq_false (by omega)
  have e4 : decide (1125899906842624 < n) = false := decide_eq_false (by omega)
  subst h2
  go_enter Tryz.func63, Tryz.ntmps63
  go_wp2_with fail
  refine wp_region_ext (by kernel_rfl) (by kernel_rfl) ?_
  repeat (go_big_quiet_step ((go_at_call 99; exact quiet_ext (HP.out _))))
  refine wpQuiet_end (fun z => ?_)
  go_wp2_with fail
  refine (HNm.out _).mono ?_
  rintro e w' ⟨rfl, z2, rfl⟩
  go_wp2_with fail
  go_ret
  exact Ret.mk rfl ((((Ex.refl _).alloc _).ext _).ext _)
set_option maxRecDepth 20000 in
set_option maxHeartbeats 1600000 in
theorem rf_Eq (k n p q : Int) (s : ByteArray) (A : Option Addr) (l : List Tr) (c : Nat) (w : World) (h0 : partsI k = (l.length : Int)) (h1 : 0 ≤ n) (h1' : n ≤ 1125899906842624) (h2 : k = 1) (hp : p = 0) (hq : q ≠ 0) :
    Calls Tryz.prog 63 #[.agg #[.int .i64 k, .int .i64 n, .int .i64 p, .int .i64 q, .string s, .slice A l.length c]] w (Ret w (.bool false)) := by
  have HP := Lib.hid (fun w => rParts_c k w)
  rw [h0] at HP
  clear h0
  have g1 : (q != 0) = true := by rw [bne_iff_ne]; exact hq
  have g1' : (q == 0) = false := beq_eq_false_iff_ne.2 hq
  subst hp
  have HNm := Lib.hid (fun w => names_c 1 w)
  rw [show namesB 1 = false from rfl] at HNm
  have e3 : decide (n < 0) = false := decide_eq_false (by omega)
  have e4 : decide (1125899906842624 < n) = false := decide_eq_false (by omega)
  subst h2
  go_enter Tryz.func63, Tryz.ntmps63
  go_wp2_with fail
  refine wp_region_ext (by kernel_rfl) (by kernel_rfl) ?_
  repeat (go_big_quiet_step ((go_at_call 99; exact quiet_ext (HP.out _))))
  refine wpQuiet_end (fun z => ?_)
  go_wp2_with fail
  refine (HNm.out _).mono ?_
  rintro e w' ⟨rfl, z2, rfl⟩
  go_wp2_with fail
  go_ret
  exact Ret.mk rfl ((((Ex.refl _).alloc _).ext _).ext _)
set_option maxRecDepth 20000 in
set_option maxHeartbeats 1600000 in
theorem rf_Es (k n p q : Int) (s : ByteArray) (A : Option Addr) (l : List Tr) (c : Nat) (w : World) (h0 : partsI k = (l.length : Int)) (h1 : 0 ≤ n) (h1' : n ≤ 1125899906842624) (h2 : k = 1) (hp : p = 0) (hq : q = 0) (hs : ¬ s.size = 0) :
    Calls Tryz.prog 63 #[.agg #[.int .i64 k, .int .i64 n, .int .i64 p, .int .i64 q, .string s, .slice A l.length c]] w (Ret w (.bool false)) := by
  have HP := Lib.hid (fun w => rParts_c k w)
  rw [h0] at HP
  clear h0
  have g1 : s.toList.isEmpty = false := by rw [nonempty_iff, decide_eq_false hs]
  have g2 : (s.toList == []) = false := by rw [beq_eq_false_iff_ne]; intro h9; rw [h9] at g1; simp at g1
  have g3 : (s.toList != []) = true := by unfold bne; rw [g2]; rfl
  subst hp
  subst hq
  have HNm := Lib.hid (fun w => names_c 1 w)
  rw [show namesB 1 = false from rfl] at HNm
  have e3 : decide (n < 0) = false := decide_eq_false (by omega)
  have e4 : decide (1125899906842624 < n) = false := decide_eq_false (by omega)
  subst h2
  go_enter Tryz.func63, Tryz.ntmps63
  go_wp2_with fail
  refine wp_region_ext (by kernel_rfl) (by kernel_rfl) ?_
  repeat (go_big_quiet_step ((go_at_call 99; exact quiet_ext (HP.out _))))
  refine wpQuiet_end (fun z => ?_)
  go_wp2_with fail
  refine (HNm.out _).mono ?_
  rintro e w' ⟨rfl, z2, rfl⟩
  go_wp2_with fail
  go_ret
  exact Ret.mk rfl ((((Ex.refl _).alloc _).ext _).ext _)
set_option maxRecDepth 20000 in
set_option maxHeartbeats 1600000 in
theorem rf_Fp (k n p q : Int) (s : ByteArray) (A : Option Addr) (l : List Tr) (c : Nat) (w : World) (h0 : partsI k = (l.length : Int)) (h1 : n = 0) (h2 : k ≠ 1) (hnm : namesB k = false) (hp : p ≠ 0) :
    Calls Tryz.prog 63 #[.agg #[.int .i64 k, .int .i64 n, .int .i64 p, .int .i64 q, .string s, .slice A l.length c]] w (Ret w (.bool false)) := by
  have HP := Lib.hid (fun w => rParts_c k w)
  rw [h0] at HP
  clear h0
  have g1 : (p != 0) = true := by rw [bne_iff_ne]; exact hp
  have g1' : (p == 0) = false := beq_eq_false_iff_ne.2 hp
  have HNm := Lib.hid (fun w => names_c k w)
  rw [hnm] at HNm
  have e2 : (k != 1) = true := by rw [bne_iff_ne]; exact h2
  have e2' : (k == 1) = false := beq_eq_false_iff_ne.2 h2
  subst h1
  clear hnm h2
  go_enter Tryz.func63, Tryz.ntmps63
  go_wp2_with fail
  refine wp_region_ext (by kernel_rfl) (by kernel_rfl) ?_
  repeat (go_big_quiet_step ((go_at_call 99; exact quiet_ext (HP.out _))))
  refine wpQuiet_end (fun z => ?_)
  go_wp2_with fail
  refine (HNm.out _).mono ?_
  rintro e w' ⟨rfl, z2, rfl⟩
  go_wp2_with fail
  go_ret
  exact Ret.mk rfl ((((Ex.refl _).alloc _).ext _).ext _)
set_option maxRecDepth 20000 in
set_option maxHeartbeats 1600000 in
theorem rf_Fq (k n p q : Int) (s : ByteArray) (A : Option Addr) (l : List Tr) (c : Nat) (w : World) (h0 : partsI k = (l.length : Int)) (h1 : n = 0) (h2 : k ≠ 1) (hnm : namesB k = false) (hp : p = 0) (hq : q ≠ 0) :
    Calls Tryz.prog 63 #[.agg #[.int .i64 k, .int .i64 n, .int .i64 p, .int .i64 q, .string s, .slice A l.length c]] w (Ret w (.bool false)) := by
  have HP := Lib.hid (fun w => rParts_c k w)
  rw [h0] at HP
  clear h0
  have g1 : (q != 0) = true := by rw [bne_iff_ne]; exact hq
  have g1' : (q == 0) = false := beq_eq_false_iff_ne.2 hq
  subst hp
  have HNm := Lib.hid (fun w => names_c k w)
  rw [hnm] at HNm
  have e2 : (k != 1) = true := by rw [bne_iff_ne]; exact h2
  have e2' : (k == 1) = false := beq_eq_false_iff_ne.2 h2
  subst h1
  clear hnm h2
  go_enter Tryz.func63, Tryz.ntmps63
  go_wp2_with fail
  refine wp_region_ext (by kernel_rfl) (by kernel_rfl) ?_
  repeat (go_big_quiet_step ((go_at_call 99; exact quiet_ext (HP.out _))))
  refine wpQuiet_end (fun z => ?_)
  go_wp2_with fail
  refine (HNm.out _).mono ?_
  rintro e w' ⟨rfl, z2, rfl⟩
  go_wp2_with fail
  go_ret
  exact Ret.mk rfl ((((Ex.refl _).alloc _).ext _).ext _)
set_option maxRecDepth 20000 in
set_option maxHeartbeats 1600000 in
theorem rf_Fs (k n p q : Int) (s : ByteArray) (A : Option Addr) (l : List Tr) (c : Nat) (w : World) (h0 : partsI k = (l.length : Int)) (h1 : n = 0) (h2 : k ≠ 1) (hnm : namesB k = false) (hp : p = 0) (hq : q = 0) (hs : ¬ s.size = 0) :
    Calls Tryz.prog 63 #[.agg #[.int .i64 k, .int .i64 n, .int .i64 p, .int .i64 q, .string s, .slice A l.length c]] w (Ret w (.bool false)) := by
  have HP := Lib.hid (fun w => rParts_c k w)
  rw [h0] at HP
  clear h0
  have g1 : s.toList.isEmpty = false := by rw [nonempty_iff, decide_eq_false hs]
  have g2 : (s.toList == []) = false := by rw [beq_eq_false_iff_ne]; intro h9; rw [h9] at g1; simp at g1
  have g3 : (s.toList != []) = true := by unfold bne; rw [g2]; rfl
  subst hp
  subst hq
  have HNm := Lib.hid (fun w => names_c k w)
  rw [hnm] at HNm
  have e2 : (k != 1) = true := by rw [bne_iff_ne]; exact h2
  have e2' : (k == 1) = false := beq_eq_false_iff_ne.2 h2
  subst h1
  clear hnm h2
  go_enter Tryz.func63, Tryz.ntmps63
  go_wp2_with fail
  refine wp_region_ext (by kernel_rfl) (by kernel_rfl) ?_
  repeat (go_big_quiet_step ((go_at_call 99; exact quiet_ext (HP.out _))))
  refine wpQuiet_end (fun z => ?_)
  go_wp2_with fail
  refine (HNm.out _).mono ?_
  rintro e w' ⟨rfl, z2, rfl⟩
  go_wp2_with fail
  go_ret
  exact Ret.mk rfl ((((Ex.refl _).alloc _).ext _).ext _)
set_option maxRecDepth 20000 in
set_option maxHeartbeats 1600000 in
theorem rf_E0 (k n p q : Int) (s : ByteArray) (A : Option Addr) (l : List Tr) (c : Nat) (w : World) (h0 : partsI k = (l.length : Int)) (h1 : 0 ≤ n) (h1' : n ≤ 1125899906842624) (h2 : k = 1) (hp : p = 0) (hq : q = 0) (hs : s.size = 0) (Q : Nat → Prop) (N : Nat) (hl : l.length ≤ 1000000) (ht : TrC Q w (.node k n p q s l) (c6 k n p q s A l.length c)) (hN : ∀ (j : Nat) (x : Tr), l[j]? = some x → x.size ≤ N) (g : Tr → Bool) (HC : Hid (∀ w' x k n p q s A m c, x.size ≤ N → TrC Q w' x (c6 k n p q s A m c) → Calls Tryz.prog 63 #[.agg #[.int .i64 k, .int .i64 n, .int .i64 p, .int .i64 q, .string s, .slice A m c]] w' (Ret w' (.bool (g x))))) (RES : Bool) (HT : Hid ((∀ (i : Nat) (x : Tr), l[i]? = some x → g x = true) → RES = true)) (HF : Hid (∀ (i : Nat) (x : Tr), l[i]? = some x → g x = false → RES = false)) :
    Calls Tryz.prog 63 #[.agg #[.int .i64 k, .int .i64 n, .int .i64 p, .int .i64 q, .string s, .slice A l.length c]] w (Ret w (.bool RES)) := by
  have HP := Lib.hid (fun w => rParts_c k w)
  obtain ⟨_, _, _, _, _, _, hk⟩ := ht.kids
  have HK := Lib.hid (fun w' (hx : Ex w w') j x (hj : l[j]? = some x) => (hk j x hj).ex hx)
  have HG : Hid (∀ j, j < l.length → ∃ x, l[j]? = some x) := fun j hj => ⟨_, List.getElem?_eq_getElem hj⟩
  have HI := Lib.hid hN
  clear hk ht hN
  rw [h0] at HP
  clear h0
  subst hp
  subst hq
  have hs9 := empty_of hs
  subst hs9
  have HNm := Lib.hid (fun w => names_c 1 w)
  rw [show namesB 1 = false from rfl] at HNm
  have e3 : decide (n < 0) = false := decide_eq_false (by omega)
  have e4 : decide (1125899906842624 < n) = false := decide_eq_false (by omega)
  subst h2
  go_enter Tryz.func63, Tryz.ntmps63
  go_wp2_with fail
  refine wp_region_ext (by kernel_rfl) (by kernel_rfl) ?_
  repeat (go_big_quiet_step ((go_at_call 99; exact quiet_ext (HP.out _))))
  refine wpQuiet_end (fun z => ?_)
  go_wp2_with fail
  refine (HNm.out _).mono ?_
  rintro e w' ⟨rfl, z2, rfl⟩
  have HZ : Hid (Blk (ext (ext (w.alloc (.cells #[.int .i64 1, .int .i64 n, .int .i64 0, .int .i64 0, .string ⟨#[]⟩, .slice A l.length c] 24)) z) z2) w.heap.size 24 (c6 1 n 0 0 ⟨#[]⟩ A l.length c)) := (Blk.new w _ _).ex (((Ex.refl _).ext _).ext _)
  have HX0 : Hid (Ex w (ext (ext (w.alloc (.cells #[.int .i64 1, .int .i64 n, .int .i64 0, .int .i64 0, .string ⟨#[]⟩, .slice A l.length c] 24)) z) z2)) := (((Ex.refl w).alloc _).ext _).ext _
  obtain ⟨W0, hW0⟩ : ∃ W0, W0 = ext (ext (w.alloc (.cells #[.int .i64 1, .int .i64 n, .int .i64 0, .int .i64 0, .string ⟨#[]⟩, .slice A l.length c] 24)) z) z2 := ⟨_, rfl⟩
  rw [← hW0] at HZ HX0
  have HW0 := Lib.hid hW0
  clear hW0
  go_wp2_with fail
  rw [← HW0.out]
  go_loopw [3] (fun i wr => ∃ j : Nat, i = .int .i64 j ∧ j ≤ l.length ∧ Hid ((∀ (i : Nat) (x : Tr), i < j → l[i]? = some x → g x = true) ∧ Ex W0 wr)) (fun i _ => l.length - (intOf i).toNat)
  case atStart => exact ⟨0, rfl, Nat.zero_le _, Lib.hid ⟨fun i x h => absurd h (by omega), Ex.refl _⟩⟩
  case round =>
    obtain ⟨j, rfl, hj, HH⟩ := hrel
    have hz := HZ.out.ex HH.out.2
    have lz := hz.lt
    have r5 : wr.cell? ⟨w.heap.size, 5, none⟩ = some (.slice A l.length c) := hz.cell 5
    clear hz
    by_cases hlt : j < l.length
    · have m1 : (j : Int) < (l.length : Int) := by omega
      have m0 : (0 : Int) ≤ (j : Int) := by omega
      obtain ⟨x, hx⟩ := HG.out j hlt
      obtain ⟨b, o, k2, n2, p2, q2, s2, B, m2, c2, rfl, hb, h0, h1, h2, h3, h4, h5, htx⟩ := HK.out _ (HX0.out.trans HH.out.2) j x hx
      have HCx := Lib.hid (fun w' (hy : Ex wr w') => HC.out w' x k2 n2 p2 q2 s2 B m2 c2 (HI.out j x hx) (htx.ex hy))
      obtain ⟨qq, hqq⟩ : ∃ qq, g x = qq := ⟨_, rfl⟩
      rw [hqq] at HCx
      have HXY := Lib.hid (And.intro hx hqq)
      clear htx hx hqq
      cases qq with
      | true =>
        go_wp2_with fail
        refine (HCx.out _ (Ex.refl _)).mono ?_
        rintro e w' ⟨rfl, z3, rfl⟩
        go_wp2_with fail
        refine ⟨⟨j + 1, by go_num, by omega, Lib.hid ⟨fun i y hi hy => ?_, HH.out.2.ext _⟩⟩, by simp [intOf]; omega⟩
        by_cases hij : i = j
        · subst hij
          have h9 := HXY.out.1
          rw [h9] at hy
          injection hy with hy
          rw [← hy]; exact HXY.out.2
        · exact HH.out.1 i y (by omega) hy
      | false =>
        go_wp2_with fail
        refine (HCx.out _ (Ex.refl _)).mono ?_
        rintro e w' ⟨rfl, z3, rfl⟩
        go_wp2_with fail
        go_ret
        exact Ret.mk (by rw [HF.out j x HXY.out.1 HXY.out.2]; rfl) (HX0.out.trans (HH.out.2.ext _))
    · have hjl : j = l.length := by omega
      subst hjl
      have m1 : decide (((l.length : Nat) : Int) < (l.length : Int)) = false := decide_eq_false (by omega)
      have HR := Lib.hid (HT.out (fun i x hi => HH.out.1 i x (by
        rcases Nat.lt_or_ge i l.length with h | h
        · exact h
        · rw [List.getElem?_eq_none h] at hi; cases hi) hi))
      have HE := Lib.hid HH.out.2
      clear hlt HH
      go_wp2_with fail
      go_ret
      exact Ret.mk (by rw [HR.out]; rfl) (HX0.out.trans HE.out)
set_option maxRecDepth 20000 in
set_option maxHeartbeats 1600000 in
theorem rf_F0 (k n p q : Int) (s : ByteArray) (A : Option Addr) (l : List Tr) (c : Nat) (w : World) (h0 : partsI k = (l.length : Int)) (h1 : n = 0) (h2 : k ≠ 1) (hnm : namesB k = false) (hp : p = 0) (hq : q = 0) (hs : s.size = 0) (Q : Nat → Prop) (N : Nat) (hl : l.length ≤ 1000000) (ht : TrC Q w (.node k n p q s l) (c6 k n p q s A l.length c)) (hN : ∀ (j : Nat) (x : Tr), l[j]? = some x → x.size ≤ N) (g : Tr → Bool) (HC : Hid (∀ w' x k n p q s A m c, x.size ≤ N → TrC Q w' x (c6 k n p q s A m c) → Calls Tryz.prog 63 #[.agg #[.int .i64 k, .int .i64 n, .int .i64 p, .int .i64 q, .string s, .slice A m c]] w' (Ret w' (.bool (g x))))) (RES : Bool) (HT : Hid ((∀ (i : Nat) (x : Tr), l[i]? = some x → g x = true) → RES = true)) (HF : Hid (∀ (i : Nat) (x : Tr), l[i]? = some x → g x = false → RES = false)) :
    Calls Tryz.prog 63 #[.agg #[.int .i64 k, .int .i64 n, .int .i64 p, .int .i64 q, .string s, .slice A l.length c]] w (Ret w (.bool RES)) := by
  have HP := Lib.hid (fun w => rParts_c k w)
  obtain ⟨_, _, _, _, _, _, hk⟩ := ht.kids
  have HK := Lib.hid (fun w' (hx : Ex w w') j x (hj : l[j]? = some x) => (hk j x hj).ex hx)
  have HG : Hid (∀ j, j < l.length → ∃ x, l[j]? = some x) := fun j hj => ⟨_, List.getElem?_eq_getElem hj⟩
  have HI := Lib.hid hN
  clear hk ht hN
  rw [h0] at HP
  clear h0
  subst hp
  subst hq
  have hs9 := empty_of hs
  subst hs9
  have HNm := Lib.hid (fun w => names_c k w)
  rw [hnm] at HNm
  have e2 : (k != 1) = true := by rw [bne_iff_ne]; exact h2
  have e2' : (k == 1) = false := beq_eq_false_iff_ne.2 h2
  subst h1
  clear hnm h2
  go_enter Tryz.func63, Tryz.ntmps63
  go_wp2_with fail
  refine wp_region_ext (by kernel_rfl) (by kernel_rfl) ?_
  repeat (go_big_quiet_step ((go_at_call 99; exact quiet_ext (HP.out _))))
  refine wpQuiet_end (fun z => ?_)
  go_wp2_with fail
  refine (HNm.out _).mono ?_
  rintro e w' ⟨rfl, z2, rfl⟩
  have HZ : Hid (Blk (ext (ext (w.alloc (.cells #[.int .i64 k, .int .i64 0, .int .i64 0, .int .i64 0, .string ⟨#[]⟩, .slice A l.length c] 24)) z) z2) w.heap.size 24 (c6 k 0 0 0 ⟨#[]⟩ A l.length c)) := (Blk.new w _ _).ex (((Ex.refl _).ext _).ext _)
  have HX0 : Hid (Ex w (ext (ext (w.alloc (.cells #[.int .i64 k, .int .i64 0, .int .i64 0, .int .i64 0, .string ⟨#[]⟩, .slice A l.length c] 24)) z) z2)) := (((Ex.refl w).alloc _).ext _).ext _
  obtain ⟨W0, hW0⟩ : ∃ W0, W0 = ext (ext (w.alloc (.cells #[.int .i64 k, .int .i64 0, .int .i64 0, .int .i64 0, .string ⟨#[]⟩, .slice A l.length c] 24)) z) z2 := ⟨_, rfl⟩
  rw [← hW0] at HZ HX0
  have HW0 := Lib.hid hW0
  clear hW0
  go_wp2_with fail
  rw [← HW0.out]
  go_loopw [3] (fun i wr => ∃ j : Nat, i = .int .i64 j ∧ j ≤ l.length ∧ Hid ((∀ (i : Nat) (x : Tr), i < j → l[i]? = some x → g x = true) ∧ Ex W0 wr)) (fun i _ => l.length - (intOf i).toNat)
  case atStart => exact ⟨0, rfl, Nat.zero_le _, Lib.hid ⟨fun i x h => absurd h (by omega), Ex.refl _⟩⟩
  case round =>
    obtain ⟨j, rfl, hj, HH⟩ := hrel
    have hz := HZ.out.ex HH.out.2
    have lz := hz.lt
    have r5 : wr.cell? ⟨w.heap.size, 5, none⟩ = some (.slice A l.length c) := hz.cell 5
    clear hz
    by_cases hlt : j < l.length
    · have m1 : (j : Int) < (l.length : Int) := by omega
      have m0 : (0 : Int) ≤ (j : Int) := by omega
      obtain ⟨x, hx⟩ := HG.out j hlt
      obtain ⟨b, o, k2, n2, p2, q2, s2, B, m2, c2, rfl, hb, h0, h1, h2, h3, h4, h5, htx⟩ := HK.out _ (HX0.out.trans HH.out.2) j x hx
      have HCx := Lib.hid (fun w' (hy : Ex wr w') => HC.out w' x k2 n2 p2 q2 s2 B m2 c2 (HI.out j x hx) (htx.ex hy))
      obtain ⟨qq, hqq⟩ : ∃ qq, g x = qq := ⟨_, rfl⟩
      rw [hqq] at HCx
      have HXY := Lib.hid (And.intro hx hqq)
      clear htx hx hqq
      cases qq with
      | true =>
        go_wp2_with fail
        refine (HCx.out _ (Ex.refl _)).mono ?_
        rintro e w' ⟨rfl, z3, rfl⟩
        go_wp2_with fail
        refine ⟨⟨j + 1, by go_num, by omega, Lib.hid ⟨fun i y hi hy => ?_, HH.out.2.ext _⟩⟩, by simp [intOf]; omega⟩
        by_cases hij : i = j
        · subst hij
          have h9 := HXY.out.1
          rw [h9] at hy
          injection hy with hy
          rw [← hy]; exact HXY.out.2
        · exact HH.out.1 i y (by omega) hy
      | false =>
        go_wp2_with fail
        refine (HCx.out _ (Ex.refl _)).mono ?_
        rintro e w' ⟨rfl, z3, rfl⟩
        go_wp2_with fail
        go_ret
        exact Ret.mk (by rw [HF.out j x HXY.out.1 HXY.out.2]; rfl) (HX0.out.trans (HH.out.2.ext _))
    · have hjl : j = l.length := by omega
      subst hjl
      have m1 : decide (((l.length : Nat) : Int) < (l.length : Int)) = false := decide_eq_false (by omega)
      have HR := Lib.hid (HT.out (fun i x hi => HH.out.1 i x (by
        rcases Nat.lt_or_ge i l.length with h | h
        · exact h
        · rw [List.getElem?_eq_none h] at hi; cases hi) hi))
      have HE := Lib.hid HH.out.2
      clear hlt HH
      go_wp2_with fail
      go_ret
      exact Ret.mk (by rw [HR.out]; rfl) (HX0.out.trans HE.out)
set_option maxRecDepth 20000 in
set_option maxHeartbeats 1600000 in
theorem rf_FN (k n p q : Int) (s : ByteArray) (A : Option Addr) (l : List Tr) (c : Nat) (w : World) (h0 : partsI k = (l.length : Int)) (h1 : n = 0) (h2 : k ≠ 1) (hnm : namesB k = true) (Q : Nat → Prop) (N : Nat) (hl : l.length ≤ 1000000) (ht : TrC Q w (.node k n p q s l) (c6 k n p q s A l.length c)) (hN : ∀ (j : Nat) (x : Tr), l[j]? = some x → x.size ≤ N) (g : Tr → Bool) (HC : Hid (∀ w' x k n p q s A m c, x.size ≤ N → TrC Q w' x (c6 k n p q s A m c) → Calls Tryz.prog 63 #[.agg #[.int .i64 k, .int .i64 n, .int .i64 p, .int .i64 q, .string s, .slice A m c]] w' (Ret w' (.bool (g x))))) (RES : Bool) (HT : Hid ((∀ (i : Nat) (x : Tr), l[i]? = some x → g x = true) → RES = true)) (HF : Hid (∀ (i : Nat) (x : Tr), l[i]? = some x → g x = false → RES = false)) :
    Calls Tryz.prog 63 #[.agg #[.int .i64 k, .int .i64 n, .int .i64 p, .int .i64 q, .string s, .slice A l.length c]] w (Ret w (.bool RES)) := by
  have HP := Lib.hid (fun w => rParts_c k w)
  obtain ⟨_, _, _, _, _, _, hk⟩ := ht.kids
  have HK := Lib.hid (fun w' (hx : Ex w w') j x (hj : l[j]? = some x) => (hk j x hj).ex hx)
  have HG : Hid (∀ j, j < l.length → ∃ x, l[j]? = some x) := fun j hj => ⟨_, List.getElem?_eq_getElem hj⟩
  have HI := Lib.hid hN
  clear hk ht hN
  rw [h0] at HP
  clear h0
  have HNm := Lib.hid (fun w => names_c k w)
  rw [hnm] at HNm
  have e2 : (k != 1) = true := by rw [bne_iff_ne]; exact h2
  have e2' : (k == 1) = false := beq_eq_false_iff_ne.2 h2
  subst h1
  clear hnm h2
  go_enter Tryz.func63, Tryz.ntmps63
  go_wp2_with fail
  refine wp_region_ext (by kernel_rfl) (by kernel_rfl) ?_
  repeat (go_big_quiet_step ((go_at_call 99; exact quiet_ext (HP.out _))))
  refine wpQuiet_end (fun z => ?_)
  go_wp2_with fail
  refine (HNm.out _).mono ?_
  rintro e w' ⟨rfl, z2, rfl⟩
  have HZ : Hid (Blk (ext (ext (w.alloc (.cells #[.int .i64 k, .int .i64 0, .int .i64 p, .int .i64 q, .string s, .slice A l.length c] 24)) z) z2) w.heap.size 24 (c6 k 0 p q s A l.length c)) := (Blk.new w _ _).ex (((Ex.refl _).ext _).ext _)
  have HX0 : Hid (Ex w (ext (ext (w.alloc (.cells #[.int .i64 k, .int .i64 0, .int .i64 p, .int .i64 q, .string s, .slice A l.length c] 24)) z) z2)) := (((Ex.refl w).alloc _).ext _).ext _
  obtain ⟨W0, hW0⟩ : ∃ W0, W0 = ext (ext (w.alloc (.cells #[.int .i64 k, .int .i64 0, .int .i64 p, .int .i64 q, .string s, .slice A l.length c] 24)) z) z2 := ⟨_, rfl⟩
  rw [← hW0] at HZ HX0
  have HW0 := Lib.hid hW0
  clear hW0
  go_wp2_with fail
  rw [← HW0.out]
  go_loopw [3] (fun i wr => ∃ j : Nat, i = .int .i64 j ∧ j ≤ l.length ∧ Hid ((∀ (i : Nat) (x : Tr), i < j → l[i]? = some x → g x = true) ∧ Ex W0 wr)) (fun i _ => l.length - (intOf i).toNat)
  case atStart => exact ⟨0, rfl, Nat.zero_le _, Lib.hid ⟨fun i x h => absurd h (by omega), Ex.refl _⟩⟩
  case round =>
    obtain ⟨j, rfl, hj, HH⟩ := hrel
    have hz := HZ.out.ex HH.out.2
    have lz := hz.lt
    have r5 : wr.cell? ⟨w.heap.size, 5, none⟩ = some (.slice A l.length c) := hz.cell 5
    clear hz
    by_cases hlt : j < l.length
    · have m1 : (j : Int) < (l.length : Int) := by omega
      have m0 : (0 : Int) ≤ (j : Int) := by omega
      obtain ⟨x, hx⟩ := HG.out j hlt
      obtain ⟨b, o, k2, n2, p2, q2, s2, B, m2, c2, rfl, hb, h0, h1, h2, h3, h4, h5, htx⟩ := HK.out _ (HX0.out.trans HH.out.2) j x hx
      have HCx := Lib.hid (fun w' (hy : Ex wr w') => HC.out w' x k2 n2 p2 q2 s2 B m2 c2 (HI.out j x hx) (htx.ex hy))
      obtain ⟨qq, hqq⟩ : ∃ qq, g x = qq := ⟨_, rfl⟩
      rw [hqq] at HCx
      have HXY := Lib.hid (And.intro hx hqq)
      clear htx hx hqq
      cases qq with
      | true =>
        go_wp2_with fail
        refine (HCx.out _ (Ex.refl _)).mono ?_
        rintro e w' ⟨rfl, z3, rfl⟩
        go_wp2_with fail
        refine ⟨⟨j + 1, by go_num, by omega, Lib.hid ⟨fun i y hi hy => ?_, HH.out.2.ext _⟩⟩, by simp [intOf]; omega⟩
        by_cases hij : i = j
        · subst hij
          have h9 := HXY.out.1
          rw [h9] at hy
          injection hy with hy
          rw [← hy]; exact HXY.out.2
        · exact HH.out.1 i y (by omega) hy
      | false =>
        go_wp2_with fail
        refine (HCx.out _ (Ex.refl _)).mono ?_
        rintro e w' ⟨rfl, z3, rfl⟩
        go_wp2_with fail
        go_ret
        exact Ret.mk (by rw [HF.out j x HXY.out.1 HXY.out.2]; rfl) (HX0.out.trans (HH.out.2.ext _))
    · have hjl : j = l.length := by omega
      subst hjl
      have m1 : decide (((l.length : Nat) : Int) < (l.length : Int)) = false := decide_eq_false (by omega)
      have HR := Lib.hid (HT.out (fun i x hi => HH.out.1 i x (by
        rcases Nat.lt_or_ge i l.length with h | h
        · exact h
        · rw [List.getElem?_eq_none h] at hi; cases hi) hi))
      have HE := Lib.hid HH.out.2
      clear hlt HH
      go_wp2_with fail
      go_ret
      exact Ret.mk (by rw [HR.out]; rfl) (HX0.out.trans HE.out)
end Go.Proofs.YthjalkonlcjhnaaGreatDoor
