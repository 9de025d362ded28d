/-
  The law Places, walked.
  Conditions: the world's tables are as laid (Envw).
-/
import Derived.Test.YthjalkonlcjhnaaDoorRd
import Derived.Test.YthjalkonlcjhnaaDoorQw
namespace Go.Proofs.YthjalkonlcjhnaaDoor
open Go.RowKit
def lexErr (s : List UInt8) : Int := match lexL 1000 s (1, 1) with
  | .ok _ => 0
  | .bad _ n => (n : Nat)
/-- what a call of Words leaves, where nothing but its error counts -/
def WErr (w : World) (er : Int) (e : Ending) (w' : World) : Prop :=
  ∃ (A : Option Addr) (n c : Nat) (a1 a2 : Int), e = .returned (.tuple #[.slice A n c, .agg #[.int .i64 a1, .int .i64 a2], .int .i64 er]) ∧ Ex w w'
theorem words_werr (s : ByteArray) (w : World) (hE : Envw w) (h : s.size ≤ 16384) : Calls Tryd.prog 12 #[.string s] w (WErr w (lexErr s.data.toList)) := by
  refine (words_c s w hE.1 h).mono ?_
  unfold lexErr
  cases lexL 1000 s.data.toList (1, 1) with
  | ok l =>
    rintro e w' ⟨v, rfl, ho, hx⟩
    obtain ⟨_, A, c, rfl⟩ := own_len ho
    exact ⟨A, _, c, 0, 0, rfl, hx⟩
  | bad p n =>
    rintro e w' ⟨rfl, hx⟩
    exact ⟨none, 0, 0, _, _, rfl, hx⟩
/-- what a call of Parse leaves, where nothing but its error counts -/
def PErr (w : World) (er : Int) (e : Ending) (w' : World) : Prop :=
  ∃ (k n p q : Int) (s : ByteArray) (A : Option Addr) (m c : Nat) (a1 a2 : Int), e = .returned (.tuple #[.agg #[.int .i64 k, .int .i64 n, .int .i64 p, .int .i64 q, .string s, .slice A m c], .agg #[.int .i64 a1, .int .i64 a2], .int .i64 er]) ∧ Ex w w'
def errOf : PO → Int
  | .tree _ => 0
  | .err _ n => (n : Nat)
theorem parse_perr (s : ByteArray) (w : World) (hE : Envw w) : Calls Tryd.prog 6 #[.string s] w (PErr w (errOf (parseO s.data.toList))) := by
  refine (parse_c s w hE.1).mono ?_
  cases parseO s.data.toList with
  | tree x =>
    rintro e w' ⟨k, n, p, q, s, A, m, c, rfl, ht, hx⟩
    exact ⟨k, n, p, q, s, A, m, c, 0, 0, rfl, hx⟩
  | err p n =>
    rintro e w' ⟨rfl, hx⟩
    exact ⟨0, 0, 0, 0, ⟨#[]⟩, none, 0, 0, _, _, rfl, hx⟩
theorem noNl_of {s : ByteArray} (h : Lib.indexByte s.data.toList 10 = -1) : noNl s.data.toList := by
  intro x hx e
  obtain ⟨k, hk⟩ := List.mem_iff_getElem?.1 hx
  refine Lib.indexByte_none h k ?_
  rw [hk]
  congr 1
  exact UInt8.toNat_inj.1 e
theorem has_cases (s : ByteArray) : (decide (0 ≤ Lib.indexByte s.data.toList 10) = true) ∨ (decide (0 ≤ Lib.indexByte s.data.toList 10) = false ∧ noNl s.data.toList) := by
  by_cases h : 0 ≤ Lib.indexByte s.data.toList 10
  · exact .inl (decide_eq_true h)
  · exact .inr ⟨decide_eq_false h, noNl_of (by have := Lib.indexByte_ge s.data.toList 10; omega)⟩
theorem places_long1 (s t : ByteArray) (w : World) (hE : Envw w) (h : 400 < s.size) : Calls Tryd.prog 4 #[.string s, .string t] w (Ret w (.bool true)) := by
  have HA := Lib.hid (awake_c w hE)
  have m1 : decide (400 < (s.size : Int)) = true := decide_eq_true (by omega)
  clear hE h
  go_enter Tryd.func4, Tryd.ntmps4
  go_wp2_with fail
  refine HA.out.mono ?_
  rintro e w0 ⟨rfl, hx0⟩
  have HX0 := Lib.hid hx0
  clear hx0
  go_wp2_with fail
  go_ret
  exact Ret.mk rfl HX0.out
theorem places_long2 (s t : ByteArray) (w : World) (hE : Envw w) (h0 : s.size ≤ 400) (h : 400 < t.size) : Calls Tryd.prog 4 #[.string s, .string t] w (Ret w (.bool true)) := by
  have HA := Lib.hid (awake_c w hE)
  have m1 : decide (400 < (s.size : Int)) = false := decide_eq_false (by omega)
  have m2 : decide (400 < (t.size : Int)) = true := decide_eq_true (by omega)
  clear hE h h0
  go_enter Tryd.func4, Tryd.ntmps4
  go_wp2_with fail
  refine HA.out.mono ?_
  rintro e w0 ⟨rfl, hx0⟩
  have HX0 := Lib.hid hx0
  clear hx0
  go_wp2_with fail
  go_ret
  exact Ret.mk rfl HX0.out
theorem places_nl1 (s t : ByteArray) (w : World) (hE : Envw w) (h0 : s.size ≤ 400) (h1 : t.size ≤ 400) (h : decide (0 ≤ Lib.indexByte s.data.toList 10) = true) : Calls Tryd.prog 4 #[.string s, .string t] w (Ret w (.bool true)) := by
  have HA := Lib.hid (awake_c w hE)
  have HC := Lib.hid (fun w => Tryd.strings_Contains_one s 10 w)
  rw [h] at HC
  have m1 : decide (400 < (s.size : Int)) = false := decide_eq_false (by omega)
  have m2 : decide (400 < (t.size : Int)) = false := decide_eq_false (by omega)
  clear hE h h0 h1
  go_enter Tryd.func4, Tryd.ntmps4
  go_wp2_with fail
  refine HA.out.mono ?_
  rintro e w0 ⟨rfl, hx0⟩
  have HX0 := Lib.hid hx0
  clear hx0
  go_wp2_with fail
  refine (HC.out _).mono ?_
  rintro e w1 ⟨rfl, rfl⟩
  go_wp2_with fail
  go_ret
  exact Ret.mk rfl HX0.out
theorem places_nl2 (s t : ByteArray) (w : World) (hE : Envw w) (h0 : s.size ≤ 400) (h1 : t.size ≤ 400) (h : decide (0 ≤ Lib.indexByte s.data.toList 10) = false) (h2 : decide (0 ≤ Lib.indexByte t.data.toList 10) = true) : Calls Tryd.prog 4 #[.string s, .string t] w (Ret w (.bool true)) := by
  have HA := Lib.hid (awake_c w hE)
  have HC := Lib.hid (fun w => Tryd.strings_Contains_one s 10 w)
  rw [h] at HC
  have HD := Lib.hid (fun w => Tryd.strings_Contains_one t 10 w)
  rw [h2] at HD
  have m1 : decide (400 < (s.size : Int)) = false := decide_eq_false (by omega)
  have m2 : decide (400 < (t.size : Int)) = false := decide_eq_false (by omega)
  clear hE h h0 h1 h2
  go_enter Tryd.func4, Tryd.ntmps4
  go_wp2_with fail
  refine HA.out.mono ?_
  rintro e w0 ⟨rfl, hx0⟩
  have HX0 := Lib.hid hx0
  clear hx0
  go_wp2_with fail
  refine (HC.out _).mono ?_
  rintro e w1 ⟨rfl, rfl⟩
  go_wp2_with fail
  refine (HD.out _).mono ?_
  rintro e w1 ⟨rfl, rfl⟩
  go_wp2_with fail
  go_ret
  exact Ret.mk rfl HX0.out
theorem places_other (s t : ByteArray) (w : World) (hE : Envw w) (h0 : s.size ≤ 400) (h1 : t.size ≤ 400) (hc : decide (0 ≤ Lib.indexByte s.data.toList 10) = false) (hd : decide (0 ≤ Lib.indexByte t.data.toList 10) = false) (h3 : errOf (parseO s.data.toList) ≠ 3) (h4 : errOf (parseO s.data.toList) ≠ 4) : Calls Tryd.prog 4 #[.string s, .string t] w (Ret w (.bool true)) := by
  have HP := Lib.hid (fun w' (hx : Ex w w') => parse_perr s w' (hE.ex hx))
  unfold PErr at HP
  have HA := Lib.hid (awake_c w hE)
  have HC := Lib.hid (fun w => Tryd.strings_Contains_one s 10 w)
  rw [hc] at HC
  have HD := Lib.hid (fun w => Tryd.strings_Contains_one t 10 w)
  rw [hd] at HD
  have m1 : decide (400 < (s.size : Int)) = false := decide_eq_false (by omega)
  have m2 : decide (400 < (t.size : Int)) = false := decide_eq_false (by omega)
  generalize errOf (parseO s.data.toList) = er at *
  have e3 : (er != 3) = true := by rw [bne_iff_ne]; exact h3
  have e4 : (er != 4) = true := by rw [bne_iff_ne]; exact h4
  have e5 : (er == 3) = false := beq_eq_false_iff_ne.2 h3
  have e6 : (er == 4) = false := beq_eq_false_iff_ne.2 h4
  clear hE h0 h1 hc hd h3 h4
  go_enter Tryd.func4, Tryd.ntmps4
  go_wp2_with fail
  refine HA.out.mono ?_
  rintro e w0 ⟨rfl, hx0⟩
  have HX0 := Lib.hid hx0
  clear hx0
  go_wp2_with fail
  refine (HC.out _).mono ?_
  rintro e w1 ⟨rfl, rfl⟩
  go_wp2_with fail
  refine (HD.out _).mono ?_
  rintro e w1 ⟨rfl, rfl⟩
  go_wp2_with fail
  refine (HP.out _ HX0.out).mono ?_
  rintro e w2 ⟨k, n, p, q, S, A, m, c, a1, a2, rfl, hx2⟩
  have HX2 := Lib.hid hx2
  clear hx2
  go_wp2_with fail
  go_ret
  exact Ret.mk rfl ((HX0.out.trans HX2.out).alloc _ |>.alloc _)
set_option maxRecDepth 20000 in
set_option maxHeartbeats 1600000 in
theorem places_end (s t : ByteArray) (w : World) (hE : Envw w) (h0 : s.size ≤ 400) (h1 : t.size ≤ 400) (hc : decide (0 ≤ Lib.indexByte s.data.toList 10) = false) (hd : decide (0 ≤ Lib.indexByte t.data.toList 10) = false) (c : Nat) (hP : parseO s.data.toList = .err (1, c) 4) (hcl : c = s.size + 1) : Calls Tryd.prog 4 #[.string s, .string t] w (Ret w (.bool true)) := by
  have HP : Hid (∀ w', Ex w w' → Calls Tryd.prog 6 #[.string s] w' (ParseR w' (.err (1, c) 4))) := fun w' hx => by
    have := parse_c s w' (hE.ex hx).1
    rw [hP] at this; exact this
  unfold ParseR at HP
  dsimp only at HP
  have HW := Lib.hid (fun w' (hx : Ex w w') => words_werr s w' (hE.ex hx) (by omega))
  obtain ⟨J1, hJ1⟩ : ∃ J : ByteArray, J = s ++ (⟨#[32]⟩ : ByteArray) := ⟨_, rfl⟩
  obtain ⟨J2, hJ2⟩ : ∃ J : ByteArray, J = J1 ++ t := ⟨_, rfl⟩
  have j1 : J1.size = s.size + 1 := by rw [hJ1, ByteArray.size_append]; rfl
  have j2 : J2.size = J1.size + t.size := by rw [hJ2, ByteArray.size_append]
  have a1 := add_ok hJ1 (by show s.size + 1 ≤ _; omega)
  have a2 := add_ok hJ2 (by omega)
  have HW2 := Lib.hid (fun w' (hx : Ex w w') => words_werr J2 w' (hE.ex hx) (by omega))
  have hJ : J2.data.toList = s.data.toList ++ 32 :: t.data.toList := by rw [hJ2, hJ1]; simp
  rw [hJ] at HW2
  unfold WErr at HW HW2
  have HA := Lib.hid (awake_c w hE)
  have HC := Lib.hid (fun w => Tryd.strings_Contains_one s 10 w)
  rw [hc] at HC
  have HD := Lib.hid (fun w => Tryd.strings_Contains_one t 10 w)
  rw [hd] at HD
  have m1 : decide (400 < (s.size : Int)) = false := decide_eq_false (by omega)
  have m2 : decide (400 < (t.size : Int)) = false := decide_eq_false (by omega)
  have f1 : decide ((c : Int) < 1) = false := decide_eq_false (by omega)
  have f1' : decide (c < 1) = false := decide_eq_false (by omega)
  have f2 : decide ((s.size : Int) + 1 < (c : Int)) = false := decide_eq_false (by omega)
  have f2' : decide (s.size + 1 < c) = false := decide_eq_false (by omega)
  have f3 : ((c : Int) != (s.size : Int) + 1) = false := by unfold bne; rw [beq_iff_eq.2 (by omega)]; rfl
  have f3' : ((c : Int) == (s.size : Int) + 1) = true := by rw [beq_iff_eq]; omega
  have f4 : (c != s.size + 1) = false := by unfold bne; rw [beq_iff_eq.2 (by omega)]; rfl
  have f4' : (c == s.size + 1) = true := by rw [beq_iff_eq]; omega
  generalize lexErr s.data.toList = er1 at *
  generalize lexErr (s.data.toList ++ 32 :: t.data.toList) = er2 at *
  clear hE hc hd hP hcl hJ1 hJ2 j1 j2 hJ
  go_enter Tryd.func4, Tryd.ntmps4
  go_wp2_with fail
  refine HA.out.mono ?_
  rintro e w0 ⟨rfl, hx0⟩
  have HX0 := Lib.hid hx0
  clear hx0
  go_wp2_with fail
  refine (HC.out _).mono ?_
  rintro e w1 ⟨rfl, rfl⟩
  go_wp2_with fail
  refine (HD.out _).mono ?_
  rintro e w1 ⟨rfl, rfl⟩
  go_wp2_with fail
  refine (HP.out _ HX0.out).mono ?_
  rintro e w2 ⟨rfl, hx2⟩
  have HX2 := Lib.hid ((HX0.out.trans hx2).alloc (.cells #[.int .i64 0, .int .i64 0, .int .i64 0, .int .i64 0, .string ⟨#[]⟩, .slice none 0 0] 25) |>.alloc (.cells #[.int .i64 ((1 : Nat) : Int), .int .i64 (c : Nat)] 27))
  have B2 : Hid (Blk ((w2.alloc (.cells #[.int .i64 0, .int .i64 0, .int .i64 0, .int .i64 0, .string ⟨#[]⟩, .slice none 0 0] 25)).alloc (.cells #[.int .i64 ((1 : Nat) : Int), .int .i64 (c : Nat)] 27)) (w2.heap.size + 1) 27 [.int .i64 ((1 : Nat) : Int), .int .i64 (c : Nat)]) := Blk.new' _ (by simp) _ _
  clear hx2
  go_wp2_with fail
  generalize w2.heap.size + 1 = nb at *
  refine (HW.out _ HX2.out).mono ?_
  rintro e w3 ⟨A, n, cc, b1, b2, rfl, hx3⟩
  have HX3 := Lib.hid (HX2.out.trans hx3)
  have B3 := Lib.hid (B2.out.ex hx3)
  clear hx3
  go_wp2_with fail
  refine (HW2.out _ (HX3.out.alloc _)).mono ?_
  rintro e w4 ⟨A', n', cc', b1', b2', rfl, hx4⟩
  have HX4 := Lib.hid ((HX3.out.alloc (.cells #[.int .i64 b1, .int .i64 b2] 27)).trans hx4)
  have B4 := Lib.hid ((B3.out.alloc (.cells #[.int .i64 b1, .int .i64 b2] 27)).ex hx4)
  clear hx4
  go_wp2_with fail
  go_ret
  exact Ret.mk rfl (HX4.out.alloc _)
set_option maxRecDepth 20000 in
set_option maxHeartbeats 1600000 in
theorem places_lex (s t : ByteArray) (w : World) (hE : Envw w) (h0 : s.size ≤ 400) (h1 : t.size ≤ 400) (hc : decide (0 ≤ Lib.indexByte s.data.toList 10) = false) (hd : decide (0 ≤ Lib.indexByte t.data.toList 10) = false) (c : Nat) (hP : parseO s.data.toList = .err (1, c) 3) (hc1 : 1 ≤ c) (hc2 : c ≤ s.size + 1) (q : Nat × Nat) (m : Nat) (hlx : lexL 1000 s.data.toList (1, 1) = .bad q m) : Calls Tryd.prog 4 #[.string s, .string t] w (Ret w (.bool true)) := by
  have HP : Hid (∀ w', Ex w w' → Calls Tryd.prog 6 #[.string s] w' (ParseR w' (.err (1, c) 3))) := fun w' hx => by
    have := parse_c s w' (hE.ex hx).1
    rw [hP] at this; exact this
  unfold ParseR at HP
  dsimp only at HP
  have HW := Lib.hid (fun w' (hx : Ex w w') => words_werr s w' (hE.ex hx) (by omega))
  obtain ⟨J1, hJ1⟩ : ∃ J : ByteArray, J = s ++ (⟨#[32]⟩ : ByteArray) := ⟨_, rfl⟩
  obtain ⟨J2, hJ2⟩ : ∃ J : ByteArray, J = J1 ++ t := ⟨_, rfl⟩
  have j1 : J1.size = s.size + 1 := by rw [hJ1, ByteArray.size_append]; rfl
  have j2 : J2.size = J1.size + t.size := by rw [hJ2, ByteArray.size_append]
  have a1 := add_ok hJ1 (by show s.size + 1 ≤ _; omega)
  have a2 := add_ok hJ2 (by omega)
  have HW2 := Lib.hid (fun w' (hx : Ex w w') => words_werr J2 w' (hE.ex hx) (by omega))
  have hJ : J2.data.toList = s.data.toList ++ 32 :: t.data.toList := by rw [hJ2, hJ1]; simp
  rw [hJ] at HW2
  have hl : lexErr s.data.toList = (m : Nat) := by unfold lexErr; rw [hlx]
  have hm := lex_bad_ne _ _ _ _ _ hlx
  rw [hl] at HW
  have g1 : ((m : Int) != 0) = true := by rw [bne_iff_ne]; omega
  have g2 : ((m : Int) == 0) = false := beq_eq_false_iff_ne.2 (by omega)
  clear hl hm hlx
  unfold WErr at HW HW2
  have HA := Lib.hid (awake_c w hE)
  have HC := Lib.hid (fun w => Tryd.strings_Contains_one s 10 w)
  rw [hc] at HC
  have HD := Lib.hid (fun w => Tryd.strings_Contains_one t 10 w)
  rw [hd] at HD
  have m1 : decide (400 < (s.size : Int)) = false := decide_eq_false (by omega)
  have m2 : decide (400 < (t.size : Int)) = false := decide_eq_false (by omega)
  have f1 : decide ((c : Int) < 1) = false := decide_eq_false (by omega)
  have f1' : decide (c < 1) = false := decide_eq_false (by omega)
  have f2 : decide ((s.size : Int) + 1 < (c : Int)) = false := decide_eq_false (by omega)
  have f2' : decide (s.size + 1 < c) = false := decide_eq_false (by omega)
  have e3 : ((3 : Int) == 4) = false := by decide
  generalize lexErr s.data.toList = er1 at *
  generalize lexErr (s.data.toList ++ 32 :: t.data.toList) = er2 at *
  clear hE hc hd hP hc1 hc2 hJ1 hJ2 j1 j2 hJ
  go_enter Tryd.func4, Tryd.ntmps4
  go_wp2_with fail
  refine HA.out.mono ?_
  rintro e w0 ⟨rfl, hx0⟩
  have HX0 := Lib.hid hx0
  clear hx0
  go_wp2_with fail
  refine (HC.out _).mono ?_
  rintro e w1 ⟨rfl, rfl⟩
  go_wp2_with fail
  refine (HD.out _).mono ?_
  rintro e w1 ⟨rfl, rfl⟩
  go_wp2_with fail
  refine (HP.out _ HX0.out).mono ?_
  rintro e w2 ⟨rfl, hx2⟩
  have HX2 := Lib.hid ((HX0.out.trans hx2).alloc (.cells #[.int .i64 0, .int .i64 0, .int .i64 0, .int .i64 0, .string ⟨#[]⟩, .slice none 0 0] 25) |>.alloc (.cells #[.int .i64 ((1 : Nat) : Int), .int .i64 (c : Nat)] 27))
  have B2 : Hid (Blk ((w2.alloc (.cells #[.int .i64 0, .int .i64 0, .int .i64 0, .int .i64 0, .string ⟨#[]⟩, .slice none 0 0] 25)).alloc (.cells #[.int .i64 ((1 : Nat) : Int), .int .i64 (c : Nat)] 27)) (w2.heap.size + 1) 27 [.int .i64 ((1 : Nat) : Int), .int .i64 (c : Nat)]) := Blk.new' _ (by simp) _ _
  clear hx2
  go_wp2_with fail
  generalize w2.heap.size + 1 = nb at *
  refine (HW.out _ HX2.out).mono ?_
  rintro e w3 ⟨A, n, cc, b1, b2, rfl, hx3⟩
  have HX3 := Lib.hid (HX2.out.trans hx3)
  have B3 := Lib.hid (B2.out.ex hx3)
  clear hx3
  go_wp2_with fail
  refine (HW2.out _ (HX3.out.alloc _)).mono ?_
  rintro e w4 ⟨A', n', cc', b1', b2', rfl, hx4⟩
  have HX4 := Lib.hid ((HX3.out.alloc (.cells #[.int .i64 b1, .int .i64 b2] 27)).trans hx4)
  have B4 := Lib.hid ((B3.out.alloc (.cells #[.int .i64 b1, .int .i64 b2] 27)).ex hx4)
  clear hx4
  go_wp2_with fail
  go_ret
  exact Ret.mk rfl (HX4.out.alloc _)
set_option maxRecDepth 20000 in
set_option maxHeartbeats 1600000 in
theorem places_bad (s t : ByteArray) (w : World) (hE : Envw w) (h0 : s.size ≤ 400) (h1 : t.size ≤ 400) (hc : decide (0 ≤ Lib.indexByte s.data.toList 10) = false) (hd : decide (0 ≤ Lib.indexByte t.data.toList 10) = false) (c : Nat) (hP : parseO s.data.toList = .err (1, c) 3) (hc1 : 1 ≤ c) (hc2 : c ≤ s.size + 1) (l : List Wd) (hlx : lexL 1000 s.data.toList (1, 1) = .ok l) (q : Nat × Nat) (m : Nat) (hlx2 : lexL 1000 (s.data.toList ++ 32 :: t.data.toList) (1, 1) = .bad q m) : Calls Tryd.prog 4 #[.string s, .string t] w (Ret w (.bool true)) := by
  have HP : Hid (∀ w', Ex w w' → Calls Tryd.prog 6 #[.string s] w' (ParseR w' (.err (1, c) 3))) := fun w' hx => by
    have := parse_c s w' (hE.ex hx).1
    rw [hP] at this; exact this
  unfold ParseR at HP
  dsimp only at HP
  have HW := Lib.hid (fun w' (hx : Ex w w') => words_werr s w' (hE.ex hx) (by omega))
  obtain ⟨J1, hJ1⟩ : ∃ J : ByteArray, J = s ++ (⟨#[32]⟩ : ByteArray) := ⟨_, rfl⟩
  obtain ⟨J2, hJ2⟩ : ∃ J : ByteArray, J = J1 ++ t := ⟨_, rfl⟩
  have j1 : J1.size = s.size + 1 := by rw [hJ1, ByteArray.size_append]; rfl
  have j2 : J2.size = J1.size + t.size := by rw [hJ2, ByteArray.size_append]
  have a1 := add_ok hJ1 (by show s.size + 1 ≤ _; omega)
  have a2 := add_ok hJ2 (by omega)
  have HW2 := Lib.hid (fun w' (hx : Ex w w') => words_werr J2 w' (hE.ex hx) (by omega))
  have hJ : J2.data.toList = s.data.toList ++ 32 :: t.data.toList := by rw [hJ2, hJ1]; simp
  rw [hJ] at HW2
  have hl : lexErr s.data.toList = 0 := by unfold lexErr; rw [hlx]
  have hl2 : lexErr (s.data.toList ++ 32 :: t.data.toList) = (m : Nat) := by unfold lexErr; rw [hlx2]
  have hm := lex_bad_ne _ _ _ _ _ hlx2
  rw [hl] at HW
  rw [hl2] at HW2
  have HP2 : Hid (∀ w', Ex w w' → Calls Tryd.prog 6 #[.string J2] w' (ParseR w' (.err q m))) := fun w' hx => by
    have := parse_c J2 w' (hE.ex hx).1
    have e : parseO J2.data.toList = .err q m := by
      unfold parseO
      rw [if_neg (by rw [← size_data]; omega), hJ, hlx2]
    rw [e] at this; exact this
  unfold ParseR at HP2
  dsimp only at HP2
  have g1 : ((m : Int) != 0) = true := by rw [bne_iff_ne]; omega
  have g2 : ((m : Int) == 0) = false := beq_eq_false_iff_ne.2 (by omega)
  clear hl hm hlx hl2 hlx2
  unfold WErr at HW HW2
  have HA := Lib.hid (awake_c w hE)
  have HC := Lib.hid (fun w => Tryd.strings_Contains_one s 10 w)
  rw [hc] at HC
  have HD := Lib.hid (fun w => Tryd.strings_Contains_one t 10 w)
  rw [hd] at HD
  have m1 : decide (400 < (s.size : Int)) = false := decide_eq_false (by omega)
  have m2 : decide (400 < (t.size : Int)) = false := decide_eq_false (by omega)
  have f1 : decide ((c : Int) < 1) = false := decide_eq_false (by omega)
  have f1' : decide (c < 1) = false := decide_eq_false (by omega)
  have f2 : decide ((s.size : Int) + 1 < (c : Int)) = false := decide_eq_false (by omega)
  have f2' : decide (s.size + 1 < c) = false := decide_eq_false (by omega)
  have e3 : ((3 : Int) == 4) = false := by decide
  generalize lexErr s.data.toList = er1 at *
  generalize lexErr (s.data.toList ++ 32 :: t.data.toList) = er2 at *
  clear hE hc hd hP hc1 hc2 hJ1 hJ2 j1 j2 hJ
  go_enter Tryd.func4, Tryd.ntmps4
  go_wp2_with fail
  refine HA.out.mono ?_
  rintro e w0 ⟨rfl, hx0⟩
  have HX0 := Lib.hid hx0
  clear hx0
  go_wp2_with fail
  refine (HC.out _).mono ?_
  rintro e w1 ⟨rfl, rfl⟩
  go_wp2_with fail
  refine (HD.out _).mono ?_
  rintro e w1 ⟨rfl, rfl⟩
  go_wp2_with fail
  refine (HP.out _ HX0.out).mono ?_
  rintro e w2 ⟨rfl, hx2⟩
  have HX2 := Lib.hid ((HX0.out.trans hx2).alloc (.cells #[.int .i64 0, .int .i64 0, .int .i64 0, .int .i64 0, .string ⟨#[]⟩, .slice none 0 0] 25) |>.alloc (.cells #[.int .i64 ((1 : Nat) : Int), .int .i64 (c : Nat)] 27))
  have B2 : Hid (Blk ((w2.alloc (.cells #[.int .i64 0, .int .i64 0, .int .i64 0, .int .i64 0, .string ⟨#[]⟩, .slice none 0 0] 25)).alloc (.cells #[.int .i64 ((1 : Nat) : Int), .int .i64 (c : Nat)] 27)) (w2.heap.size + 1) 27 [.int .i64 ((1 : Nat) : Int), .int .i64 (c : Nat)]) := Blk.new' _ (by simp) _ _
  clear hx2
  go_wp2_with fail
  generalize w2.heap.size + 1 = nb at *
  refine (HW.out _ HX2.out).mono ?_
  rintro e w3 ⟨A, n, cc, b1, b2, rfl, hx3⟩
  have HX3 := Lib.hid (HX2.out.trans hx3)
  have B3 := Lib.hid (B2.out.ex hx3)
  clear hx3
  go_wp2_with fail
  refine (HW2.out _ (HX3.out.alloc _)).mono ?_
  rintro e w4 ⟨A', n', cc', b1', b2', rfl, hx4⟩
  have HX4 := Lib.hid ((HX3.out.alloc (.cells #[.int .i64 b1, .int .i64 b2] 27)).trans hx4)
  have B4 := Lib.hid ((B3.out.alloc (.cells #[.int .i64 b1, .int .i64 b2] 27)).ex hx4)
  clear hx4
  go_wp2_with fail
  refine (HP2.out _ (HX4.out.alloc _)).mono ?_
  rintro e w5 ⟨rfl, hx5⟩
  have HX5 := Lib.hid ((HX4.out.alloc (.cells #[.int .i64 b1', .int .i64 b2'] 27)).trans hx5)
  clear hx5
  go_wp2_with fail
  go_ret
  exact Ret.mk (by first | rfl | simp) ((HX5.out.alloc _).alloc _)
set_option maxRecDepth 20000 in
set_option maxHeartbeats 1600000 in
theorem places_ok (s t : ByteArray) (w : World) (hE : Envw w) (h0 : s.size ≤ 400) (h1 : t.size ≤ 400) (hc : decide (0 ≤ Lib.indexByte s.data.toList 10) = false) (hd : decide (0 ≤ Lib.indexByte t.data.toList 10) = false) (c : Nat) (hP : parseO s.data.toList = .err (1, c) 3) (hc1 : 1 ≤ c) (hc2 : c ≤ s.size + 1) (l l2 : List Wd) (hlx : lexL 1000 s.data.toList (1, 1) = .ok l) (hlx2 : lexL 1000 (s.data.toList ++ 32 :: t.data.toList) (1, 1) = .ok l2) : Calls Tryd.prog 4 #[.string s, .string t] w (Ret w (.bool true)) := by
  have HP : Hid (∀ w', Ex w w' → Calls Tryd.prog 6 #[.string s] w' (ParseR w' (.err (1, c) 3))) := fun w' hx => by
    have := parse_c s w' (hE.ex hx).1
    rw [hP] at this; exact this
  unfold ParseR at HP
  dsimp only at HP
  have HW := Lib.hid (fun w' (hx : Ex w w') => words_werr s w' (hE.ex hx) (by omega))
  obtain ⟨J1, hJ1⟩ : ∃ J : ByteArray, J = s ++ (⟨#[32]⟩ : ByteArray) := ⟨_, rfl⟩
  obtain ⟨J2, hJ2⟩ : ∃ J : ByteArray, J = J1 ++ t := ⟨_, rfl⟩
  have j1 : J1.size = s.size + 1 := by rw [hJ1, ByteArray.size_append]; rfl
  have j2 : J2.size = J1.size + t.size := by rw [hJ2, ByteArray.size_append]
  have a1 := add_ok hJ1 (by show s.size + 1 ≤ _; omega)
  have a2 := add_ok hJ2 (by omega)
  have HW2 := Lib.hid (fun w' (hx : Ex w w') => words_werr J2 w' (hE.ex hx) (by omega))
  have hJ : J2.data.toList = s.data.toList ++ 32 :: t.data.toList := by rw [hJ2, hJ1]; simp
  rw [hJ] at HW2
  have hl : lexErr s.data.toList = 0 := by unfold lexErr; rw [hlx]
  have hl2 : lexErr (s.data.toList ++ 32 :: t.data.toList) = 0 := by unfold lexErr; rw [hlx2]
  rw [hl] at HW
  rw [hl2] at HW2
  have HP2 : Hid (∀ w', Ex w w' → Calls Tryd.prog 6 #[.string J2] w' (ParseR w' (.err (1, c) 3))) := fun w' hx => by
    have := parse_c J2 w' (hE.ex hx).1
    have e : parseO J2.data.toList = .err (1, c) 3 := by
      rw [hJ]
      refine places_same (.inr ⟨32, _, rfl, .inl (by decide)⟩) ?_ hP hlx hlx2
      rw [List.length_append, List.length_cons, ← size_data, ← size_data]; omega
    rw [e] at this; exact this
  unfold ParseR at HP2
  dsimp only at HP2
  clear hl hlx hl2 hlx2
  unfold WErr at HW HW2
  have HA := Lib.hid (awake_c w hE)
  have HC := Lib.hid (fun w => Tryd.strings_Contains_one s 10 w)
  rw [hc] at HC
  have HD := Lib.hid (fun w => Tryd.strings_Contains_one t 10 w)
  rw [hd] at HD
  have m1 : decide (400 < (s.size : Int)) = false := decide_eq_false (by omega)
  have m2 : decide (400 < (t.size : Int)) = false := decide_eq_false (by omega)
  have f1 : decide ((c : Int) < 1) = false := decide_eq_false (by omega)
  have f1' : decide (c < 1) = false := decide_eq_false (by omega)
  have f2 : decide ((s.size : Int) + 1 < (c : Int)) = false := decide_eq_false (by omega)
  have f2' : decide (s.size + 1 < c) = false := decide_eq_false (by omega)
  have e3 : ((3 : Int) == 4) = false := by decide
  generalize lexErr s.data.toList = er1 at *
  generalize lexErr (s.data.toList ++ 32 :: t.data.toList) = er2 at *
  clear hE hc hd hP hc1 hc2 hJ1 hJ2 j1 j2 hJ
  go_enter Tryd.func4, Tryd.ntmps4
  go_wp2_with fail
  refine HA.out.mono ?_
  rintro e w0 ⟨rfl, hx0⟩
  have HX0 := Lib.hid hx0
  clear hx0
  go_wp2_with fail
  refine (HC.out _).mono ?_
  rintro e w1 ⟨rfl, rfl⟩
  go_wp2_with fail
  refine (HD.out _).mono ?_
  rintro e w1 ⟨rfl, rfl⟩
  go_wp2_with fail
  refine (HP.out _ HX0.out).mono ?_
  rintro e w2 ⟨rfl, hx2⟩
  have HX2 := Lib.hid ((HX0.out.trans hx2).alloc (.cells #[.int .i64 0, .int .i64 0, .int .i64 0, .int .i64 0, .string ⟨#[]⟩, .slice none 0 0] 25) |>.alloc (.cells #[.int .i64 ((1 : Nat) : Int), .int .i64 (c : Nat)] 27))
  have B2 : Hid (Blk ((w2.alloc (.cells #[.int .i64 0, .int .i64 0, .int .i64 0, .int .i64 0, .string ⟨#[]⟩, .slice none 0 0] 25)).alloc (.cells #[.int .i64 ((1 : Nat) : Int), .int .i64 (c : Nat)] 27)) (w2.heap.size + 1) 27 [.int .i64 ((1 : Nat) : Int), .int .i64 (c : Nat)]) := Blk.new' _ (by simp) _ _
  clear hx2
  go_wp2_with fail
  generalize w2.heap.size + 1 = nb at *
  refine (HW.out _ HX2.out).mono ?_
  rintro e w3 ⟨A, n, cc, b1, b2, rfl, hx3⟩
  have HX3 := Lib.hid (HX2.out.trans hx3)
  have B3 := Lib.hid (B2.out.ex hx3)
  clear hx3
  go_wp2_with fail
  refine (HW2.out _ (HX3.out.alloc _)).mono ?_
  rintro e w4 ⟨A', n', cc', b1', b2', rfl, hx4⟩
  have HX4 := Lib.hid ((HX3.out.alloc (.cells #[.int .i64 b1, .int .i64 b2] 27)).trans hx4)
  have B4 := Lib.hid ((B3.out.alloc (.cells #[.int .i64 b1, .int .i64 b2] 27)).ex hx4)
  clear hx4
  go_wp2_with fail
  refine (HP2.out _ (HX4.out.alloc _)).mono ?_
  rintro e w5 ⟨rfl, hx5⟩
  have HX5 := Lib.hid ((HX4.out.alloc (.cells #[.int .i64 b1', .int .i64 b2'] 27)).trans hx5)
  have b5 := (B4.out.alloc (.cells #[.int .i64 b1', .int .i64 b2'] 27)).ex hx5
  have l5 := b5.lt
  have c50 : w5.cell? ⟨nb, 0, none⟩ = some (.int .i64 1) := b5.cell 0
  have c51 : w5.cell? ⟨nb, 1, none⟩ = some (.int .i64 (c : Nat)) := b5.cell 1
  clear hx5 b5
  go_wp2_with fail
  go_ret
  exact Ret.mk (by first | rfl | simp) ((HX5.out.alloc _).alloc _)
theorem places_law_c (s t : ByteArray) (w : World) (hE : Envw w) : Calls Tryd.prog 4 #[.string s, .string t] w (Ret w (.bool true)) := by
  by_cases h0 : 400 < s.size
  · exact places_long1 s t w hE h0
  by_cases h1 : 400 < t.size
  · exact places_long2 s t w hE (by omega) h1
  rcases has_cases s with hc | ⟨hc, hs⟩
  · exact places_nl1 s t w hE (by omega) (by omega) hc
  rcases has_cases t with hd | ⟨hd, ht⟩
  · exact places_nl2 s t w hE (by omega) (by omega) hc hd
  by_cases h3 : errOf (parseO s.data.toList) = 3
  · cases hP : parseO s.data.toList with
    | tree x => rw [hP] at h3; cases h3
    | err p n =>
      rw [hP] at h3
      have hn : n = 3 := by have : ((n : Nat) : Int) = 3 := h3; omega
      subst hn
      obtain ⟨⟨g1, g2, g3⟩, _⟩ := places_at hs hP (.inl rfl)
      obtain ⟨p1, c⟩ := p
      dsimp only at g1 g2 g3
      subst g1
      rw [← size_data] at g3
      cases hlx : lexL 1000 s.data.toList (1, 1) with
      | bad q m => exact places_lex s t w hE (by omega) (by omega) hc hd c hP g2 (by omega) q m hlx
      | ok l =>
        cases hlx2 : lexL 1000 (s.data.toList ++ 32 :: t.data.toList) (1, 1) with
        | bad q m => exact places_bad s t w hE (by omega) (by omega) hc hd c hP g2 (by omega) l hlx q m hlx2
        | ok l2 => exact places_ok s t w hE (by omega) (by omega) hc hd c hP g2 (by omega) l l2 hlx hlx2
  by_cases h4 : errOf (parseO s.data.toList) = 4
  · cases hP : parseO s.data.toList with
    | tree x => rw [hP] at h4; cases h4
    | err p n =>
      rw [hP] at h4
      have hn : n = 4 := by have : ((n : Nat) : Int) = 4 := h4; omega
      subst hn
      obtain ⟨⟨g1, g2, g3⟩, g4⟩ := places_at hs hP (.inr rfl)
      have g5 := g4 rfl
      obtain ⟨p1, c⟩ := p
      dsimp only at g1 g2 g3 g5
      subst g1
      rw [← size_data] at g3 g5
      exact places_end s t w hE (by omega) (by omega) hc hd c hP (by omega)
  · exact places_other s t w hE (by omega) (by omega) hc hd h3 h4
end Go.Proofs.YthjalkonlcjhnaaDoor
