/-
  Texts cut at a byte, words for names, and the functions of a kind, walked.
  Conditions: strings no longer than any Go string.
-/
import Derived.Test.YthjalkonlcjhnaaGreatDoorQn
import Derived.Lib.IndexLaws
namespace Go.Proofs.YthjalkonlcjhnaaGreatDoor
open Go.RowKit
theorem isName_any (s : ByteArray) (w : World) (h : s.size ≤ maxLen) : Calls Tryz.prog 33 #[.string s] w (Ret w (.bool (nmB s.data.toList))) := by
  by_cases h2 : s.size ≤ 20000
  · exact isName_c s w h2
  · unfold maxLen at h
    rw [name_long s (by omega)]
    have f1 : s.toList.isEmpty = false := by rw [nonempty_iff]; exact decide_eq_false (by omega)
    have f2 : decide ((s.size : Int) ≤ 16) = false := decide_eq_false (by omega)
    clear h2
    go_enter Tryz.func33, Tryz.ntmps33
    go_wp2
    go_ret
    exact Ret.mk rfl (Ex.refl _)
/-- a word for names -/
def wordB (s : ByteArray) : Bool := nmB s.data.toList && !keyB s
theorem word_n (s : ByteArray) (w : World) (h : s.size ≤ maxLen) : Calls Tryz.prog 43 #[.string s] w (Ret w (.bool (wordB s))) := by
  have HN := Lib.hid (fun w => isName_any s w h)
  have HK := Lib.hid (isKey_c s)
  unfold wordB
  generalize nmB s.data.toList = a at *
  generalize keyB s = b at *
  clear h
  cases a
  · go_enter Tryz.func43, Tryz.ntmps43
    go_wp2_with fail
    refine (HN.out _).mono ?_
    rintro e w' ⟨rfl, z, rfl⟩
    go_wp2_with fail
    go_ret
    exact Ret.mk rfl ((Ex.refl _).ext _)
  · go_enter Tryz.func43, Tryz.ntmps43
    go_wp2_with fail
    refine (HN.out _).mono ?_
    rintro e w' ⟨rfl, z, rfl⟩
    go_wp2_with fail
    refine (HK.out _).mono ?_
    rintro e w' ⟨rfl, z2, rfl⟩
    go_wp2_with fail
    go_ret
    exact Ret.mk (by simp) (((Ex.refl _).ext _).ext _)
/-- the first place of a byte, and the text cut there -/
def cutA (s : ByteArray) (n : Nat) : ByteArray := s.extract 0 n
def cutB (s : ByteArray) (n : Nat) : ByteArray := s.extract (n + 1) s.size
theorem index_cases (s : ByteArray) (c : UInt8) : Lib.indexByte s.data.toList c = -1 ∨ ∃ n : Nat, n < s.size ∧ Lib.indexByte s.data.toList c = n := by
  have h := Lib.indexByte_ge s.data.toList c
  by_cases h1 : Lib.indexByte s.data.toList c = -1
  · exact .inl h1
  · right
    obtain ⟨n, hn⟩ : ∃ n : Nat, Lib.indexByte s.data.toList c = n := ⟨(Lib.indexByte s.data.toList c).toNat, by omega⟩
    refine ⟨n, ?_, hn⟩
    have h2 := (Lib.indexByte_some hn).1
    rw [size_data]
    exact (List.getElem?_eq_some_iff.1 h2).1
theorem cut_in (s : ByteArray) (c : UInt8) (n : Nat) (w : World) (h : s.size ≤ maxLen) (hn : n < s.size) (hi : Lib.indexByte s.data.toList c = n) :
    Calls Tryz.prog 73 #[.string s, .string ⟨#[c]⟩] w (Ret w (.tuple #[.string (cutA s n), .string (cutB s n), .bool true])) := by
  have HI := Lib.hid (fun w => Tryz.stringslite_Index_one s c w)
  rw [hi] at HI
  unfold cutA cutB
  unfold maxLen at h
  have hw : IntKind.i64.wrap ((n : Int) + 1) = (n : Int) + 1 := by rw [IntWalk.i64_in _ (by omega)]
  have m1 : (n : Int) + 1 ≤ (s.size : Int) := by omega
  have m2 : (0 : Int) ≤ (n : Int) + 1 := by omega
  have m3 : (n : Int) ≤ (s.size : Int) := by omega
  have m4 : ((n : Int) + 1).toNat = n + 1 := by omega
  have hs : (⟨#[c]⟩ : ByteArray).size = 1 := rfl
  have HC : Hid (∀ w, Calls Tryz.prog 103 #[.string s, .string ⟨#[c]⟩] w (Ret w (.tuple #[.string (s.extract 0 n), .string (s.extract (n + 1) s.size), .bool true]))) := fun w => by
    clear hi
    go_enter Tryz.func103, Tryz.ntmps103
    go_wp2_with fail
    refine (HI.out _).mono ?_
    rintro e w' ⟨rfl, rfl⟩
    go_wp2_with fail
    refine wp_region_ext (by kernel_rfl) (by kernel_rfl) ?_
    repeat (go_big_quiet_step (fail))
    refine wpQuiet_end (fun z => ?_)
    go_wp2_with fail
    go_ret3
    exact ⟨rfl, ((Ex.refl _).ext _)⟩
  clear hi hw m1 m2 m3 m4 hs HI
  go_enter Tryz.func73, Tryz.ntmps73
  go_wp2_with fail
  refine (HC.out _).mono ?_
  rintro e w' ⟨rfl, z, rfl⟩
  go_wp2_with fail
  go_ret3
  exact ⟨rfl, ((Ex.refl _).ext _)⟩
theorem cut_out (s : ByteArray) (c : UInt8) (w : World) (hi : Lib.indexByte s.data.toList c = -1) :
    Calls Tryz.prog 73 #[.string s, .string ⟨#[c]⟩] w (Ret w (.tuple #[.string s, .string ⟨#[]⟩, .bool false])) := by
  have HI := Lib.hid (fun w => Tryz.stringslite_Index_one s c w)
  rw [hi] at HI
  have HC : Hid (∀ w, Calls Tryz.prog 103 #[.string s, .string ⟨#[c]⟩] w (Ret w (.tuple #[.string s, .string ⟨#[]⟩, .bool false]))) := fun w => by
    clear hi
    go_enter Tryz.func103, Tryz.ntmps103
    go_wp2_with fail
    refine (HI.out _).mono ?_
    rintro e w' ⟨rfl, rfl⟩
    go_wp2_with fail
    go_ret3
    exact ⟨rfl, Ex.refl _⟩
  clear hi HI
  go_enter Tryz.func73, Tryz.ntmps73
  go_wp2_with fail
  refine (HC.out _).mono ?_
  rintro e w' ⟨rfl, z, rfl⟩
  go_wp2_with fail
  go_ret3
  exact ⟨rfl, ((Ex.refl _).ext _)⟩
/-- two words for names with a byte between them -/
def twoB (s : ByteArray) (c : UInt8) : Bool :=
  if Lib.indexByte s.data.toList c = -1 then false else wordB (cutA s (Lib.indexByte s.data.toList c).toNat) && wordB (cutB s (Lib.indexByte s.data.toList c).toNat)
theorem cut_len (s : ByteArray) (n : Nat) : (cutA s n).size ≤ s.size ∧ (cutB s n).size ≤ s.size := by
  unfold cutA cutB
  simp only [ByteArray.size_extract]
  omega
theorem two_c (s : ByteArray) (c : UInt8) (w : World) (h : s.size ≤ maxLen) : Calls Tryz.prog 42 #[.string s, .string ⟨#[c]⟩] w (Ret w (.bool (twoB s c))) := by
  unfold twoB
  rcases index_cases s c with hi | ⟨n, hn, hi⟩
  · rw [if_pos hi]
    have HC := Lib.hid (fun w => cut_out s c w hi)
    clear h hi
    go_enter Tryz.func42, Tryz.ntmps42
    go_wp2_with fail
    refine (HC.out _).mono ?_
    rintro e w' ⟨rfl, z, rfl⟩
    go_wp2_with fail
    go_ret
    exact Ret.mk rfl ((Ex.refl _).ext _)
  · rw [if_neg (by omega), hi, Int.toNat_natCast]
    obtain ⟨l1, l2⟩ := cut_len s n
    have HC := Lib.hid (fun w => cut_in s c n w h hn hi)
    have H1 := Lib.hid (fun w => word_n (cutA s n) w (by omega))
    have H2 := Lib.hid (fun w => word_n (cutB s n) w (by omega))
    generalize cutA s n = a at *
    generalize cutB s n = b at *
    generalize wordB a = p at *
    generalize wordB b = q at *
    clear h hi l1 l2 hn
    cases p
    · go_enter Tryz.func42, Tryz.ntmps42
      go_wp2_with fail
      refine (HC.out _).mono ?_
      rintro e w' ⟨rfl, z, rfl⟩
      go_wp2_with fail
      refine (H1.out _).mono ?_
      rintro e w' ⟨rfl, z2, rfl⟩
      go_wp2_with fail
      go_ret
      exact Ret.mk rfl (((Ex.refl _).ext _).ext _)
    · go_enter Tryz.func42, Tryz.ntmps42
      go_wp2_with fail
      refine (HC.out _).mono ?_
      rintro e w' ⟨rfl, z, rfl⟩
      go_wp2_with fail
      refine (H1.out _).mono ?_
      rintro e w' ⟨rfl, z2, rfl⟩
      go_wp2_with fail
      refine (H2.out _).mono ?_
      rintro e w' ⟨rfl, z3, rfl⟩
      go_wp2_with fail
      go_ret
      exact Ret.mk (by simp) ((((Ex.refl _).ext _).ext _).ext _)
/-! the functions of a kind -/
def partsI (k : Int) : Int := if k = 1 ∨ k = 2 ∨ k = 3 ∨ k = 4 ∨ k = 13 ∨ k = 14 then 0 else if k = 5 ∨ k = 15 ∨ k = 18 ∨ k = 19 ∨ k = 20 ∨ k = 21 then 1 else if k = 6 ∨ k = 7 ∨ k = 8 ∨ k = 9 ∨ k = 10 ∨ k = 11 ∨ k = 12 ∨ k = 16 ∨ k = 17 then 2 else (-1)
set_option maxHeartbeats 1600000 in
theorem parts_k (k : Int) (w : World) : Calls Tryz.prog 54 #[.int .i64 k] w (Ret w (.int .i64 (partsI k))) := by
  by_cases hk : 1 ≤ k ∧ k ≤ 21
  · have hc : k = 1 ∨ k = 2 ∨ k = 3 ∨ k = 4 ∨ k = 5 ∨ k = 6 ∨ k = 7 ∨ k = 8 ∨ k = 9 ∨ k = 10 ∨ k = 11 ∨ k = 12 ∨ k = 13 ∨ k = 14 ∨ k = 15 ∨ k = 16 ∨ k = 17 ∨ k = 18 ∨ k = 19 ∨ k = 20 ∨ k = 21 := by omega
    clear hk
    rcases hc with rfl | rfl | rfl | rfl | rfl | rfl | rfl | rfl | rfl | rfl | rfl | rfl | rfl | rfl | rfl | rfl | rfl | rfl | rfl | rfl | rfl
    all_goals
      go_enter Tryz.func54, Tryz.ntmps54
      go_wp2_with fail
      go_ret
      exact Ret.mk (by simp [partsI]) (Ex.refl _)
  · have hn : partsI k = (-1) := by unfold partsI; rw [if_neg (show ¬ (k = 1 ∨ k = 2 ∨ k = 3 ∨ k = 4 ∨ k = 13 ∨ k = 14) by omega), if_neg (show ¬ (k = 5 ∨ k = 15 ∨ k = 18 ∨ k = 19 ∨ k = 20 ∨ k = 21) by omega), if_neg (show ¬ (k = 6 ∨ k = 7 ∨ k = 8 ∨ k = 9 ∨ k = 10 ∨ k = 11 ∨ k = 12 ∨ k = 16 ∨ k = 17) by omega)]
    rw [hn]
    have e1 : (k == 1) = false := beq_eq_false_iff_ne.2 (by omega)
    have e2 : (k == 2) = false := beq_eq_false_iff_ne.2 (by omega)
    have e3 : (k == 3) = false := beq_eq_false_iff_ne.2 (by omega)
    have e4 : (k == 4) = false := beq_eq_false_iff_ne.2 (by omega)
    have e5 : (k == 5) = false := beq_eq_false_iff_ne.2 (by omega)
    have e6 : (k == 6) = false := beq_eq_false_iff_ne.2 (by omega)
    have e7 : (k == 7) = false := beq_eq_false_iff_ne.2 (by omega)
    have e8 : (k == 8) = false := beq_eq_false_iff_ne.2 (by omega)
    have e9 : (k == 9) = false := beq_eq_false_iff_ne.2 (by omega)
    have e10 : (k == 10) = false := beq_eq_false_iff_ne.2 (by omega)
    have e11 : (k == 11) = false := beq_eq_false_iff_ne.2 (by omega)
    have e12 : (k == 12) = false := beq_eq_false_iff_ne.2 (by omega)
    have e13 : (k == 13) = false := beq_eq_false_iff_ne.2 (by omega)
    have e14 : (k == 14) = false := beq_eq_false_iff_ne.2 (by omega)
    have e15 : (k == 15) = false := beq_eq_false_iff_ne.2 (by omega)
    have e16 : (k == 16) = false := beq_eq_false_iff_ne.2 (by omega)
    have e17 : (k == 17) = false := beq_eq_false_iff_ne.2 (by omega)
    have e18 : (k == 18) = false := beq_eq_false_iff_ne.2 (by omega)
    have e19 : (k == 19) = false := beq_eq_false_iff_ne.2 (by omega)
    have e20 : (k == 20) = false := beq_eq_false_iff_ne.2 (by omega)
    have e21 : (k == 21) = false := beq_eq_false_iff_ne.2 (by omega)
    clear hk hn
    go_enter Tryz.func54, Tryz.ntmps54
    go_wp2_with fail
    go_ret
    exact Ret.mk rfl (Ex.refl _)
def levelI (k : Int) : Nat := if k = 17 then 0 else if k = 16 then 1 else if k = 15 ∨ k = 18 ∨ k = 19 ∨ k = 20 ∨ k = 21 then 2 else if k = 9 ∨ k = 10 ∨ k = 11 ∨ k = 12 then 3 else if k = 6 ∨ k = 7 then 4 else if k = 8 then 5 else if k = 5 then 6 else 7
set_option maxHeartbeats 1600000 in
theorem level_k (k : Int) (w : World) : Calls Tryz.prog 67 #[.int .i64 k] w (Ret w (.int .i64 (levelI k : Nat))) := by
  by_cases hk : 1 ≤ k ∧ k ≤ 21
  · have hc : k = 1 ∨ k = 2 ∨ k = 3 ∨ k = 4 ∨ k = 5 ∨ k = 6 ∨ k = 7 ∨ k = 8 ∨ k = 9 ∨ k = 10 ∨ k = 11 ∨ k = 12 ∨ k = 13 ∨ k = 14 ∨ k = 15 ∨ k = 16 ∨ k = 17 ∨ k = 18 ∨ k = 19 ∨ k = 20 ∨ k = 21 := by omega
    clear hk
    rcases hc with rfl | rfl | rfl | rfl | rfl | rfl | rfl | rfl | rfl | rfl | rfl | rfl | rfl | rfl | rfl | rfl | rfl | rfl | rfl | rfl | rfl
    all_goals
      go_enter Tryz.func67, Tryz.ntmps67
      go_wp2_with fail
      go_ret
      exact Ret.mk (by simp [levelI]) (Ex.refl _)
  · have hn : levelI k = 7 := by unfold levelI; rw [if_neg (show ¬ (k = 17) by omega), if_neg (show ¬ (k = 16) by omega), if_neg (show ¬ (k = 15 ∨ k = 18 ∨ k = 19 ∨ k = 20 ∨ k = 21) by omega), if_neg (show ¬ (k = 9 ∨ k = 10 ∨ k = 11 ∨ k = 12) by omega), if_neg (show ¬ (k = 6 ∨ k = 7) by omega), if_neg (show ¬ (k = 8) by omega), if_neg (show ¬ (k = 5) by omega)]
    rw [hn]
    have e1 : (k == 1) = false := beq_eq_false_iff_ne.2 (by omega)
    have e2 : (k == 2) = false := beq_eq_false_iff_ne.2 (by omega)
    have e3 : (k == 3) = false := beq_eq_false_iff_ne.2 (by omega)
    have e4 : (k == 4) = false := beq_eq_false_iff_ne.2 (by omega)
    have e5 : (k == 5) = false := beq_eq_false_iff_ne.2 (by omega)
    have e6 : (k == 6) = false := beq_eq_false_iff_ne.2 (by omega)
    have e7 : (k == 7) = false := beq_eq_false_iff_ne.2 (by omega)
    have e8 : (k == 8) = false := beq_eq_false_iff_ne.2 (by omega)
    have e9 : (k == 9) = false := beq_eq_false_iff_ne.2 (by omega)
    have e10 : (k == 10) = false := beq_eq_false_iff_ne.2 (by omega)
    have e11 : (k == 11) = false := beq_eq_false_iff_ne.2 (by omega)
    have e12 : (k == 12) = false := beq_eq_false_iff_ne.2 (by omega)
    have e13 : (k == 13) = false := beq_eq_false_iff_ne.2 (by omega)
    have e14 : (k == 14) = false := beq_eq_false_iff_ne.2 (by omega)
    have e15 : (k == 15) = false := beq_eq_false_iff_ne.2 (by omega)
    have e16 : (k == 16) = false := beq_eq_false_iff_ne.2 (by omega)
    have e17 : (k == 17) = false := beq_eq_false_iff_ne.2 (by omega)
    have e18 : (k == 18) = false := beq_eq_false_iff_ne.2 (by omega)
    have e19 : (k == 19) = false := beq_eq_false_iff_ne.2 (by omega)
    have e20 : (k == 20) = false := beq_eq_false_iff_ne.2 (by omega)
    have e21 : (k == 21) = false := beq_eq_false_iff_ne.2 (by omega)
    clear hk hn
    go_enter Tryz.func67, Tryz.ntmps67
    go_wp2_with fail
    go_ret
    exact Ret.mk rfl (Ex.refl _)
def beforeS (k : Int) : ByteArray := if k = 15 then ⟨#[110, 111, 116, 32]⟩ else if k = 18 then ⟨#[69, 70, 32]⟩ else if k = 19 then ⟨#[65, 70, 32]⟩ else if k = 20 then ⟨#[69, 71, 32]⟩ else if k = 21 then ⟨#[65, 71, 32]⟩ else ⟨#[45]⟩
set_option maxHeartbeats 1600000 in
theorem before_k (k : Int) (w : World) : Calls Tryz.prog 69 #[.int .i64 k] w (Ret w (.string (beforeS k))) := by
  by_cases hk : 1 ≤ k ∧ k ≤ 21
  · have hc : k = 1 ∨ k = 2 ∨ k = 3 ∨ k = 4 ∨ k = 5 ∨ k = 6 ∨ k = 7 ∨ k = 8 ∨ k = 9 ∨ k = 10 ∨ k = 11 ∨ k = 12 ∨ k = 13 ∨ k = 14 ∨ k = 15 ∨ k = 16 ∨ k = 17 ∨ k = 18 ∨ k = 19 ∨ k = 20 ∨ k = 21 := by omega
    clear hk
    rcases hc with rfl | rfl | rfl | rfl | rfl | rfl | rfl | rfl | rfl | rfl | rfl | rfl | rfl | rfl | rfl | rfl | rfl | rfl | rfl | rfl | rfl
    all_goals
      go_enter Tryz.func69, Tryz.ntmps69
      go_wp2_with fail
      go_ret
      exact Ret.mk (by simp [beforeS]) (Ex.refl _)
  · have hn : beforeS k = ⟨#[45]⟩ := by unfold beforeS; rw [if_neg (show ¬ (k = 15) by omega), if_neg (show ¬ (k = 18) by omega), if_neg (show ¬ (k = 19) by omega), if_neg (show ¬ (k = 20) by omega), if_neg (show ¬ (k = 21) by omega)]
    rw [hn]
    have e1 : (k == 1) = false := beq_eq_false_iff_ne.2 (by omega)
    have e2 : (k == 2) = false := beq_eq_false_iff_ne.2 (by omega)
    have e3 : (k == 3) = false := beq_eq_false_iff_ne.2 (by omega)
    have e4 : (k == 4) = false := beq_eq_false_iff_ne.2 (by omega)
    have e5 : (k == 5) = false := beq_eq_false_iff_ne.2 (by omega)
    have e6 : (k == 6) = false := beq_eq_false_iff_ne.2 (by omega)
    have e7 : (k == 7) = false := beq_eq_false_iff_ne.2 (by omega)
    have e8 : (k == 8) = false := beq_eq_false_iff_ne.2 (by omega)
    have e9 : (k == 9) = false := beq_eq_false_iff_ne.2 (by omega)
    have e10 : (k == 10) = false := beq_eq_false_iff_ne.2 (by omega)
    have e11 : (k == 11) = false := beq_eq_false_iff_ne.2 (by omega)
    have e12 : (k == 12) = false := beq_eq_false_iff_ne.2 (by omega)
    have e13 : (k == 13) = false := beq_eq_false_iff_ne.2 (by omega)
    have e14 : (k == 14) = false := beq_eq_false_iff_ne.2 (by omega)
    have e15 : (k == 15) = false := beq_eq_false_iff_ne.2 (by omega)
    have e16 : (k == 16) = false := beq_eq_false_iff_ne.2 (by omega)
    have e17 : (k == 17) = false := beq_eq_false_iff_ne.2 (by omega)
    have e18 : (k == 18) = false := beq_eq_false_iff_ne.2 (by omega)
    have e19 : (k == 19) = false := beq_eq_false_iff_ne.2 (by omega)
    have e20 : (k == 20) = false := beq_eq_false_iff_ne.2 (by omega)
    have e21 : (k == 21) = false := beq_eq_false_iff_ne.2 (by omega)
    clear hk hn
    go_enter Tryz.func69, Tryz.ntmps69
    go_wp2_with fail
    go_ret
    exact Ret.mk rfl (Ex.refl _)
def betweenS (k : Int) : ByteArray := if k = 17 then ⟨#[32, 111, 114, 32]⟩ else if k = 16 then ⟨#[32, 97, 110, 100, 32]⟩ else if k = 9 then ⟨#[32, 61, 32]⟩ else if k = 10 then ⟨#[32, 33, 61, 32]⟩ else if k = 11 then ⟨#[32, 60, 32]⟩ else if k = 12 then ⟨#[32, 60, 61, 32]⟩ else if k = 6 then ⟨#[32, 43, 32]⟩ else if k = 7 then ⟨#[32, 45, 32]⟩ else ⟨#[32, 42, 32]⟩
set_option maxHeartbeats 1600000 in
theorem between_k (k : Int) (w : World) : Calls Tryz.prog 70 #[.int .i64 k] w (Ret w (.string (betweenS k))) := by
  by_cases hk : 1 ≤ k ∧ k ≤ 21
  · have hc : k = 1 ∨ k = 2 ∨ k = 3 ∨ k = 4 ∨ k = 5 ∨ k = 6 ∨ k = 7 ∨ k = 8 ∨ k = 9 ∨ k = 10 ∨ k = 11 ∨ k = 12 ∨ k = 13 ∨ k = 14 ∨ k = 15 ∨ k = 16 ∨ k = 17 ∨ k = 18 ∨ k = 19 ∨ k = 20 ∨ k = 21 := by omega
    clear hk
    rcases hc with rfl | rfl | rfl | rfl | rfl | rfl | rfl | rfl | rfl | rfl | rfl | rfl | rfl | rfl | rfl | rfl | rfl | rfl | rfl | rfl | rfl
    all_goals
      go_enter Tryz.func70, Tryz.ntmps70
      go_wp2_with fail
      go_ret
      exact Ret.mk (by simp [betweenS]) (Ex.refl _)
  · have hn : betweenS k = ⟨#[32, 42, 32]⟩ := by unfold betweenS; rw [if_neg (show ¬ (k = 17) by omega), if_neg (show ¬ (k = 16) by omega), if_neg (show ¬ (k = 9) by omega), if_neg (show ¬ (k = 10) by omega), if_neg (show ¬ (k = 11) by omega), if_neg (show ¬ (k = 12) by omega), if_neg (show ¬ (k = 6) by omega), if_neg (show ¬ (k = 7) by omega)]
    rw [hn]
    have e1 : (k == 1) = false := beq_eq_false_iff_ne.2 (by omega)
    have e2 : (k == 2) = false := beq_eq_false_iff_ne.2 (by omega)
    have e3 : (k == 3) = false := beq_eq_false_iff_ne.2 (by omega)
    have e4 : (k == 4) = false := beq_eq_false_iff_ne.2 (by omega)
    have e5 : (k == 5) = false := beq_eq_false_iff_ne.2 (by omega)
    have e6 : (k == 6) = false := beq_eq_false_iff_ne.2 (by omega)
    have e7 : (k == 7) = false := beq_eq_false_iff_ne.2 (by omega)
    have e8 : (k == 8) = false := beq_eq_false_iff_ne.2 (by omega)
    have e9 : (k == 9) = false := beq_eq_false_iff_ne.2 (by omega)
    have e10 : (k == 10) = false := beq_eq_false_iff_ne.2 (by omega)
    have e11 : (k == 11) = false := beq_eq_false_iff_ne.2 (by omega)
    have e12 : (k == 12) = false := beq_eq_false_iff_ne.2 (by omega)
    have e13 : (k == 13) = false := beq_eq_false_iff_ne.2 (by omega)
    have e14 : (k == 14) = false := beq_eq_false_iff_ne.2 (by omega)
    have e15 : (k == 15) = false := beq_eq_false_iff_ne.2 (by omega)
    have e16 : (k == 16) = false := beq_eq_false_iff_ne.2 (by omega)
    have e17 : (k == 17) = false := beq_eq_false_iff_ne.2 (by omega)
    have e18 : (k == 18) = false := beq_eq_false_iff_ne.2 (by omega)
    have e19 : (k == 19) = false := beq_eq_false_iff_ne.2 (by omega)
    have e20 : (k == 20) = false := beq_eq_false_iff_ne.2 (by omega)
    have e21 : (k == 21) = false := beq_eq_false_iff_ne.2 (by omega)
    clear hk hn
    go_enter Tryz.func70, Tryz.ntmps70
    go_wp2_with fail
    go_ret
    exact Ret.mk rfl (Ex.refl _)
end Go.Proofs.YthjalkonlcjhnaaGreatDoor
