/-
  The text of a written tree, walked.
  Conditions: as each theorem says; the world's tables are as laid (Envw).
-/
import Derived.Test.YthjalkonlcjhnaaGreatDoorRb
import Derived.Lib.ItoaLen
import Derived.Lib.AppendIntMem
namespace Go.Proofs.YthjalkonlcjhnaaGreatDoor
open Go.RowKit
/-- what the texts ask of the world -/
def Envw (w : World) : Prop := Env w ∧ 1 < w.heap.size ∧ Lib.TabIs Tryz.prog w "internal/strconv.uint64pow10" .u64 Lib.pow10Tab
theorem gPow : Tryz.prog.globalNamed "internal/strconv.uint64pow10" = some 1 := by kernel_rfl
theorem Envw.ex {w w' : World} (h : Envw w) (hx : Ex w w') : Envw w' :=
  ⟨h.1.ex hx, Nat.lt_of_lt_of_le h.2.1 hx.below.size, var?_below hx.below gPow h.2.1 h.2.2⟩
theorem itoa_c (n : Int) (w : World) (hE : Envw w) (h0 : 0 ≤ n) (h1 : n ≤ 1125899906842624) : Calls Tryz.prog 68 #[.int .i64 n] w (Ret w (.string ⟨(Lib.itoa n).toArray⟩)) := by
  refine (Tryz.strconv_Itoa n (by omega) (by omega) w hE.2.2).mono ?_
  rintro e w' ⟨rfl, k, os, rfl⟩
  exact ⟨rfl, Ex.of (Lib.below_grow _ w (Nat.le_refl _) k os)⟩
def bodyL (k n : Int) (s : ByteArray) (fs : List (Nat → List UInt8)) : List UInt8 :=
  if k = 1 then Lib.itoa n else if k = 2 then s.data.toList else if k = 3 then [99, 111, 117, 110, 116, 40] ++ s.data.toList ++ [41] else if k = 4 then [99, 104, 97, 110, 110, 101, 108, 40] ++ s.data.toList ++ [41] else if k = 13 then [116, 114, 117, 101] else if k = 14 then [102, 97, 108, 115, 101] else
  match fs with
  | [f] => (beforeS k).data.toList ++ f (levelI k)
  | [f, g] => if levelI k = 3 then f 4 ++ (betweenS k).data.toList ++ g 4 else f (levelI k) ++ (betweenS k).data.toList ++ g (levelI k + 1)
  | _ => []
def parL (own least : Nat) (b : List UInt8) : List UInt8 := if own < least then 40 :: (b ++ [41]) else b
/-- the text of a tree where a level is asked for -/
def wrL : Tr → Nat → List UInt8
  | .node k n _ _ s l => fun least => parL (levelI k) least (bodyL k n s (l.map wrL))
theorem wrL_node (k n p q : Int) (s : ByteArray) (l : List Tr) (least : Nat) : wrL (.node k n p q s l) least = parL (levelI k) least (bodyL k n s (l.map wrL)) := by
  conv => lhs; unfold wrL
theorem level_le (k : Int) : levelI k ≤ 7 := by
  unfold levelI
  repeat' split
  all_goals omega
theorem nm_len {s : ByteArray} (h : wordB s = true) : s.size ≤ 16 := by
  unfold wordB nmB at h
  simp only [Bool.and_eq_true, decide_eq_true_eq] at h
  rw [size_data]; exact h.1.2
theorem two_len {s : ByteArray} {c : UInt8} (h : twoB s c = true) : s.size ≤ 33 := by
  unfold twoB at h
  split at h
  · cases h
  · rename_i h1
    rcases index_cases s c with hi | ⟨n, hn, hi⟩
    · exact absurd hi h1
    · rw [hi, Int.toNat_natCast] at h
      simp only [Bool.and_eq_true] at h
      have h2 := nm_len h.1
      have h3 := nm_len h.2
      unfold cutA at h2
      unfold cutB at h3
      simp only [ByteArray.size_extract] at h2 h3
      omega
theorem before_len (k : Int) : (beforeS k).size ≤ 4 := by
  unfold beforeS
  repeat' split
  all_goals decide
theorem between_len (k : Int) : (betweenS k).size ≤ 5 := by
  unfold betweenS
  repeat' split
  all_goals decide
theorem itoa_len {n : Int} (h0 : 0 ≤ n) (h1 : n ≤ 1125899906842624) : (Lib.itoa n).length ≤ 21 := Lib.itoa_length_le n (by omega) (by omega)
theorem name_len {k p q : Int} {s : ByteArray} (h : nodeB k p q s = true) : s.size ≤ 33 := by
  unfold nodeB at h
  split at h
  · split at h
    · split at h
      · exact two_len h
      · split at h
        · have := nm_len h; omega
        · split at h
          · exact two_len h
          · have := of_decide_eq_true h; omega
    · cases h
  · cases h
theorem formed_parts {k n p q : Int} {s : ByteArray} {l : List Tr} (h : formedB nodeB (.node k n p q s l) = true) : partsI k = (l.length : Int) ∧ (n = 0 ∨ k = 1) ∧ 0 ≤ n ∧ n ≤ 1125899906842624 ∧ nodeB k p q s = true ∧ ∀ x ∈ l, formedB nodeB x = true := by
  rw [formed_node] at h
  unfold headB at h
  simp only [Bool.and_eq_true, decide_eq_true_eq, Bool.or_eq_true, Bool.not_eq_true', List.any_eq_false] at h
  obtain ⟨⟨⟨⟨⟨h1, h2⟩, h3⟩, h4⟩, h5⟩, h6⟩ := h
  exact ⟨h1, h2, h3, h4, h5, fun x hx => by simpa using h6 x hx⟩
theorem par_len (own least : Nat) (b : List UInt8) : (parL own least b).length ≤ b.length + 2 := by
  unfold parL
  split
  · simp
  · omega
theorem parts_cases (k : Int) (m : Nat) (h : partsI k = (m : Int)) : (m = 0 ∧ (k = 1 ∨ k = 2 ∨ k = 3 ∨ k = 4 ∨ k = 13 ∨ k = 14)) ∨ (m = 1 ∧ (k = 5 ∨ k = 15 ∨ k = 18 ∨ k = 19 ∨ k = 20 ∨ k = 21)) ∨ (m = 2 ∧ (k = 6 ∨ k = 7 ∨ k = 8 ∨ k = 9 ∨ k = 10 ∨ k = 11 ∨ k = 12 ∨ k = 16 ∨ k = 17)) := by
  unfold partsI at h
  repeat' split at h
  all_goals omega
theorem body_one (k n : Int) (s : ByteArray) (f : Nat → List UInt8) (h : k = 5 ∨ k = 15 ∨ k = 18 ∨ k = 19 ∨ k = 20 ∨ k = 21) : bodyL k n s [f] = (beforeS k).data.toList ++ f (levelI k) := by
  unfold bodyL
  rw [if_neg (by omega), if_neg (by omega), if_neg (by omega), if_neg (by omega), if_neg (by omega), if_neg (by omega)]
theorem body_two (k n : Int) (s : ByteArray) (f g : Nat → List UInt8) (h : k = 6 ∨ k = 7 ∨ k = 8 ∨ k = 9 ∨ k = 10 ∨ k = 11 ∨ k = 12 ∨ k = 16 ∨ k = 17) : bodyL k n s [f, g] = if levelI k = 3 then f 4 ++ (betweenS k).data.toList ++ g 4 else f (levelI k) ++ (betweenS k).data.toList ++ g (levelI k + 1) := by
  unfold bodyL
  rw [if_neg (by omega), if_neg (by omega), if_neg (by omega), if_neg (by omega), if_neg (by omega), if_neg (by omega)]
theorem one_list {α : Type} {l : List α} (h : l.length = 1) : ∃ a, l = [a] := by
  match l, h with
  | [a], _ => exact ⟨a, rfl⟩
theorem two_list {α : Type} {l : List α} (h : l.length = 2) : ∃ a b, l = [a, b] := by
  match l, h with
  | [a, b], _ => exact ⟨a, b, rfl⟩
theorem wr_len : ∀ t : Tr, formedB nodeB t = true → ∀ least, (wrL t least).length ≤ 100 * t.size := by
  refine Tr.induct ?_
  intro k n p q s l ih h least
  obtain ⟨h1, h2, h3, h4, h5, h6⟩ := formed_parts h
  have hs' := name_len h5
  have hs := hs'
  rw [size_data] at hs
  rw [wrL_node, Tr.size_node]
  refine Nat.le_trans (par_len _ _ _) ?_
  rcases parts_cases k l.length h1 with ⟨hm, hk⟩ | ⟨hm, hk⟩ | ⟨hm, hk⟩
  · have : (bodyL k n s (l.map wrL)).length ≤ 50 := by
      have hi := itoa_len h3 h4
      unfold bodyL
      rcases hk with rfl | rfl | rfl | rfl | rfl | rfl
      · rw [if_pos rfl]; omega
      · rw [if_neg (by omega), if_pos rfl]; omega
      · rw [if_neg (by omega), if_neg (by omega), if_pos rfl]; simp; omega
      · rw [if_neg (by omega), if_neg (by omega), if_neg (by omega), if_pos rfl]; simp; omega
      · rw [if_neg (by omega), if_neg (by omega), if_neg (by omega), if_neg (by omega), if_pos rfl]; decide
      · rw [if_neg (by omega), if_neg (by omega), if_neg (by omega), if_neg (by omega), if_neg (by omega), if_pos rfl]; decide
    omega
  · obtain ⟨a, rfl⟩ := one_list hm
    have ha := ih a (List.mem_cons_self ..) (h6 a (List.mem_cons_self ..)) (levelI k)
    have hb := before_len k
    rw [size_data] at hb
    show (bodyL k n s [wrL a]).length + 2 ≤ _
    rw [body_one k n s _ hk]
    simp only [List.length_append, List.map_cons, List.map_nil, List.sum_cons, List.sum_nil]
    omega
  · obtain ⟨a, b, rfl⟩ := two_list hm
    have ha := ih a (List.mem_cons_self ..) (h6 a (List.mem_cons_self ..))
    have hb := ih b (List.mem_cons_of_mem _ (List.mem_cons_self ..)) (h6 b (List.mem_cons_of_mem _ (List.mem_cons_self ..)))
    have ha1 := ha 4
    have ha2 := ha (levelI k)
    have hb1 := hb 4
    have hb2 := hb (levelI k + 1)
    have hbt := between_len k
    rw [size_data] at hbt
    show (bodyL k n s [wrL a, wrL b]).length + 2 ≤ _
    rw [body_two k n s _ _ hk]
    simp only [List.map_cons, List.map_nil, List.sum_cons, List.sum_nil]
    split <;> (simp only [List.length_append]; omega)
theorem add_ok {A B : ByteArray} {J : ByteArray} (hJ : J = A ++ B) (h : A.size + B.size ≤ 9223372036854775807) : ∀ w, (Op.stringOp .add A B).run Tryz.prog w = .ok (.string J) w := fun w => by
  rw [hJ]
  exact run_string_add_sum w _ _ h
theorem lift_data (b : ByteArray) : b = ⟨b.data.toList.toArray⟩ := by simp
theorem par_leaf (least : Nat) (b : List UInt8) (h : least ≤ 7) : parL 7 least b = b := by unfold parL; rw [if_neg (by omega)]
set_option maxHeartbeats 1600000 in
theorem write_leaf (k n p q : Int) (s : ByteArray) (A : Option Addr) (m c least : Nat) (w : World) (hE : Envw w) (hk : k = 1 ∨ k = 2 ∨ k = 3 ∨ k = 4 ∨ k = 13 ∨ k = 14) (h0 : 0 ≤ n) (h1 : n ≤ 1125899906842624) (hs : s.size ≤ 33) (hl : least ≤ 7) :
    Calls Tryz.prog 39 #[.agg #[.int .i64 k, .int .i64 n, .int .i64 p, .int .i64 q, .string s, .slice A m c], .int .i64 (least : Nat)] w (Ret w (.string ⟨(parL (levelI k) least (bodyL k n s [])).toArray⟩)) := by
  have HL := Lib.hid (level_k k)
  have HI := Lib.hid (fun w' (hx : Ex w w') => itoa_c n w' (hE.ex hx) h0 h1)
  have b1 : decide ((7 : Int) < (least : Int)) = false := decide_eq_false (by omega)
  have b2 : decide (7 < least) = false := decide_eq_false (by omega)
  rcases hk with rfl | rfl | rfl | rfl | rfl | rfl
  · rw [show levelI 1 = 7 by decide, par_leaf _ _ hl, show bodyL 1 n s [] = Lib.itoa n by unfold bodyL; rw [if_pos rfl]]
    rw [show levelI 1 = 7 by decide] at HL
    generalize (⟨(Lib.itoa n).toArray⟩ : ByteArray) = R at *
    clear hE h0 h1 hs hl
    go_enter Tryz.func39, Tryz.ntmps39
    go_wp2_with fail
    refine (HL.out _).mono ?_
    rintro e w' ⟨rfl, z, rfl⟩
    go_wp2_with fail
    refine (HI.out _ (((Ex.refl _).alloc _).ext _)).mono ?_
    rintro e w' ⟨rfl, z2, rfl⟩
    go_wp2_with fail
    go_ret
    exact Ret.mk rfl ((((Ex.refl _).alloc _).ext _).ext _)
  · rw [show levelI 2 = 7 by decide, par_leaf _ _ hl, show bodyL 2 n s [] = s.data.toList by unfold bodyL; rw [if_neg (by omega), if_pos rfl], ← lift_data]
    rw [show levelI 2 = 7 by decide] at HL
    clear hE h0 h1 hs hl HI
    go_enter Tryz.func39, Tryz.ntmps39
    go_wp2_with fail
    refine (HL.out _).mono ?_
    rintro e w' ⟨rfl, z, rfl⟩
    go_wp2_with fail
    go_ret
    exact Ret.mk rfl (((Ex.refl _).alloc _).ext _)
  · rw [show levelI 3 = 7 by decide, par_leaf _ _ hl, show bodyL 3 n s [] = [99, 111, 117, 110, 116, 40] ++ s.data.toList ++ [41] by unfold bodyL; rw [if_neg (by omega), if_neg (by omega), if_pos rfl]]
    rw [show levelI 3 = 7 by decide] at HL
    obtain ⟨J1, hJ1⟩ : ∃ J : ByteArray, J = (⟨#[99, 111, 117, 110, 116, 40]⟩ : ByteArray) ++ s := ⟨_, rfl⟩
    obtain ⟨J2, hJ2⟩ : ∃ J : ByteArray, J = J1 ++ (⟨#[41]⟩ : ByteArray) := ⟨_, rfl⟩
    have a1 := add_ok hJ1 (by show 6 + s.size ≤ _; omega)
    have a2 := add_ok hJ2 (by rw [hJ1, ByteArray.size_append]; show 6 + s.size + 1 ≤ _; omega)
    have hJ : (⟨([99, 111, 117, 110, 116, 40] ++ s.data.toList ++ [41]).toArray⟩ : ByteArray) = J2 := by
      rw [hJ2, hJ1, ← str_cat, ← str_cat, ← lift_data s]
    rw [hJ]
    clear hE h0 h1 hs hl HI hJ hJ1 hJ2
    go_enter Tryz.func39, Tryz.ntmps39
    go_wp2_with fail
    refine (HL.out _).mono ?_
    rintro e w' ⟨rfl, z, rfl⟩
    go_wp2_with fail
    go_ret
    exact Ret.mk rfl (((Ex.refl _).alloc _).ext _)
  · rw [show levelI 4 = 7 by decide, par_leaf _ _ hl, show bodyL 4 n s [] = [99, 104, 97, 110, 110, 101, 108, 40] ++ s.data.toList ++ [41] by unfold bodyL; rw [if_neg (by omega), if_neg (by omega), if_neg (by omega), if_pos rfl]]
    rw [show levelI 4 = 7 by decide] at HL
    obtain ⟨J1, hJ1⟩ : ∃ J : ByteArray, J = (⟨#[99, 104, 97, 110, 110, 101, 108, 40]⟩ : ByteArray) ++ s := ⟨_, rfl⟩
    obtain ⟨J2, hJ2⟩ : ∃ J : ByteArray, J = J1 ++ (⟨#[41]⟩ : ByteArray) := ⟨_, rfl⟩
    have a1 := add_ok hJ1 (by show 8 + s.size ≤ _; omega)
    have a2 := add_ok hJ2 (by rw [hJ1, ByteArray.size_append]; show 8 + s.size + 1 ≤ _; omega)
    have hJ : (⟨([99, 104, 97, 110, 110, 101, 108, 40] ++ s.data.toList ++ [41]).toArray⟩ : ByteArray) = J2 := by
      rw [hJ2, hJ1, ← str_cat, ← str_cat, ← lift_data s]
    rw [hJ]
    clear hE h0 h1 hs hl HI hJ hJ1 hJ2
    go_enter Tryz.func39, Tryz.ntmps39
    go_wp2_with fail
    refine (HL.out _).mono ?_
    rintro e w' ⟨rfl, z, rfl⟩
    go_wp2_with fail
    go_ret
    exact Ret.mk rfl (((Ex.refl _).alloc _).ext _)
  · rw [show levelI 13 = 7 by decide, par_leaf _ _ hl, show bodyL 13 n s [] = [116, 114, 117, 101] by unfold bodyL; rw [if_neg (by omega), if_neg (by omega), if_neg (by omega), if_neg (by omega), if_pos rfl]]
    rw [show levelI 13 = 7 by decide] at HL
    clear hE h0 h1 hs hl HI
    go_enter Tryz.func39, Tryz.ntmps39
    go_wp2_with fail
    refine (HL.out _).mono ?_
    rintro e w' ⟨rfl, z, rfl⟩
    go_wp2_with fail
    go_ret
    exact Ret.mk rfl (((Ex.refl _).alloc _).ext _)
  · rw [show levelI 14 = 7 by decide, par_leaf _ _ hl, show bodyL 14 n s [] = [102, 97, 108, 115, 101] by unfold bodyL; rw [if_neg (by omega), if_neg (by omega), if_neg (by omega), if_neg (by omega), if_neg (by omega), if_pos rfl]]
    rw [show levelI 14 = 7 by decide] at HL
    clear hE h0 h1 hs hl HI
    go_enter Tryz.func39, Tryz.ntmps39
    go_wp2_with fail
    refine (HL.out _).mono ?_
    rintro e w' ⟨rfl, z, rfl⟩
    go_wp2_with fail
    go_ret
    exact Ret.mk rfl (((Ex.refl _).alloc _).ext _)
set_option maxRecDepth 20000 in
set_option maxHeartbeats 3200000 in
theorem write_one (k n p q ka na pa qa : Int) (s sa : ByteArray) (b o c : Nat) (Aa : Option Addr) (ma ca least own : Nat) (F : List UInt8) (w : World) (hk : k = 5 ∨ k = 15 ∨ k = 18 ∨ k = 19 ∨ k = 20 ∨ k = 21) (hown : levelI k = own) (hb : b < w.heap.size)
    (ha0 : w.cell? ⟨b, o, none⟩ = some (.int .i64 ka)) (ha1 : w.cell? ⟨b, o + 1, none⟩ = some (.int .i64 na)) (ha2 : w.cell? ⟨b, o + 2, none⟩ = some (.int .i64 pa)) (ha3 : w.cell? ⟨b, o + 3, none⟩ = some (.int .i64 qa)) (ha4 : w.cell? ⟨b, o + 4, none⟩ = some (.string sa)) (ha5 : w.cell? ⟨b, o + 5, none⟩ = some (.slice Aa ma ca)) (hF : F.length ≤ 1000000)
    (HA0 : ∀ w', Ex w w' → Calls Tryz.prog 39 #[.agg #[.int .i64 ka, .int .i64 na, .int .i64 pa, .int .i64 qa, .string sa, .slice Aa ma ca], .int .i64 (own : Nat)] w' (Ret w' (.string ⟨F.toArray⟩))) :
    Calls Tryz.prog 39 #[.agg #[.int .i64 k, .int .i64 n, .int .i64 p, .int .i64 q, .string s, .slice (some ⟨b, o, none⟩) 1 c], .int .i64 (least : Nat)] w (Ret w (.string ⟨(parL own least ((beforeS k).data.toList ++ F)).toArray⟩)) := by
  have HL := Lib.hid (level_k k)
  rw [hown] at HL
  have HB := Lib.hid (before_k k)
  have HA := Lib.hid HA0
  have hbl := before_len k
  have e1 : (k == 1) = false := beq_eq_false_iff_ne.2 (by omega)
  have e2 : (k == 2) = false := beq_eq_false_iff_ne.2 (by omega)
  have e3 : (k == 3) = false := beq_eq_false_iff_ne.2 (by omega)
  have e4 : (k == 4) = false := beq_eq_false_iff_ne.2 (by omega)
  have e13 : (k == 13) = false := beq_eq_false_iff_ne.2 (by omega)
  have e14 : (k == 14) = false := beq_eq_false_iff_ne.2 (by omega)
  obtain ⟨FB, hFB⟩ : ∃ J : ByteArray, J = ⟨F.toArray⟩ := ⟨_, rfl⟩
  have hFs : FB.size = F.length := by rw [hFB, size_data]
  rw [← hFB] at HA
  obtain ⟨J, hJ⟩ : ∃ J : ByteArray, J = beforeS k ++ FB := ⟨_, rfl⟩
  obtain ⟨J1, hJ1⟩ : ∃ X : ByteArray, X = (⟨#[40]⟩ : ByteArray) ++ J := ⟨_, rfl⟩
  obtain ⟨J2, hJ2⟩ : ∃ X : ByteArray, X = J1 ++ (⟨#[41]⟩ : ByteArray) := ⟨_, rfl⟩
  have a0 := add_ok hJ (by omega)
  have hJs : J.size ≤ 2000000 := by rw [hJ, ByteArray.size_append]; omega
  have a1 := add_ok hJ1 (by show 1 + J.size ≤ _; omega)
  have a2 := add_ok hJ2 (by rw [hJ1, ByteArray.size_append]; show 1 + J.size + 1 ≤ _; omega)
  have hR : (⟨((beforeS k).data.toList ++ F).toArray⟩ : ByteArray) = J := by rw [hJ, hFB, ← str_cat, ← lift_data]
  have hR2 : (⟨(40 :: (((beforeS k).data.toList ++ F) ++ [41])).toArray⟩ : ByteArray) = J2 := by
    rw [hJ2, hJ1, ← hR, str_cat, str_cat]; rfl
  unfold parL
  generalize beforeS k = BS at *
  by_cases ho : own < least
  · have b1 : decide ((own : Int) < (least : Int)) = true := decide_eq_true (by omega)
    have b2 : decide (own < least) = true := decide_eq_true (by omega)
    rw [if_pos ho, hR2]
    clear hk hown hF HA0 hbl hFB hFs hJ hJ1 hJ2 hJs hR hR2 ho
    go_enter Tryz.func39, Tryz.ntmps39
    go_wp2_with fail
    refine (HL.out _).mono ?_
    rintro e w' ⟨rfl, z, rfl⟩
    go_wp2_with fail
    refine wp_region_exu (by kernel_rfl) (by kernel_rfl) ?_
    repeat (go_big_quiet_step (first | (go_at_call 69; exact quiet_ext (HB.out _)) | (go_at_call 39; exact quiet_ext (HA.out _ (((Ex.refl w).alloc _).trans ⟨_, rfl⟩)))))
    refine wpQuiet_end (fun z => ?_)
    go_wp2_with fail
    go_ret
    exact Ret.mk rfl (((Ex.refl _).alloc _).ext _)
  · have b1 : decide ((own : Int) < (least : Int)) = false := decide_eq_false (by omega)
    have b2 : decide (own < least) = false := decide_eq_false (by omega)
    rw [if_neg ho, hR]
    clear hk hown hF HA0 hbl hFB hFs hJ hJ1 hJ2 hJs hR hR2 ho
    go_enter Tryz.func39, Tryz.ntmps39
    go_wp2_with fail
    refine (HL.out _).mono ?_
    rintro e w' ⟨rfl, z, rfl⟩
    go_wp2_with fail
    refine wp_region_exu (by kernel_rfl) (by kernel_rfl) ?_
    repeat (go_big_quiet_step (first | (go_at_call 69; exact quiet_ext (HB.out _)) | (go_at_call 39; exact quiet_ext (HA.out _ (((Ex.refl w).alloc _).trans ⟨_, rfl⟩)))))
    refine wpQuiet_end (fun z => ?_)
    go_wp2_with fail
    go_ret
    exact Ret.mk rfl (((Ex.refl _).alloc _).ext _)
set_option maxRecDepth 20000 in
set_option maxHeartbeats 3200000 in
theorem write_cmp (k n p q ka na pa qa kb nb pb qb : Int) (s sa sb : ByteArray) (b o c : Nat) (Aa Ab : Option Addr) (ma ca mb cb least own : Nat) (F G : List UInt8) (w : World) (hk : k = 6 ∨ k = 7 ∨ k = 8 ∨ k = 9 ∨ k = 10 ∨ k = 11 ∨ k = 12 ∨ k = 16 ∨ k = 17) (hown : levelI k = own) (h3 : own = 3) (hb : b < w.heap.size)
    (ha0 : w.cell? ⟨b, o, none⟩ = some (.int .i64 ka)) (ha1 : w.cell? ⟨b, o + 1, none⟩ = some (.int .i64 na)) (ha2 : w.cell? ⟨b, o + 2, none⟩ = some (.int .i64 pa)) (ha3 : w.cell? ⟨b, o + 3, none⟩ = some (.int .i64 qa)) (ha4 : w.cell? ⟨b, o + 4, none⟩ = some (.string sa)) (ha5 : w.cell? ⟨b, o + 5, none⟩ = some (.slice Aa ma ca)) (hb0 : w.cell? ⟨b, o + 6, none⟩ = some (.int .i64 kb)) (hb1 : w.cell? ⟨b, o + 7, none⟩ = some (.int .i64 nb)) (hb2 : w.cell? ⟨b, o + 8, none⟩ = some (.int .i64 pb)) (hb3 : w.cell? ⟨b, o + 9, none⟩ = some (.int .i64 qb)) (hb4 : w.cell? ⟨b, o + 10, none⟩ = some (.string sb)) (hb5 : w.cell? ⟨b, o + 11, none⟩ = some (.slice Ab mb cb)) (hF : F.length ≤ 1000000) (hG : G.length ≤ 1000000)
    (HA0 : ∀ w', Ex w w' → Calls Tryz.prog 39 #[.agg #[.int .i64 ka, .int .i64 na, .int .i64 pa, .int .i64 qa, .string sa, .slice Aa ma ca], .int .i64 4] w' (Ret w' (.string ⟨F.toArray⟩)))
    (HB0 : ∀ w', Ex w w' → Calls Tryz.prog 39 #[.agg #[.int .i64 kb, .int .i64 nb, .int .i64 pb, .int .i64 qb, .string sb, .slice Ab mb cb], .int .i64 4] w' (Ret w' (.string ⟨G.toArray⟩))) :
    Calls Tryz.prog 39 #[.agg #[.int .i64 k, .int .i64 n, .int .i64 p, .int .i64 q, .string s, .slice (some ⟨b, o, none⟩) 2 c], .int .i64 (least : Nat)] w (Ret w (.string ⟨(parL own least (F ++ (betweenS k).data.toList ++ G)).toArray⟩)) := by
  have hown7 := level_le k
  have HL := Lib.hid (level_k k)
  rw [hown] at HL hown7
  have HB := Lib.hid (between_k k)
  have HA := Lib.hid HA0
  have HAb := Lib.hid HB0
  have hbl := between_len k
  have e1 : (k == 1) = false := beq_eq_false_iff_ne.2 (by omega)
  have e2 : (k == 2) = false := beq_eq_false_iff_ne.2 (by omega)
  have e3 : (k == 3) = false := beq_eq_false_iff_ne.2 (by omega)
  have e4 : (k == 4) = false := beq_eq_false_iff_ne.2 (by omega)
  have e13 : (k == 13) = false := beq_eq_false_iff_ne.2 (by omega)
  have e14 : (k == 14) = false := beq_eq_false_iff_ne.2 (by omega)
  have f3 : ((own : Int) == 3) = true := by rw [beq_iff_eq]; omega
  have f4 : (own == 3) = true := by rw [beq_iff_eq]; omega
  obtain ⟨FB, hFB⟩ : ∃ J : ByteArray, J = ⟨F.toArray⟩ := ⟨_, rfl⟩
  have hFs : FB.size = F.length := by rw [hFB, size_data]
  rw [← hFB] at HA
  obtain ⟨GB, hGB⟩ : ∃ J : ByteArray, J = ⟨G.toArray⟩ := ⟨_, rfl⟩
  have hGs : GB.size = G.length := by rw [hGB, size_data]
  rw [← hGB] at HAb
  obtain ⟨Ja, hJa⟩ : ∃ J : ByteArray, J = FB ++ betweenS k := ⟨_, rfl⟩
  obtain ⟨J, hJ⟩ : ∃ J : ByteArray, J = Ja ++ GB := ⟨_, rfl⟩
  obtain ⟨J1, hJ1⟩ : ∃ X : ByteArray, X = (⟨#[40]⟩ : ByteArray) ++ J := ⟨_, rfl⟩
  obtain ⟨J2, hJ2⟩ : ∃ X : ByteArray, X = J1 ++ (⟨#[41]⟩ : ByteArray) := ⟨_, rfl⟩
  have a9 := add_ok hJa (by omega)
  have hJas : Ja.size ≤ 2000000 := by rw [hJa, ByteArray.size_append]; omega
  have a0 := add_ok hJ (by omega)
  have hJs : J.size ≤ 4000000 := by rw [hJ, ByteArray.size_append]; omega
  have a1 := add_ok hJ1 (by show 1 + J.size ≤ _; omega)
  have a2 := add_ok hJ2 (by rw [hJ1, ByteArray.size_append]; show 1 + J.size + 1 ≤ _; omega)
  have hR : (⟨(F ++ (betweenS k).data.toList ++ G).toArray⟩ : ByteArray) = J := by rw [hJ, hJa, hFB, hGB, ← str_cat, ← str_cat, ← lift_data]
  have hR2 : (⟨(40 :: ((F ++ (betweenS k).data.toList ++ G) ++ [41])).toArray⟩ : ByteArray) = J2 := by
    rw [hJ2, hJ1, ← hR, str_cat, str_cat]; rfl
  unfold parL
  generalize betweenS k = BS at *
  by_cases ho : own < least
  · have b1 : decide ((own : Int) < (least : Int)) = true := decide_eq_true (by omega)
    have b2 : decide (own < least) = true := decide_eq_true (by omega)
    rw [if_pos ho, hR2]
    clear hk hown hF hG HA0 HB0 hbl hFB hFs hGB hGs hJ hJa hJ1 hJ2 hJs hJas hR hR2 ho h3 hown7
    go_enter Tryz.func39, Tryz.ntmps39
    go_wp2_with fail
    refine (HL.out _).mono ?_
    rintro e w' ⟨rfl, z, rfl⟩
    go_wp2_with fail
    refine wp_region_exu (by kernel_rfl) (by kernel_rfl) ?_
    repeat (go_big_quiet_step (first | (go_at_call 70; exact quiet_ext (HB.out _)) | (go_at_call 39; with_reducible exact quiet_ext (HA.out _ (((Ex.refl w).alloc _).ext _)))))
    repeat (go_big_quiet_step (first | (go_at_call 70; exact quiet_ext (HB.out _)) | (go_at_call 39; exact quiet_ext (HAb.out _ (((Ex.refl w).alloc _).ext _)))))
    refine wpQuiet_end (fun z => ?_)
    go_wp2_with fail
    go_ret
    exact Ret.mk rfl (((Ex.refl _).alloc _).ext _)
  · have b1 : decide ((own : Int) < (least : Int)) = false := decide_eq_false (by omega)
    have b2 : decide (own < least) = false := decide_eq_false (by omega)
    rw [if_neg ho, hR]
    clear hk hown hF hG HA0 HB0 hbl hFB hFs hGB hGs hJ hJa hJ1 hJ2 hJs hJas hR hR2 ho h3 hown7
    go_enter Tryz.func39, Tryz.ntmps39
    go_wp2_with fail
    refine (HL.out _).mono ?_
    rintro e w' ⟨rfl, z, rfl⟩
    go_wp2_with fail
    refine wp_region_exu (by kernel_rfl) (by kernel_rfl) ?_
    repeat (go_big_quiet_step (first | (go_at_call 70; exact quiet_ext (HB.out _)) | (go_at_call 39; with_reducible exact quiet_ext (HA.out _ (((Ex.refl w).alloc _).ext _)))))
    repeat (go_big_quiet_step (first | (go_at_call 70; exact quiet_ext (HB.out _)) | (go_at_call 39; exact quiet_ext (HAb.out _ (((Ex.refl w).alloc _).ext _)))))
    refine wpQuiet_end (fun z => ?_)
    go_wp2_with fail
    go_ret
    exact Ret.mk rfl (((Ex.refl _).alloc _).ext _)
set_option maxRecDepth 20000 in
set_option maxHeartbeats 3200000 in
theorem write_two (k n p q ka na pa qa kb nb pb qb : Int) (s sa sb : ByteArray) (b o c : Nat) (Aa Ab : Option Addr) (ma ca mb cb least own : Nat) (F G : List UInt8) (w : World) (hk : k = 6 ∨ k = 7 ∨ k = 8 ∨ k = 9 ∨ k = 10 ∨ k = 11 ∨ k = 12 ∨ k = 16 ∨ k = 17) (hown : levelI k = own) (h3 : own ≠ 3) (hb : b < w.heap.size)
    (ha0 : w.cell? ⟨b, o, none⟩ = some (.int .i64 ka)) (ha1 : w.cell? ⟨b, o + 1, none⟩ = some (.int .i64 na)) (ha2 : w.cell? ⟨b, o + 2, none⟩ = some (.int .i64 pa)) (ha3 : w.cell? ⟨b, o + 3, none⟩ = some (.int .i64 qa)) (ha4 : w.cell? ⟨b, o + 4, none⟩ = some (.string sa)) (ha5 : w.cell? ⟨b, o + 5, none⟩ = some (.slice Aa ma ca)) (hb0 : w.cell? ⟨b, o + 6, none⟩ = some (.int .i64 kb)) (hb1 : w.cell? ⟨b, o + 7, none⟩ = some (.int .i64 nb)) (hb2 : w.cell? ⟨b, o + 8, none⟩ = some (.int .i64 pb)) (hb3 : w.cell? ⟨b, o + 9, none⟩ = some (.int .i64 qb)) (hb4 : w.cell? ⟨b, o + 10, none⟩ = some (.string sb)) (hb5 : w.cell? ⟨b, o + 11, none⟩ = some (.slice Ab mb cb)) (hF : F.length ≤ 1000000) (hG : G.length ≤ 1000000)
    (HA0 : ∀ w', Ex w w' → Calls Tryz.prog 39 #[.agg #[.int .i64 ka, .int .i64 na, .int .i64 pa, .int .i64 qa, .string sa, .slice Aa ma ca], .int .i64 (own : Nat)] w' (Ret w' (.string ⟨F.toArray⟩)))
    (HB0 : ∀ w', Ex w w' → Calls Tryz.prog 39 #[.agg #[.int .i64 kb, .int .i64 nb, .int .i64 pb, .int .i64 qb, .string sb, .slice Ab mb cb], .int .i64 ((own : Int) + 1)] w' (Ret w' (.string ⟨G.toArray⟩))) :
    Calls Tryz.prog 39 #[.agg #[.int .i64 k, .int .i64 n, .int .i64 p, .int .i64 q, .string s, .slice (some ⟨b, o, none⟩) 2 c], .int .i64 (least : Nat)] w (Ret w (.string ⟨(parL own least (F ++ (betweenS k).data.toList ++ G)).toArray⟩)) := by
  have hown7 := level_le k
  have HL := Lib.hid (level_k k)
  rw [hown] at HL hown7
  have HB := Lib.hid (between_k k)
  have HA := Lib.hid HA0
  have HAb := Lib.hid HB0
  have hbl := between_len k
  have e1 : (k == 1) = false := beq_eq_false_iff_ne.2 (by omega)
  have e2 : (k == 2) = false := beq_eq_false_iff_ne.2 (by omega)
  have e3 : (k == 3) = false := beq_eq_false_iff_ne.2 (by omega)
  have e4 : (k == 4) = false := beq_eq_false_iff_ne.2 (by omega)
  have e13 : (k == 13) = false := beq_eq_false_iff_ne.2 (by omega)
  have e14 : (k == 14) = false := beq_eq_false_iff_ne.2 (by omega)
  have f3 : ((own : Int) == 3) = false := beq_eq_false_iff_ne.2 (by omega)
  have f4 : (own == 3) = false := beq_eq_false_iff_ne.2 (by omega)
  have f5 : IntKind.i64.wrap ((own : Int) + 1) = (own : Int) + 1 := by rw [IntWalk.i64_in _ (by omega)]
  obtain ⟨FB, hFB⟩ : ∃ J : ByteArray, J = ⟨F.toArray⟩ := ⟨_, rfl⟩
  have hFs : FB.size = F.length := by rw [hFB, size_data]
  rw [← hFB] at HA
  obtain ⟨GB, hGB⟩ : ∃ J : ByteArray, J = ⟨G.toArray⟩ := ⟨_, rfl⟩
  have hGs : GB.size = G.length := by rw [hGB, size_data]
  rw [← hGB] at HAb
  obtain ⟨Ja, hJa⟩ : ∃ J : ByteArray, J = FB ++ betweenS k := ⟨_, rfl⟩
  obtain ⟨J, hJ⟩ : ∃ J : ByteArray, J = Ja ++ GB := ⟨_, rfl⟩
  obtain ⟨J1, hJ1⟩ : ∃ X : ByteArray, X = (⟨#[40]⟩ : ByteArray) ++ J := ⟨_, rfl⟩
  obtain ⟨J2, hJ2⟩ : ∃ X : ByteArray, X = J1 ++ (⟨#[41]⟩ : ByteArray) := ⟨_, rfl⟩
  have a9 := add_ok hJa (by omega)
  have hJas : Ja.size ≤ 2000000 := by rw [hJa, ByteArray.size_append]; omega
  have a0 := add_ok hJ (by omega)
  have hJs : J.size ≤ 4000000 := by rw [hJ, ByteArray.size_append]; omega
  have a1 := add_ok hJ1 (by show 1 + J.size ≤ _; omega)
  have a2 := add_ok hJ2 (by rw [hJ1, ByteArray.size_append]; show 1 + J.size + 1 ≤ _; omega)
  have hR : (⟨(F ++ (betweenS k).data.toList ++ G).toArray⟩ : ByteArray) = J := by rw [hJ, hJa, hFB, hGB, ← str_cat, ← str_cat, ← lift_data]
  have hR2 : (⟨(40 :: ((F ++ (betweenS k).data.toList ++ G) ++ [41])).toArray⟩ : ByteArray) = J2 := by
    rw [hJ2, hJ1, ← hR, str_cat, str_cat]; rfl
  unfold parL
  generalize betweenS k = BS at *
  by_cases ho : own < least
  · have b1 : decide ((own : Int) < (least : Int)) = true := decide_eq_true (by omega)
    have b2 : decide (own < least) = true := decide_eq_true (by omega)
    rw [if_pos ho, hR2]
    clear hk hown hF hG HA0 HB0 hbl hFB hFs hGB hGs hJ hJa hJ1 hJ2 hJs hJas hR hR2 ho h3 hown7
    go_enter Tryz.func39, Tryz.ntmps39
    go_wp2_with fail
    refine (HL.out _).mono ?_
    rintro e w' ⟨rfl, z, rfl⟩
    go_wp2_with fail
    refine wp_region_exu (by kernel_rfl) (by kernel_rfl) ?_
    repeat (go_big_quiet_step (first | (go_at_call 70; exact quiet_ext (HB.out _)) | (go_at_call 39; with_reducible exact quiet_ext (HA.out _ (((Ex.refl w).alloc _).ext _)))))
    repeat (go_big_quiet_step (first | (go_at_call 70; exact quiet_ext (HB.out _)) | (go_at_call 39; exact quiet_ext (HAb.out _ (((Ex.refl w).alloc _).ext _)))))
    refine wpQuiet_end (fun z => ?_)
    go_wp2_with fail
    go_ret
    exact Ret.mk rfl (((Ex.refl _).alloc _).ext _)
  · have b1 : decide ((own : Int) < (least : Int)) = false := decide_eq_false (by omega)
    have b2 : decide (own < least) = false := decide_eq_false (by omega)
    rw [if_neg ho, hR]
    clear hk hown hF hG HA0 HB0 hbl hFB hFs hGB hGs hJ hJa hJ1 hJ2 hJs hJas hR hR2 ho h3 hown7
    go_enter Tryz.func39, Tryz.ntmps39
    go_wp2_with fail
    refine (HL.out _).mono ?_
    rintro e w' ⟨rfl, z, rfl⟩
    go_wp2_with fail
    refine wp_region_exu (by kernel_rfl) (by kernel_rfl) ?_
    repeat (go_big_quiet_step (first | (go_at_call 70; exact quiet_ext (HB.out _)) | (go_at_call 39; with_reducible exact quiet_ext (HA.out _ (((Ex.refl w).alloc _).ext _)))))
    repeat (go_big_quiet_step (first | (go_at_call 70; exact quiet_ext (HB.out _)) | (go_at_call 39; exact quiet_ext (HAb.out _ (((Ex.refl w).alloc _).ext _)))))
    refine wpQuiet_end (fun z => ?_)
    go_wp2_with fail
    go_ret
    exact Ret.mk rfl (((Ex.refl _).alloc _).ext _)
theorem write_c : ∀ (N : Nat) (t : Tr) (Q : Nat → Prop) (w : World) (k n p q : Int) (s : ByteArray) (A : Option Addr) (m c least : Nat), t.size ≤ N → N ≤ 10000 → Envw w → formedB nodeB t = true → least ≤ 7 → TrC Q w t (c6 k n p q s A m c) →
    Calls Tryz.prog 39 #[.agg #[.int .i64 k, .int .i64 n, .int .i64 p, .int .i64 q, .string s, .slice A m c], .int .i64 (least : Nat)] w (Ret w (.string ⟨(wrL t least).toArray⟩)) := by
  intro N
  induction N with
  | zero => intro t Q w k n p q s A m c least h; exact absurd h (by have := t.size_pos; omega)
  | succ N ih =>
    intro t Q w k n p q s A m c least hs hN hE hf hl ht
    obtain ⟨k1, n1, p1, q1, s1, l⟩ := t
    obtain ⟨rfl, rfl, rfl, rfl, rfl, rfl, hk⟩ := ht.kids
    rw [Tr.size_node] at hs
    obtain ⟨g1, g2, g3, g4, g5, g6⟩ := formed_parts hf
    rw [wrL_node]
    have hlv := level_le k
    rcases parts_cases k l.length g1 with ⟨hm, hkk⟩ | ⟨hm, hkk⟩ | ⟨hm, hkk⟩
    · have hnil : l = [] := List.eq_nil_of_length_eq_zero hm
      subst hnil
      exact write_leaf k n p q s A 0 c least w hE hkk g3 g4 (name_len g5) hl
    · obtain ⟨a, rfl⟩ := one_list hm
      obtain ⟨b, o, ka, na, pa, qa, sa, Aa, ma, ca, rfl, hb, h0, h1, h2, h3, h4, h5, hta⟩ := hk 0 a rfl
      have hsz : a.size ≤ N := by simp at hs; omega
      have hfa := g6 a (List.mem_cons_self ..)
      have hwl := wr_len a hfa (levelI k)
      show Calls _ _ _ _ (Ret w (.string ⟨(parL (levelI k) least (bodyL k n s [wrL a])).toArray⟩))
      rw [body_one k n s _ hkk]
      refine write_one k n p q ka na pa qa s sa b o c Aa ma ca least (levelI k) (wrL a (levelI k)) w hkk rfl hb (by simpa using h0) (by simpa using h1) (by simpa using h2) (by simpa using h3) (by simpa using h4) (by simpa using h5) (by omega) (fun w' hx => ?_)
      exact ih a Q w' ka na pa qa sa Aa ma ca (levelI k) hsz (by omega) (hE.ex hx) hfa hlv (hta.ex hx)
    · obtain ⟨a, d, rfl⟩ := two_list hm
      obtain ⟨b, o, ka, na, pa, qa, sa, Aa, ma, ca, rfl, hb, h0, h1, h2, h3, h4, h5, hta⟩ := hk 0 a rfl
      obtain ⟨b', o', kb, nb, pb, qb, sb, Ab, mb, cb, hAb, hb', i0, i1, i2, i3, i4, i5, htb⟩ := hk 1 d rfl
      injection hAb with hAb
      injection hAb with hAb1 hAb2
      subst hAb1 hAb2
      have hsza : a.size ≤ N := by simp at hs; omega
      have hszb : d.size ≤ N := by simp at hs; omega
      have hfa := g6 a (List.mem_cons_self ..)
      have hfb := g6 d (List.mem_cons_of_mem _ (List.mem_cons_self ..))
      show Calls _ _ _ _ (Ret w (.string ⟨(parL (levelI k) least (bodyL k n s [wrL a, wrL d])).toArray⟩))
      rw [body_two k n s _ _ hkk]
      by_cases h3' : levelI k = 3
      · rw [if_pos h3']
        have hwa := wr_len a hfa 4
        have hwb := wr_len d hfb 4
        refine write_cmp k n p q ka na pa qa kb nb pb qb s sa sb b o c Aa Ab ma ca mb cb least (levelI k) (wrL a 4) (wrL d 4) w hkk rfl h3' hb (by simpa using h0) (by simpa using h1) (by simpa using h2) (by simpa using h3) (by simpa using h4) (by simpa using h5) i0 i1 i2 i3 i4 i5 (by omega) (by omega) (fun w' hx => ?_) (fun w' hx => ?_)
        · exact ih a Q w' ka na pa qa sa Aa ma ca 4 hsza (by omega) (hE.ex hx) hfa (by omega) (hta.ex hx)
        · exact ih d Q w' kb nb pb qb sb Ab mb cb 4 hszb (by omega) (hE.ex hx) hfb (by omega) (htb.ex hx)
      · rw [if_neg h3']
        have hwa := wr_len a hfa (levelI k)
        have hwb := wr_len d hfb (levelI k + 1)
        have hlv2 : levelI k ≤ 6 := by
          rcases hkk with rfl | rfl | rfl | rfl | rfl | rfl | rfl | rfl | rfl <;> decide
        refine write_two k n p q ka na pa qa kb nb pb qb s sa sb b o c Aa Ab ma ca mb cb least (levelI k) (wrL a (levelI k)) (wrL d (levelI k + 1)) w hkk rfl h3' hb (by simpa using h0) (by simpa using h1) (by simpa using h2) (by simpa using h3) (by simpa using h4) (by simpa using h5) i0 i1 i2 i3 i4 i5 (by omega) (by omega) (fun w' hx => ?_) (fun w' hx => ?_)
        · exact ih a Q w' ka na pa qa sa Aa ma ca (levelI k) hsza (by omega) (hE.ex hx) hfa hlv (hta.ex hx)
        · exact ih d Q w' kb nb pb qb sb Ab mb cb (levelI k + 1) hszb (by omega) (hE.ex hx) hfb (by omega) (htb.ex hx)
/-- what Text answers -/
def TextV (t : Tr) : Value := if validB t then .tuple #[.string ⟨(wrL t 0).toArray⟩, .int .i64 0] else .tuple #[.string ⟨#[]⟩, .int .i64 1]
theorem small_size {t : Tr} (h : smallB t = true) : t.size ≤ 200 := by
  unfold smallB at h
  simp only [Bool.and_eq_true, decide_eq_true_eq] at h
  exact h.1
set_option maxHeartbeats 800000 in
theorem text_c (t : Tr) (Q : Nat → Prop) (w : World) (k n p q : Int) (s : ByteArray) (A : Option Addr) (m c : Nat) (hE : Envw w) (hs : t.size ≤ 1000000) (hm : NmOk t) (ht : TrC Q w t (c6 k n p q s A m c)) :
    Calls Tryz.prog 19 #[.agg #[.int .i64 k, .int .i64 n, .int .i64 p, .int .i64 q, .string s, .slice A m c]] w (Ret w (TextV t)) := by
  have H1 := Lib.hid (fun w' (hx : Ex w w') => valid_c t Q w' k n p q s A m c hs hm (ht.ex hx))
  unfold TextV
  cases hv : validB t with
  | false =>
    rw [hv] at H1
    rw [if_neg (by simp)]
    clear ht hs hm hE hv
    go_enter Tryz.func19, Tryz.ntmps19
    go_wp2_with fail
    refine (H1.out _ ((Ex.refl _).alloc _)).mono ?_
    rintro e w' ⟨rfl, z, rfl⟩
    go_wp2_with fail
    go_ret2
    exact ⟨rfl, (((Ex.refl _).alloc _).ext _)⟩
  | true =>
    rw [hv] at H1
    rw [if_pos rfl]
    unfold validB at hv
    rw [Bool.and_eq_true] at hv
    have H2 := Lib.hid (fun w' (hx : Ex w w') => write_c t.size t Q w' k n p q s A m c 0 (Nat.le_refl _) (by have := small_size hv.1; omega) (hE.ex hx) hv.2 (by omega) (ht.ex hx))
    generalize (⟨(wrL t 0).toArray⟩ : ByteArray) = R at *
    clear ht hs hm hE hv
    go_enter Tryz.func19, Tryz.ntmps19
    go_wp2_with fail
    refine (H1.out _ ((Ex.refl _).alloc _)).mono ?_
    rintro e w' ⟨rfl, z, rfl⟩
    go_wp2_with fail
    refine (H2.out _ (((Ex.refl _).alloc _).ext _)).mono ?_
    rintro e w' ⟨rfl, z2, rfl⟩
    go_wp2_with fail
    go_ret2
    exact ⟨rfl, ((((Ex.refl _).alloc _).ext _).ext _)⟩
end Go.Proofs.YthjalkonlcjhnaaGreatDoor
