/-
  The examples of the chapter, walked.
  Conditions: the world's tables are as laid (Envw).
-/
import Derived.Test.YthjalkonlcjhnaaGreatDoorRc
import Derived.Test.YthjalkonlcjhnaaGreatDoorQt
namespace Go.Proofs.YthjalkonlcjhnaaGreatDoor
open Go.RowKit
def exT : Tr := nd 16 [nd 15 [nd 9 [nameT 2 [112, 46, 120], numT 1]], nd 11 [numT 2, nameT 2 [113, 46, 121]]]
def parseP (s : List UInt8) : PR := match lexL 1000 s (1, 1) with
  | .bad _ _ => .stuck
  | .ok l => parse (l.map key)
theorem parseO_of {s : List UInt8} {t : Tr} {r : List K} (hl : s.length ≤ 16384) (h : parseP s = .ok t r) (h4 : (hd r).1 = 4) : parseO s = if smallB t then .tree t else .err (0, 0) 5 := by
  unfold parseP at h
  unfold parseO
  rw [if_neg (by omega)]
  cases hx : lexL 1000 s (1, 1) with
  | bad p n => rw [hx] at h; cases h
  | ok l =>
    rw [hx] at h
    dsimp only at h ⊢
    unfold treeO
    rw [h]
    dsimp only
    rw [if_pos h4]
theorem ex1 : parseP [110, 111, 116, 32, 112, 46, 120, 32, 61, 32, 49, 32, 97, 110, 100, 32, 113, 46, 121, 32, 62, 32, 50] = .ok exT [(4, [])] := by kernel_rfl
theorem ex_size : exT.size = 8 := by
  unfold exT
  simp [nd_size2, nd_size1, num_size, name_size]
theorem ex_depth : exT.depth ≤ 8 := by rw [← ex_size]; exact Tr.depth_le _
theorem ex_small : smallB exT = true := by
  unfold smallB
  rw [ex_size, decide_eq_true (show exT.depth ≤ 20 by have := ex_depth; omega)]
  rfl
theorem awake1 : parseO [110, 111, 116, 32, 112, 46, 120, 32, 61, 32, 49, 32, 97, 110, 100, 32, 113, 46, 121, 32, 62, 32, 50] = .tree exT := by
  rw [parseO_of (by decide) ex1 rfl, ex_small]
  rfl
theorem awake2 : parseO [112, 46, 120, 32, 61, 32, 49, 32, 61, 32, 50] = .err (1, 9) 3 := by kernel_rfl
theorem awake3 : parseO [112, 46] = .err (1, 3) 4 := by kernel_rfl
theorem ex_two1 : nodeB 2 0 0 ⟨#[112, 46, 120]⟩ = true := by kernel_rfl
theorem ex_two2 : nodeB 2 0 0 ⟨#[113, 46, 121]⟩ = true := by kernel_rfl
theorem ex_nil (k : Int) (h : k ≠ 2) (h' : k ≠ 3) (h2 : k ≠ 4) : nodeB k 0 0 ⟨#[]⟩ = true := by
  unfold nodeB
  rw [if_pos rfl, if_pos rfl, if_neg h, if_neg h', if_neg h2]
  rfl
theorem ex_formed : formedB nodeB exT = true := by
  unfold exT nd nameT numT
  simp only [formed_node, List.any_cons, List.any_nil, ex_two1, ex_two2, ex_nil 16 (by decide) (by decide) (by decide), ex_nil 15 (by decide) (by decide) (by decide), ex_nil 9 (by decide) (by decide) (by decide), ex_nil 11 (by decide) (by decide) (by decide), ex_nil 1 (by decide) (by decide) (by decide)]
  decide
theorem itoa1 : Lib.itoa 1 = [49] := by simp [Lib.itoa, Lib.decDigits]
theorem itoa2 : Lib.itoa 2 = [50] := by simp [Lib.itoa, Lib.decDigits]
theorem ex_text : wrL exT 0 = [110, 111, 116, 32, 112, 46, 120, 32, 61, 32, 49, 32, 97, 110, 100, 32, 50, 32, 60, 32, 113, 46, 121] := by
  unfold exT nd nameT numT
  simp [wrL_node, bodyL, parL, levelI, beforeS, betweenS, itoa1, itoa2]
theorem ex_valid : validB exT = true := by
  unfold validB
  rw [ex_small, ex_formed]; rfl
theorem ex_names : NmOk exT := by
  unfold exT nd nameT numT
  have h : ∀ n : Nat, n ≤ 3 → n ≤ maxLen := fun n h => by unfold maxLen; omega
  refine .node _ _ _ _ _ _ (h _ (by decide)) fun x hx => ?_
  simp only [List.mem_cons, List.not_mem_nil, or_false] at hx
  rcases hx with rfl | rfl
  · refine .node _ _ _ _ _ _ (h _ (by decide)) fun x hx => ?_
    simp only [List.mem_cons, List.not_mem_nil, or_false] at hx
    subst hx
    refine .node _ _ _ _ _ _ (h _ (by decide)) fun x hx => ?_
    simp only [List.mem_cons, List.not_mem_nil, or_false] at hx
    rcases hx with rfl | rfl
    · exact .node _ _ _ _ _ _ (h _ (by decide)) fun x hx => by cases hx
    · exact .node _ _ _ _ _ _ (h _ (by decide)) fun x hx => by cases hx
  · refine .node _ _ _ _ _ _ (h _ (by decide)) fun x hx => ?_
    simp only [List.mem_cons, List.not_mem_nil, or_false] at hx
    rcases hx with rfl | rfl
    · exact .node _ _ _ _ _ _ (h _ (by decide)) fun x hx => by cases hx
    · exact .node _ _ _ _ _ _ (h _ (by decide)) fun x hx => by cases hx
theorem ex_tv : TextV exT = .tuple #[.string ⟨#[110, 111, 116, 32, 112, 46, 120, 32, 61, 32, 49, 32, 97, 110, 100, 32, 50, 32, 60, 32, 113, 46, 121]⟩, .int .i64 0] := by
  unfold TextV
  rw [ex_valid, if_pos rfl, ex_text]
theorem awake_c (w : World) (hE : Envw w) : Calls Tryz.prog 7 #[] w (Ret w (.bool true)) := by
  have H1 : Hid (∀ w', Ex w w' → Calls Tryz.prog 23 #[.string ⟨#[110, 111, 116, 32, 112, 46, 120, 32, 61, 32, 49, 32, 97, 110, 100, 32, 113, 46, 121, 32, 62, 32, 50]⟩] w' (ParseR w' (.tree exT))) := fun w' hx => by
    have := parse_c ⟨#[110, 111, 116, 32, 112, 46, 120, 32, 61, 32, 49, 32, 97, 110, 100, 32, 113, 46, 121, 32, 62, 32, 50]⟩ w' (hE.1.ex hx)
    rw [show (⟨#[110, 111, 116, 32, 112, 46, 120, 32, 61, 32, 49, 32, 97, 110, 100, 32, 113, 46, 121, 32, 62, 32, 50]⟩ : ByteArray).data.toList = [110, 111, 116, 32, 112, 46, 120, 32, 61, 32, 49, 32, 97, 110, 100, 32, 113, 46, 121, 32, 62, 32, 50] from rfl, awake1] at this
    exact this
  have H2 : Hid (∀ w', Ex w w' → Calls Tryz.prog 23 #[.string ⟨#[112, 46, 120, 32, 61, 32, 49, 32, 61, 32, 50]⟩] w' (ParseR w' (.err (1, 9) 3))) := fun w' hx => by
    have := parse_c ⟨#[112, 46, 120, 32, 61, 32, 49, 32, 61, 32, 50]⟩ w' (hE.1.ex hx)
    rw [show (⟨#[112, 46, 120, 32, 61, 32, 49, 32, 61, 32, 50]⟩ : ByteArray).data.toList = [112, 46, 120, 32, 61, 32, 49, 32, 61, 32, 50] from rfl, awake2] at this
    exact this
  have H3 : Hid (∀ w', Ex w w' → Calls Tryz.prog 23 #[.string ⟨#[112, 46]⟩] w' (ParseR w' (.err (1, 3) 4))) := fun w' hx => by
    have := parse_c ⟨#[112, 46]⟩ w' (hE.1.ex hx)
    rw [show (⟨#[112, 46]⟩ : ByteArray).data.toList = [112, 46] from rfl, awake3] at this
    exact this
  have HT : Hid (∀ (w' : World) Q k n p q s A m c, Ex w w' → TrC Q w' exT (c6 k n p q s A m c) → Calls Tryz.prog 19 #[.agg #[.int .i64 k, .int .i64 n, .int .i64 p, .int .i64 q, .string s, .slice A m c]] w' (Ret w' (.tuple #[.string ⟨#[110, 111, 116, 32, 112, 46, 120, 32, 61, 32, 49, 32, 97, 110, 100, 32, 50, 32, 60, 32, 113, 46, 121]⟩, .int .i64 0]))) := fun w' Q k n p q s A m c hx ht => by
    have := text_c exT Q w' k n p q s A m c (hE.ex hx) (by rw [ex_size]; omega) ex_names ht
    rw [ex_tv] at this
    exact this
  unfold ParseR at H1 H2 H3
  dsimp only at H1 H2 H3
  generalize exT = X at *
  clear hE
  go_enter Tryz.func7, Tryz.ntmps7
  go_wp2_with fail
  refine (H1.out _ (Ex.refl _)).mono ?_
  rintro e w1 ⟨k, n, p, q, s, A, m, c, rfl, ht, z1, rfl⟩
  have HT1 := Lib.hid ht
  clear ht
  go_wp2_with fail
  refine (HT.out _ _ k n p q s A m c (by repeat (first | exact Ex.refl _ | exact ⟨_, rfl⟩ | refine Ex.alloc ?_ _ | refine Ex.ext ?_ _)) (HT1.out.ex (by repeat (first | exact Ex.refl _ | refine Ex.alloc ?_ _)))).mono ?_
  rintro e w2 ⟨rfl, z2, rfl⟩
  go_wp2_with fail
  refine (H2.out _ (by repeat (first | exact Ex.refl _ | refine Ex.alloc ?_ _ | refine Ex.ext ?_ _))).mono ?_
  rintro e w3 ⟨rfl, z3, rfl⟩
  go_wp2_with fail
  refine (H3.out _ (by repeat (first | exact Ex.refl _ | refine Ex.alloc ?_ _ | refine Ex.ext ?_ _))).mono ?_
  rintro e w4 ⟨rfl, z4, rfl⟩
  go_wp2_with fail
  go_ret
  exact Ret.mk rfl (by repeat (first | exact Ex.refl _ | refine Ex.alloc ?_ _ | refine Ex.ext ?_ _))
end Go.Proofs.YthjalkonlcjhnaaGreatDoor
