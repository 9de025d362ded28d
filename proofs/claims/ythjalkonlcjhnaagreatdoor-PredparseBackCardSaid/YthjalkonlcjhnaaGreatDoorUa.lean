/-
  Plain: the words of a written tree's text.
  Conditions: none.
-/
import Derived.Test.YthjalkonlcjhnaaGreatDoorRc
import Derived.Test.YthjalkonlcjhnaaGreatDoorQv
namespace Go.Proofs.YthjalkonlcjhnaaGreatDoor
open Go.RowKit
def chr (d : Nat) : UInt8 := UInt8.ofNat (48 + d)
theorem chr_nat {d : Nat} (h : d < 10) : (chr d).toNat = 48 + d := by
  unfold chr
  rw [UInt8.toNat_ofNat', Nat.mod_eq_of_lt (by omega)]
theorem dec_small {n : Nat} (h : n < 10) : Lib.decDigits n = [chr n] := by rw [Lib.decDigits, dif_pos h]; rfl
theorem dec_big {n : Nat} (h : ¬ n < 10) : Lib.decDigits n = Lib.decDigits (n / 10) ++ [chr (n % 10)] := by rw [Lib.decDigits, dif_neg h]; rfl
theorem dec_ne (n : Nat) : Lib.decDigits n ≠ [] := by
  by_cases h : n < 10
  · rw [dec_small h]; simp
  · rw [dec_big h]; simp
theorem dec_val (n : Nat) : valF 0 (Lib.decDigits n) = n := by
  induction n using Nat.strongRecOn with
  | _ n ih =>
    by_cases h : n < 10
    · rw [dec_small h]
      show 0 * 10 + ((chr n).toNat - 48) = n
      rw [chr_nat h]; omega
    · rw [dec_big h, valF_append, ih (n / 10) (by omega)]
      show n / 10 * 10 + ((chr (n % 10)).toNat - 48) = n
      rw [chr_nat (by omega)]; omega
theorem dec_dig (n : Nat) : (Lib.decDigits n).all digB = true := by
  induction n using Nat.strongRecOn with
  | _ n ih =>
    by_cases h : n < 10
    · rw [dec_small h]
      simp [digB_iff, chr_nat h]
      omega
    · rw [dec_big h, List.all_append, ih (n / 10) (by omega)]
      simp [digB_iff, chr_nat (show n % 10 < 10 by omega)]
      omega
theorem dec_head {n : Nat} (h0 : n ≠ 0) : ∃ c r, Lib.decDigits n = c :: r ∧ c.toNat ≠ 48 := by
  induction n using Nat.strongRecOn with
  | _ n ih =>
    by_cases h : n < 10
    · refine ⟨chr n, [], dec_small h, ?_⟩
      rw [chr_nat h]; omega
    · obtain ⟨c, r, e, hc⟩ := ih (n / 10) (by omega) (by omega)
      refine ⟨c, r ++ [chr (n % 10)], ?_, hc⟩
      rw [dec_big h, e]; rfl
theorem span_whole {p : UInt8 → Bool} {l : List UInt8} (h : l.all p = true) : spanL p l = l.length := by
  have := span_app p l [] h (fun c r e => by cases e)
  rw [List.append_nil] at this
  exact this
theorem itoa_word {n : Int} (h0 : 0 ≤ n) (h1 : n ≤ 1125899906842624) : firstL (Lib.itoa n) = (1, (Lib.itoa n).length, 0) ∧ (valF 0 (Lib.itoa n) : Int) = n := by
  obtain ⟨u, rfl⟩ : ∃ u : Nat, n = u := ⟨n.toNat, by omega⟩
  rw [Lib.itoa_nonneg]
  have hv := dec_val u
  have hd := dec_dig u
  have hne := dec_ne u
  refine ⟨?_, by rw [hv]⟩
  have hE : numE (Lib.decDigits u) = 0 := by
    unfold numE
    rw [hv, if_pos (show u ≤ 1125899906842624 by omega)]
    by_cases hu : u = 0
    · subst hu
      rw [dec_small (by omega), if_neg (by simp)]
    · obtain ⟨c, r, e, hc⟩ := dec_head hu
      rw [if_neg]
      rw [e]
      intro h
      simp only [Bool.and_eq_true, decide_eq_true_eq, List.head?_cons, Option.some.injEq] at h
      exact hc (by rw [h.2]; rfl)
  cases hl : Lib.decDigits u with
  | nil => exact absurd hl hne
  | cons c r =>
    rw [hl] at hd hE
    have hc : digB c = true := by
      rw [List.all_cons, Bool.and_eq_true] at hd
      exact hd.1
    have hs := span_whole hd
    unfold firstL
    dsimp only
    rw [if_pos hc, hs, List.take_length, hE]
theorem let_dig {c : UInt8} (h : letB c = true) : digB c = false := by
  unfold letB at h
  unfold digB
  simp only [Bool.or_eq_true, Bool.and_eq_true, decide_eq_true_eq] at h
  simp only [Bool.and_eq_false_iff, decide_eq_false_iff_not]
  omega
theorem name_word {l : List UInt8} (h : nmB l = true) : firstL l = (2, l.length, 0) ∧ l ≠ [] ∧ l.all partB = true ∧ ∃ c r, l = c :: r ∧ letB c = true := by
  unfold nmB at h
  simp only [Bool.and_eq_true, decide_eq_true_eq] at h
  obtain ⟨⟨h1, h2⟩, h3⟩ := h
  cases l with
  | nil => simp [nameL] at h1
  | cons c r =>
    unfold nameL at h1 h2
    dsimp only at h1 h2
    by_cases hc : letB c = true
    · rw [if_pos hc] at h1 h2
      have hall : (c :: r).all partB = true := by
        unfold spanL at h2
        have h5 := List.takeWhile_append_dropWhile (p := partB) (l := c :: r)
        have h6 : ((c :: r).dropWhile partB) = [] := by
          have := congrArg List.length h5
          rw [List.length_append, h2] at this
          exact List.eq_nil_of_length_eq_zero (by omega)
        rw [h6, List.append_nil] at h5
        rw [← h5]
        exact List.all_takeWhile
      refine ⟨?_, List.cons_ne_nil _ _, hall, c, r, rfl, hc⟩
      unfold firstL
      dsimp only
      rw [if_neg (by rw [let_dig hc]; simp), if_pos hc, h2, if_pos h3]
    · rw [if_neg hc] at h1
      omega
theorem lx_word {l : List UInt8} {k : Nat} (h : firstL l = (k, l.length, 0)) (hk : k ≠ 4) : Lx l [(k, l)] := by
  have := Lx.next [] l k l.length [] rfl h hk (by rw [List.drop_length]; exact .fin [] rfl)
  rw [List.nil_append, List.take_length] at this
  exact this
theorem lx_then {l b : List UInt8} {k : Nat} {vs : List K} (h : firstL l = (k, l.length, 0)) (hk : k ≠ 4) (hs : Stop b) (hb : Lx b vs) : Lx (l ++ b) ((k, l) :: vs) := lx_app (lx_word h hk) hs hb
theorem two_parts {s : ByteArray} {c : UInt8} (h : twoB s c = true) : ∃ a b : List UInt8, s.data.toList = a ++ c :: b ∧ nmB a = true ∧ keyB ⟨a.toArray⟩ = false ∧ nmB b = true ∧ keyB ⟨b.toArray⟩ = false := by
  unfold twoB at h
  split at h
  · cases h
  · rename_i h1
    rcases index_cases s c with hi | ⟨n, hn, hi⟩
    · exact absurd hi h1
    · rw [hi, Int.toNat_natCast] at h
      simp only [Bool.and_eq_true] at h
      obtain ⟨ha, hb⟩ := h
      unfold wordB at ha hb
      simp only [Bool.and_eq_true, Bool.not_eq_true'] at ha hb
      have hget := (Lib.indexByte_some hi).1
      have hn' : n < s.data.toList.length := by rw [← size_data]; exact hn
      refine ⟨s.data.toList.take n, s.data.toList.drop (n + 1), ?_, ?_, ?_, ?_, ?_⟩
      · have e : s.data.toList.drop n = c :: s.data.toList.drop (n + 1) := by
          rw [List.drop_eq_getElem_cons hn']
          congr 1
          rw [List.getElem?_eq_getElem hn'] at hget
          injection hget
        rw [← e, List.take_append_drop]
      · have e : (cutA s n).data.toList = s.data.toList.take n := by unfold cutA; rw [extract_take]
        rw [← e]; exact ha.1
      · have e : (cutA s n).data.toList = s.data.toList.take n := by unfold cutA; rw [extract_take]
        rw [← e, ← lift_data]; exact ha.2
      · have e : (cutB s n).data.toList = s.data.toList.drop (n + 1) := by unfold cutB; rw [drop_data]
        rw [← e]; exact hb.1
      · have e : (cutB s n).data.toList = s.data.toList.drop (n + 1) := by unfold cutB; rw [drop_data]
        rw [← e, ← lift_data]; exact hb.2
/-- the words of a name with a byte within -/
def cutK (l : List UInt8) (c : UInt8) : List K := [(2, l.takeWhile (· != c)), (3, [c]), (2, (l.dropWhile (· != c)).tail)]
theorem part_ne {c d : UInt8} (hc : partB c = false) (hd : partB d = true) : (d != c) = true := by
  rw [bne_iff_ne]
  rintro rfl
  rw [hc] at hd; cases hd
theorem cutK_eq {a b : List UInt8} {c : UInt8} (ha : a.all partB = true) (hc : partB c = false) : cutK (a ++ c :: b) c = [(2, a), (3, [c]), (2, b)] := by
  have h1 : ∀ x ∈ a, (x != c) = true := fun x hx => part_ne hc (List.all_eq_true.1 ha x hx)
  unfold cutK
  have e1 : (a ++ c :: b).takeWhile (· != c) = a := by
    rw [List.takeWhile_append_of_pos h1, List.takeWhile_cons]
    simp
  have e2 : (a ++ c :: b).dropWhile (· != c) = c :: b := by
    rw [List.dropWhile_append_of_pos h1, List.dropWhile_cons]
    simp
  rw [e1, e2]; rfl
def unW (k : Int) : K := if k = 15 then (2, [110, 111, 116]) else if k = 18 then (2, [69, 70]) else if k = 19 then (2, [65, 70]) else if k = 20 then (2, [69, 71]) else if k = 21 then (2, [65, 71]) else (3, [45])
def binW (k : Int) : K := if k = 17 then (2, [111, 114]) else if k = 16 then (2, [97, 110, 100]) else if k = 9 then (3, [61]) else if k = 10 then (3, [33, 61]) else if k = 11 then (3, [60]) else if k = 12 then (3, [60, 61]) else if k = 6 then (3, [43]) else if k = 7 then (3, [45]) else (3, [42])
def bodyK (k n : Int) (s : ByteArray) (fs : List (Nat → List K)) : List K :=
  if k = 1 then [(1, Lib.itoa n)] else if k = 2 then cutK s.data.toList 46 else if k = 3 then [(2, [99, 111, 117, 110, 116]), (3, [40]), (2, s.data.toList), (3, [41])] else if k = 4 then (2, [99, 104, 97, 110, 110, 101, 108]) :: (3, [40]) :: (cutK s.data.toList 44 ++ [(3, [41])]) else if k = 13 then [(2, [116, 114, 117, 101])] else if k = 14 then [(2, [102, 97, 108, 115, 101])] else
  match fs with
  | [f] => unW k :: f (levelI k)
  | [f, g] => if levelI k = 3 then f 4 ++ binW k :: g 4 else f (levelI k) ++ binW k :: g (levelI k + 1)
  | _ => []
def parK (own least : Nat) (b : List K) : List K := if own < least then (3, [40]) :: (b ++ [kClose]) else b
/-- the words of a tree's text where a level is asked for -/
def wrK : Tr → Nat → List K
  | .node k n _ _ s l => fun least => parK (levelI k) least (bodyK k n s (l.map wrK))
theorem wrK_node (k n p q : Int) (s : ByteArray) (l : List Tr) (least : Nat) : wrK (.node k n p q s l) least = parK (levelI k) least (bodyK k n s (l.map wrK)) := by
  conv => lhs; unfold wrK
theorem bodyK_one (k n : Int) (s : ByteArray) (f : Nat → List K) (h : k = 5 ∨ k = 15 ∨ k = 18 ∨ k = 19 ∨ k = 20 ∨ k = 21) : bodyK k n s [f] = unW k :: f (levelI k) := by
  unfold bodyK
  rw [if_neg (by omega), if_neg (by omega), if_neg (by omega), if_neg (by omega), if_neg (by omega), if_neg (by omega)]
theorem bodyK_two (k n : Int) (s : ByteArray) (f g : Nat → List K) (h : k = 6 ∨ k = 7 ∨ k = 8 ∨ k = 9 ∨ k = 10 ∨ k = 11 ∨ k = 12 ∨ k = 16 ∨ k = 17) : bodyK k n s [f, g] = if levelI k = 3 then f 4 ++ binW k :: g 4 else f (levelI k) ++ binW k :: g (levelI k + 1) := by
  unfold bodyK
  rw [if_neg (by omega), if_neg (by omega), if_neg (by omega), if_neg (by omega), if_neg (by omega), if_neg (by omega)]
theorem node_names {k p q : Int} {s : ByteArray} (h : nodeB k p q s = true) : p = 0 ∧ q = 0 ∧ (k = 2 → twoB s 46 = true) ∧ (k = 3 → wordB s = true) ∧ (k = 4 → twoB s 44 = true) ∧ (k ≠ 2 → k ≠ 3 → k ≠ 4 → s.size = 0) := by
  unfold nodeB at h
  split at h
  · split at h
    · rename_i hp hq
      refine ⟨hp, hq, fun e => ?_, fun e => ?_, fun e => ?_, fun e e2 e3 => ?_⟩
      · rw [if_pos e] at h; exact h
      · rw [if_neg (by omega), if_pos e] at h; exact h
      · rw [if_neg (by omega), if_neg (by omega), if_pos e] at h; exact h
      · rw [if_neg e, if_neg e2, if_neg e3] at h; exact of_decide_eq_true h
    · cases h
  · cases h
theorem stop32 (r : List UInt8) : Stop (32 :: r) := .inr ⟨32, r, rfl, .inl (by decide)⟩
theorem stop_nil : Stop [] := .inl rfl
theorem un_lx (k : Int) (h : k = 5 ∨ k = 15 ∨ k = 18 ∨ k = 19 ∨ k = 20 ∨ k = 21) {b : List UInt8} {vs : List K} (hb : Lx b vs) : Lx ((beforeS k).data.toList ++ b) (unW k :: vs) := by
  rcases h with rfl | rfl | rfl | rfl | rfl | rfl
  · exact lx_one (c := 45) (by decide) hb
  · exact lx_then (l := [110, 111, 116]) (b := 32 :: b) (k := 2) (by kernel_rfl) (by decide) (stop32 _) (lx_blank (b := [32]) rfl hb)
  · exact lx_then (l := [69, 70]) (b := 32 :: b) (k := 2) (by kernel_rfl) (by decide) (stop32 _) (lx_blank (b := [32]) rfl hb)
  · exact lx_then (l := [65, 70]) (b := 32 :: b) (k := 2) (by kernel_rfl) (by decide) (stop32 _) (lx_blank (b := [32]) rfl hb)
  · exact lx_then (l := [69, 71]) (b := 32 :: b) (k := 2) (by kernel_rfl) (by decide) (stop32 _) (lx_blank (b := [32]) rfl hb)
  · exact lx_then (l := [65, 71]) (b := 32 :: b) (k := 2) (by kernel_rfl) (by decide) (stop32 _) (lx_blank (b := [32]) rfl hb)
theorem bin_lx (k : Int) (h : k = 6 ∨ k = 7 ∨ k = 8 ∨ k = 9 ∨ k = 10 ∨ k = 11 ∨ k = 12 ∨ k = 16 ∨ k = 17) {b : List UInt8} {vs : List K} (hb : Lx b vs) : Lx ((betweenS k).data.toList ++ b) (binW k :: vs) ∧ Stop ((betweenS k).data.toList ++ b) := by
  rcases h with rfl | rfl | rfl | rfl | rfl | rfl | rfl | rfl | rfl
  · exact ⟨lx_blank (b := [32]) rfl (lx_then (l := [43]) (b := 32 :: b) (k := 3) (by kernel_rfl) (by decide) (stop32 _) (lx_blank (b := [32]) rfl hb)), stop32 _⟩
  · exact ⟨lx_blank (b := [32]) rfl (lx_then (l := [45]) (b := 32 :: b) (k := 3) (by kernel_rfl) (by decide) (stop32 _) (lx_blank (b := [32]) rfl hb)), stop32 _⟩
  · exact ⟨lx_blank (b := [32]) rfl (lx_then (l := [42]) (b := 32 :: b) (k := 3) (by kernel_rfl) (by decide) (stop32 _) (lx_blank (b := [32]) rfl hb)), stop32 _⟩
  · exact ⟨lx_blank (b := [32]) rfl (lx_then (l := [61]) (b := 32 :: b) (k := 3) (by kernel_rfl) (by decide) (stop32 _) (lx_blank (b := [32]) rfl hb)), stop32 _⟩
  · exact ⟨lx_blank (b := [32]) rfl (lx_then (l := [33, 61]) (b := 32 :: b) (k := 3) (by kernel_rfl) (by decide) (stop32 _) (lx_blank (b := [32]) rfl hb)), stop32 _⟩
  · exact ⟨lx_blank (b := [32]) rfl (lx_then (l := [60]) (b := 32 :: b) (k := 3) (by kernel_rfl) (by decide) (stop32 _) (lx_blank (b := [32]) rfl hb)), stop32 _⟩
  · exact ⟨lx_blank (b := [32]) rfl (lx_then (l := [60, 61]) (b := 32 :: b) (k := 3) (by kernel_rfl) (by decide) (stop32 _) (lx_blank (b := [32]) rfl hb)), stop32 _⟩
  · exact ⟨lx_blank (b := [32]) rfl (lx_then (l := [97, 110, 100]) (b := 32 :: b) (k := 2) (by kernel_rfl) (by decide) (stop32 _) (lx_blank (b := [32]) rfl hb)), stop32 _⟩
  · exact ⟨lx_blank (b := [32]) rfl (lx_then (l := [111, 114]) (b := 32 :: b) (k := 2) (by kernel_rfl) (by decide) (stop32 _) (lx_blank (b := [32]) rfl hb)), stop32 _⟩
theorem wr_lx : ∀ t : Tr, formedB nodeB t = true → ∀ least, Lx (wrL t least) (wrK t least) := by
  refine Tr.induct ?_
  intro k n p q s l ih h least
  obtain ⟨h1, h2, h3, h4, h5, h6⟩ := formed_parts h
  obtain ⟨_, _, n2, n3, n4, n5⟩ := node_names h5
  rw [wrL_node, wrK_node]
  have hbody : Lx (bodyL k n s (l.map wrL)) (bodyK k n s (l.map wrK)) := by
    rcases parts_cases k l.length h1 with ⟨hm, hk⟩ | ⟨hm, hk⟩ | ⟨hm, hk⟩
    · have hnil : l = [] := List.eq_nil_of_length_eq_zero hm
      subst hnil
      unfold bodyL bodyK
      rcases hk with rfl | rfl | rfl | rfl | rfl | rfl
      · rw [if_pos rfl, if_pos rfl]
        exact lx_word (itoa_word h3 h4).1 (by decide)
      · rw [if_neg (by omega), if_pos rfl, if_neg (by omega), if_pos rfl]
        obtain ⟨a, b, e, ha, _, hb, _⟩ := two_parts (n2 rfl)
        rw [e, cutK_eq (name_word ha).2.2.1 (by decide)]
        exact lx_then (name_word ha).1 (by decide) (.inr ⟨46, b, rfl, .inr (.inr (.inr (.inr rfl)))⟩) (lx_one (by decide) (lx_word (name_word hb).1 (by decide)))
      · rw [if_neg (by omega), if_neg (by omega), if_pos rfl, if_neg (by omega), if_neg (by omega), if_pos rfl]
        have hw := n3 rfl
        unfold wordB at hw
        rw [Bool.and_eq_true] at hw
        have e : [99, 111, 117, 110, 116, 40] ++ s.data.toList ++ [41] = [99, 111, 117, 110, 116] ++ (40 :: (s.data.toList ++ [41])) := by simp
        rw [e]
        exact lx_then (k := 2) (by kernel_rfl) (by decide) (stop_open _) (lx_one (by decide) (lx_then (name_word hw.1).1 (by decide) (stop_close _) (lx_one (by decide) (.fin [] rfl))))
      · rw [if_neg (by omega), if_neg (by omega), if_neg (by omega), if_pos rfl, if_neg (by omega), if_neg (by omega), if_neg (by omega), if_pos rfl]
        obtain ⟨a, b, e, ha, _, hb, _⟩ := two_parts (n4 rfl)
        rw [e, cutK_eq (name_word ha).2.2.1 (by decide)]
        have e2 : [99, 104, 97, 110, 110, 101, 108, 40] ++ (a ++ 44 :: b) ++ [41] = [99, 104, 97, 110, 110, 101, 108] ++ (40 :: (a ++ (44 :: (b ++ [41])))) := by simp
        rw [e2]
        exact lx_then (k := 2) (by kernel_rfl) (by decide) (stop_open _) (lx_one (by decide) (lx_then (name_word ha).1 (by decide) (.inr ⟨44, _, rfl, .inr (.inr (.inr (.inl rfl)))⟩) (lx_one (by decide) (lx_then (name_word hb).1 (by decide) (stop_close _) (lx_one (by decide) (.fin [] rfl))))))
      · rw [if_neg (by omega), if_neg (by omega), if_neg (by omega), if_neg (by omega), if_pos rfl, if_neg (by omega), if_neg (by omega), if_neg (by omega), if_neg (by omega), if_pos rfl]
        exact lx_word (by kernel_rfl) (by decide)
      · rw [if_neg (by omega), if_neg (by omega), if_neg (by omega), if_neg (by omega), if_neg (by omega), if_pos rfl, if_neg (by omega), if_neg (by omega), if_neg (by omega), if_neg (by omega), if_neg (by omega), if_pos rfl]
        exact lx_word (by kernel_rfl) (by decide)
    · obtain ⟨a, rfl⟩ := one_list hm
      show Lx (bodyL k n s [wrL a]) (bodyK k n s [wrK a])
      rw [body_one k n s _ hk, bodyK_one k n s _ hk]
      exact un_lx k hk (ih a (List.mem_cons_self ..) (h6 a (List.mem_cons_self ..)) _)
    · obtain ⟨a, b, rfl⟩ := two_list hm
      have iha := ih a (List.mem_cons_self ..) (h6 a (List.mem_cons_self ..))
      have ihb := ih b (List.mem_cons_of_mem _ (List.mem_cons_self ..)) (h6 b (List.mem_cons_of_mem _ (List.mem_cons_self ..)))
      show Lx (bodyL k n s [wrL a, wrL b]) (bodyK k n s [wrK a, wrK b])
      rw [body_two k n s _ _ hk, bodyK_two k n s _ _ hk]
      split
      · obtain ⟨q1, q2⟩ := bin_lx k hk (ihb 4)
        rw [List.append_assoc]
        exact lx_app (iha 4) q2 q1
      · obtain ⟨q1, q2⟩ := bin_lx k hk (ihb (levelI k + 1))
        rw [List.append_assoc]
        exact lx_app (iha (levelI k)) q2 q1
  unfold parL parK
  split
  · exact lx_one (by decide) (lx_app hbody (stop_close _) (lx_one (by decide) (.fin [] rfl)))
  · exact hbody
theorem body_leaf_level {k : Int} (hk : k = 1 ∨ k = 2 ∨ k = 3 ∨ k = 4 ∨ k = 13 ∨ k = 14) : levelI k = 7 := by
  rcases hk with rfl | rfl | rfl | rfl | rfl | rfl <;> decide
theorem wr_words : ∀ t : Tr, formedB nodeB t = true → ∀ least, least ≤ 7 → 2 * (wrK t least).length ≤ 9 * t.size + 3 ∧ (wrL t least).length ≤ 42 * t.size := by
  refine Tr.induct ?_
  intro k n p q s l ih h least hl7
  obtain ⟨h1, h2, h3, h4, h5, h6⟩ := formed_parts h
  have hs := name_len h5
  rw [size_data] at hs
  rw [wrL_node, wrK_node, Tr.size_node]
  rcases parts_cases k l.length h1 with ⟨hm, hk⟩ | ⟨hm, hk⟩ | ⟨hm, hk⟩
  · have hnil : l = [] := List.eq_nil_of_length_eq_zero hm
    subst hnil
    have hlv := body_leaf_level hk
    unfold parL parK
    rw [hlv, if_neg (by omega), if_neg (by omega)]
    have hi := itoa_len h3 h4
    unfold bodyL bodyK cutK
    rcases hk with rfl | rfl | rfl | rfl | rfl | rfl
    · rw [if_pos rfl, if_pos rfl]; simp; omega
    · rw [if_neg (by omega), if_pos rfl, if_neg (by omega), if_pos rfl]; simp at hs ⊢; omega
    · rw [if_neg (by omega), if_neg (by omega), if_pos rfl, if_neg (by omega), if_neg (by omega), if_pos rfl]; simp at hs ⊢; omega
    · rw [if_neg (by omega), if_neg (by omega), if_neg (by omega), if_pos rfl, if_neg (by omega), if_neg (by omega), if_neg (by omega), if_pos rfl]; simp at hs ⊢; omega
    · rw [if_neg (by omega), if_neg (by omega), if_neg (by omega), if_neg (by omega), if_pos rfl, if_neg (by omega), if_neg (by omega), if_neg (by omega), if_neg (by omega), if_pos rfl]; simp
    · rw [if_neg (by omega), if_neg (by omega), if_neg (by omega), if_neg (by omega), if_neg (by omega), if_pos rfl, if_neg (by omega), if_neg (by omega), if_neg (by omega), if_neg (by omega), if_neg (by omega), if_pos rfl]; simp
  · obtain ⟨a, rfl⟩ := one_list hm
    have ha := ih a (List.mem_cons_self ..) (h6 a (List.mem_cons_self ..)) (levelI k) (level_le k)
    have hb := before_len k
    rw [size_data] at hb
    show 2 * (parK _ _ (bodyK k n s [wrK a])).length ≤ _ ∧ (parL _ _ (bodyL k n s [wrL a])).length ≤ _
    rw [body_one k n s _ hk, bodyK_one k n s _ hk]
    have hp := par_len (levelI k) least ((beforeS k).data.toList ++ wrL a (levelI k))
    have hp2 : (parK (levelI k) least (unW k :: wrK a (levelI k))).length ≤ (wrK a (levelI k)).length + 3 := by
      unfold parK
      split <;> simp
    simp only [List.length_append, List.map_cons, List.map_nil, List.sum_cons, List.sum_nil] at hp ⊢
    omega
  · obtain ⟨a, b, rfl⟩ := two_list hm
    have hlv2 : levelI k ≤ 6 := by
      rcases hk with rfl | rfl | rfl | rfl | rfl | rfl | rfl | rfl | rfl <;> decide
    have ha := ih a (List.mem_cons_self ..) (h6 a (List.mem_cons_self ..))
    have hb := ih b (List.mem_cons_of_mem _ (List.mem_cons_self ..)) (h6 b (List.mem_cons_of_mem _ (List.mem_cons_self ..)))
    have ha1 := ha 4 (by omega)
    have ha2 := ha (levelI k) (by omega)
    have hb1 := hb 4 (by omega)
    have hb2 := hb (levelI k + 1) (by omega)
    have hbt := between_len k
    rw [size_data] at hbt
    show 2 * (parK _ _ (bodyK k n s [wrK a, wrK b])).length ≤ _ ∧ (parL _ _ (bodyL k n s [wrL a, wrL b])).length ≤ _
    rw [body_two k n s _ _ hk, bodyK_two k n s _ _ hk]
    have pk : ∀ b, (parK (levelI k) least b).length ≤ b.length + 2 := fun b => by
      unfold parK
      split
      · simp
      · omega
    simp only [List.map_cons, List.map_nil, List.sum_cons, List.sum_nil]
    split
    · have q1 := par_len (levelI k) least (wrL a 4 ++ (betweenS k).data.toList ++ wrL b 4)
      have q2 := pk (wrK a 4 ++ binW k :: wrK b 4)
      simp only [List.length_append, List.length_cons] at q1 q2
      omega
    · have q1 := par_len (levelI k) least (wrL a (levelI k) ++ (betweenS k).data.toList ++ wrL b (levelI k + 1))
      have q2 := pk (wrK a (levelI k) ++ binW k :: wrK b (levelI k + 1))
      simp only [List.length_append, List.length_cons] at q1 q2
      omega
end Go.Proofs.YthjalkonlcjhnaaGreatDoor
