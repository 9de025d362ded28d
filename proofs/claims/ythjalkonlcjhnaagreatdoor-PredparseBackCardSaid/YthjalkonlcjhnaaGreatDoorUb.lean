/-
  Plain: a written tree's text is parsed as this tree.
  Conditions: none.
-/
import Derived.Test.YthjalkonlcjhnaaGreatDoorUa
namespace Go.Proofs.YthjalkonlcjhnaaGreatDoor
open Go.RowKit
/-- no level from lv on goes on with the word w -/
def stopB (lv : Nat) (w : K) : Bool := (List.range 7).all fun j => decide (j < lv) || ((pick (joints j) w).isNone && (decide (j ≠ 3) || ((pick cmp1 w).isNone && (pick cmp2 w).isNone)))
theorem stop_at {lv : Nat} {w : K} (h : stopB lv w = true) {j : Nat} (h1 : lv ≤ j) (h2 : j < 7) : pick (joints j) w = none ∧ (j = 3 → pick cmp1 w = none ∧ pick cmp2 w = none) := by
  unfold stopB at h
  rw [List.all_eq_true] at h
  have := h j (by simpa using h2)
  simp only [Bool.or_eq_true, Bool.and_eq_true, decide_eq_true_eq, Option.isNone_iff_eq_none] at this
  rcases this with h3 | ⟨h3, h4⟩
  · omega
  · refine ⟨h3, fun e => ?_⟩
    rcases h4 with h4 | h4
    · exact absurd e h4
    · exact h4
theorem stop_mono {lv lv' : Nat} {w : K} (h : stopB lv w = true) (hl : lv ≤ lv') : stopB lv' w = true := by
  unfold stopB at h ⊢
  rw [List.all_eq_true] at h ⊢
  intro j hj
  have := h j hj
  simp only [Bool.or_eq_true, decide_eq_true_eq] at this ⊢
  rcases this with h1 | h1
  · exact .inl (by omega)
  · exact .inr h1
/-- a word that begins a text of a level -/
def FB (a : K) (lv : Nat) : Prop := (3 ≤ lv → pick prefs a = none) ∧ (7 ≤ lv → isT a [45] = false)
theorem FB.le {a : K} {lv lv' : Nat} (h : FB a lv) (hl : lv' ≤ lv) : FB a lv' := ⟨fun h1 => h.1 (by omega), fun h1 => h.2 (by omega)⟩
theorem fb_open (lv : Nat) : FB (3, [40]) lv := ⟨fun _ => by decide, fun _ => by decide⟩
theorem isT_first {l S : List UInt8} {k : Nat} (h : (firstL l).1 ≠ (firstL S).1) : isT (k, l) S = false := by
  unfold isT
  rw [Bool.and_eq_false_iff]
  right
  refine decide_eq_false fun e => h ?_
  have e2 : l = S := e
  rw [e2]
theorem pick_false {js : List (List UInt8 × Int)} {w : K} (h : ∀ j ∈ js, isT w j.1 = false) : pick js w = none := by
  unfold pick
  rw [List.find?_eq_none.2]
  · rfl
  · intro x hx
    rw [h x hx]; simp
theorem fb_num {l : List UInt8} (h : (firstL l).1 = 1) (lv : Nat) : FB (1, l) lv := by
  refine ⟨fun _ => pick_false fun j hj => ?_, fun _ => isT_first (by rw [h]; decide)⟩
  unfold prefs at hj
  simp only [List.mem_cons, List.not_mem_nil, or_false] at hj
  rcases hj with rfl | rfl | rfl | rfl | rfl <;> exact isT_first (by rw [h]; decide)
theorem key_word {l S : List UInt8} (hk : keyB ⟨l.toArray⟩ = false) (hS : keyB ⟨S.toArray⟩ = true) (k : Nat) : isT (k, l) S = false := by
  unfold isT
  rw [Bool.and_eq_false_iff]
  right
  refine decide_eq_false fun e => ?_
  have e2 : l = S := e
  rw [e2, hS] at hk; cases hk
theorem fb_name {l : List UInt8} (h : nmB l = true) (hk : keyB ⟨l.toArray⟩ = false) (lv : Nat) : FB (2, l) lv := by
  refine ⟨fun _ => pick_false fun j hj => ?_, fun _ => isT_first (by rw [(name_word h).1]; show (2 : Nat) ≠ _; decide)⟩
  unfold prefs at hj
  simp only [List.mem_cons, List.not_mem_nil, or_false] at hj
  rcases hj with rfl | rfl | rfl | rfl | rfl <;> exact key_word hk (by kernel_rfl) 2
theorem hd_app2 {s : List K} (h : s ≠ []) (e : List K) : hd (s ++ e) = hd s := hd_app h e
theorem un_own {k : Int} (h : k = 5 ∨ k = 15 ∨ k = 18 ∨ k = 19 ∨ k = 20 ∨ k = 21) : FB (unW k) (levelI k) := by
  rcases h with rfl | rfl | rfl | rfl | rfl | rfl
  · exact ⟨fun _ => by decide, fun h => absurd h (by decide)⟩
  all_goals exact ⟨fun h => absurd h (by decide), fun h => absurd h (by decide)⟩
theorem first_word : ∀ t : Tr, formedB nodeB t = true → ∀ least, least ≤ 7 → wrK t least ≠ [] ∧ FB (hd (wrK t least)) least := by
  refine Tr.induct ?_
  intro k n p q s l ih h least hl7
  obtain ⟨h1, h2, h3, h4, h5, h6⟩ := formed_parts h
  obtain ⟨_, _, n2, n3, n4, n5⟩ := node_names h5
  rw [wrK_node]
  have hbody : bodyK k n s (l.map wrK) ≠ [] ∧ FB (hd (bodyK k n s (l.map wrK))) (levelI k) := by
    rcases parts_cases k l.length h1 with ⟨hm, hk⟩ | ⟨hm, hk⟩ | ⟨hm, hk⟩
    · have hnil : l = [] := List.eq_nil_of_length_eq_zero hm
      subst hnil
      unfold bodyK
      rcases hk with rfl | rfl | rfl | rfl | rfl | rfl
      · rw [if_pos rfl]
        exact ⟨List.cons_ne_nil _ _, fb_num (by rw [(itoa_word h3 h4).1]) _⟩
      · rw [if_neg (by omega), if_pos rfl]
        obtain ⟨a, b, e, ha, hka, hb, hkb⟩ := two_parts (n2 rfl)
        rw [e, cutK_eq (name_word ha).2.2.1 (by decide)]
        exact ⟨List.cons_ne_nil _ _, fb_name ha hka _⟩
      · rw [if_neg (by omega), if_neg (by omega), if_pos rfl]
        exact ⟨List.cons_ne_nil _ _, ⟨fun _ => by kernel_rfl, fun _ => by kernel_rfl⟩⟩
      · rw [if_neg (by omega), if_neg (by omega), if_neg (by omega), if_pos rfl]
        exact ⟨List.cons_ne_nil _ _, ⟨fun _ => by kernel_rfl, fun _ => by kernel_rfl⟩⟩
      · rw [if_neg (by omega), if_neg (by omega), if_neg (by omega), if_neg (by omega), if_pos rfl]
        exact ⟨List.cons_ne_nil _ _, ⟨fun _ => by kernel_rfl, fun _ => by kernel_rfl⟩⟩
      · rw [if_neg (by omega), if_neg (by omega), if_neg (by omega), if_neg (by omega), if_neg (by omega), if_pos rfl]
        exact ⟨List.cons_ne_nil _ _, ⟨fun _ => by kernel_rfl, fun _ => by kernel_rfl⟩⟩
    · obtain ⟨a, rfl⟩ := one_list hm
      show bodyK k n s [wrK a] ≠ [] ∧ FB (hd (bodyK k n s [wrK a])) _
      rw [bodyK_one k n s _ hk]
      exact ⟨List.cons_ne_nil _ _, un_own hk⟩
    · obtain ⟨a, b, rfl⟩ := two_list hm
      have iha := ih a (List.mem_cons_self ..) (h6 a (List.mem_cons_self ..))
      show bodyK k n s [wrK a, wrK b] ≠ [] ∧ FB (hd (bodyK k n s [wrK a, wrK b])) _
      rw [bodyK_two k n s _ _ hk]
      split
      · rename_i e3
        obtain ⟨g1, g2⟩ := iha 4 (by omega)
        rw [hd_app2 g1]
        exact ⟨by simp, g2.le (by omega)⟩
      · obtain ⟨g1, g2⟩ := iha (levelI k) (level_le k)
        rw [hd_app2 g1]
        exact ⟨by simp, g2⟩
  unfold parK
  split
  · exact ⟨List.cons_ne_nil _ _, fb_open _⟩
  · exact ⟨hbody.1, hbody.2.le (by omega)⟩
def PzC (lv : Nat) (t : Tr) (ks : List K) (u : Tr) (r : List K) : Prop := ∃ f, pz f lv (some t) ks = .ok u r
theorem PzC.at {lv : Nat} {t u : Tr} {ks r : List K} (h : PzC lv t ks u r) : ∃ f, ∀ f', f ≤ f' → pz f' lv (some t) ks = .ok u r := by
  obtain ⟨f, hf⟩ := h
  refine ⟨f, fun f' hf' => ?_⟩
  rw [pz_mono (by rw [hf]; exact fun h => by cases h) hf', hf]
theorem chain_start {lv : Nat} {ks m r : List K} {t u : Tr} (hlv : lv = 0 ∨ lv = 1 ∨ lv = 4 ∨ lv = 5) (h1 : Pz (lv + 1) ks t m) (h2 : PzC lv t m u r) : Pz lv ks u r := by
  obtain ⟨f1, hf1⟩ := h1.at
  obtain ⟨f2, hf2⟩ := h2.at
  refine ⟨f1 + f2 + 1, ?_⟩
  unfold pz
  rw [if_neg (by omega), if_neg (by omega), if_neg (by omega), if_neg (by omega), hf1 _ (by omega)]
  exact hf2 _ (by omega)
theorem chain_more {lv : Nat} {ks m r : List K} {w : K} {a b u : Tr} {k : Int} (hk : pick (joints lv) w = some k) (h1 : Pz (lv + 1) ks b m) (h2 : PzC lv (nd k [a, b]) m u r) : PzC lv a (w :: ks) u r := by
  obtain ⟨f1, hf1⟩ := h1.at
  obtain ⟨f2, hf2⟩ := h2.at
  refine ⟨f1 + f2 + 1, ?_⟩
  unfold pz
  show (match pick (joints lv) w with | some k => _ | none => _) = _
  rw [hk]
  show (pz (f1 + f2) (lv + 1) none ks).bind _ = _
  rw [hf1 _ (by omega)]
  exact hf2 _ (by omega)
theorem chain_end {lv : Nat} {m : List K} {t : Tr} (h : pick (joints lv) (hd m) = none) : PzC lv t m t m := by
  refine ⟨1, ?_⟩
  unfold pz
  rw [h]
theorem Pz.lift {ks r : List K} {t : Tr} : ∀ (d lv : Nat), lv + d ≤ 7 → Pz (lv + d) ks t r → (∀ j, lv ≤ j → j < lv + d → upB (hd ks) (hd r) j = true) → Pz lv ks t r
  | 0, _, _, h, _ => h
  | d + 1, lv, hd7, h, hu => by
    refine Pz.lift d lv (by omega) (Pz.up (by omega) h (hu _ (by omega) (by omega))) (fun j h1 h2 => hu j h1 (by omega))
theorem up_of {a w : K} {j : Nat} (h6 : j = 6 → isT a [45] = false) (h2 : j = 2 → pick prefs a = none) (hs : pick (joints j) w = none ∧ (j = 3 → pick cmp1 w = none ∧ pick cmp2 w = none)) : upB a w j = true := by
  unfold upB
  simp only [Bool.and_eq_true, Bool.or_eq_true, Bool.not_eq_true', Option.isNone_iff_eq_none, bne_iff_ne]
  refine ⟨⟨⟨?_, ?_⟩, ?_⟩, hs.1⟩
  · by_cases h : j = 6
    · exact .inr (h6 h)
    · exact .inl h
  · by_cases h : j = 2
    · exact .inr (h2 h)
    · exact .inl h
  · by_cases h : j = 3
    · exact .inr (hs.2 h)
    · exact .inl h
theorem un_pick {k : Int} (h : k = 15 ∨ k = 18 ∨ k = 19 ∨ k = 20 ∨ k = 21) : pick prefs (unW k) = some k ∧ levelI k = 2 := by
  rcases h with rfl | rfl | rfl | rfl | rfl <;> exact ⟨by decide, by decide⟩
theorem empty_of {s : ByteArray} (h : s.size = 0) : s = ⟨#[]⟩ := by
  have : s.data.toList = [] := List.eq_nil_of_length_eq_zero (by rw [← size_data]; exact h)
  rw [lift_data s, this]
theorem bin_pick {k : Int} (h : k = 6 ∨ k = 7 ∨ k = 8 ∨ k = 16 ∨ k = 17) : pick (joints (levelI k)) (binW k) = some k ∧ (levelI k = 0 ∨ levelI k = 1 ∨ levelI k = 4 ∨ levelI k = 5) ∧ stopB (levelI k + 1) (binW k) = true ∧ levelI k ≠ 3 := by
  rcases h with rfl | rfl | rfl | rfl | rfl <;> exact ⟨by decide, by decide, by decide, by decide⟩
theorem cmp_pick {k : Int} (h : k = 9 ∨ k = 10 ∨ k = 11 ∨ k = 12) : pick cmp1 (binW k) = some k ∧ stopB 4 (binW k) = true ∧ levelI k = 3 := by
  rcases h with rfl | rfl | rfl | rfl <;> exact ⟨by decide, by decide, by decide⟩
theorem nm_tok {l : List UInt8} (hk : keyB ⟨l.toArray⟩ = false) : isNm (2, l) = true := by
  unfold isNm
  rw [decide_eq_true rfl, Bool.true_and, hk]; rfl
theorem not_close (lv : Nat) : stopB lv kClose = true := stop_mono (lv := 0) (by decide) (by omega)
theorem leaf_back {k n p q : Int} {s : ByteArray} (h : formedB nodeB (.node k n p q s []) = true) (hk : k = 1 ∨ k = 2 ∨ k = 3 ∨ k = 4 ∨ k = 13 ∨ k = 14) (m : List K) : Pz 7 (bodyK k n s [] ++ m) (.node k n p q s []) m := by
  obtain ⟨h1, h2, h3, h4, h5, h6⟩ := formed_parts h
  obtain ⟨rfl, rfl, n2, n3, n4, n5⟩ := node_names h5
  refine ⟨1, ?_⟩
  unfold pz
  rw [if_neg (by omega), if_neg (by omega), if_neg (by omega), if_pos rfl]
  unfold bodyK
  rcases hk with rfl | rfl | rfl | rfl | rfl | rfl
  · rw [if_pos rfl, empty_of (n5 (by omega) (by omega) (by omega))]
    unfold atomP
    show (if (1 : Nat) = 1 then PR.ok (numT (valF 0 (Lib.itoa n))) m else _) = _
    rw [if_pos rfl]
    unfold numT
    rw [(itoa_word h3 h4).2]
  · have hn : n = 0 := by omega
    subst hn
    rw [if_neg (by omega), if_pos rfl]
    obtain ⟨a, b, e, ha, hka, hb, hkb⟩ := two_parts (n2 rfl)
    rw [e, cutK_eq (name_word ha).2.2.1 (by decide)]
    have t1 := key_word hka (S := [116, 114, 117, 101]) (by kernel_rfl) 2
    have t2 := key_word hka (S := [102, 97, 108, 115, 101]) (by kernel_rfl) 2
    have t3 : isT (2, a) [40] = false := isT_first (by rw [(name_word ha).1]; show (2 : Nat) ≠ _; decide)
    have t4 := key_word hka (S := [99, 111, 117, 110, 116]) (by kernel_rfl) 2
    have t5 := key_word hka (S := [99, 104, 97, 110, 110, 101, 108]) (by kernel_rfl) 2
    unfold atomP
    show (if (2 : Nat) = 1 then _ else if isT (2, a) [116, 114, 117, 101] = true then _ else if isT (2, a) [102, 97, 108, 115, 101] = true then _ else if isT (2, a) [40] = true then _ else if isT (2, a) [99, 111, 117, 110, 116] = true then _ else if isT (2, a) [99, 104, 97, 110, 110, 101, 108] = true then _ else varP ((2, a) :: (3, [46]) :: (2, b) :: m)) = _
    rw [if_neg (by omega), t1, t2, t3, t4, t5, if_neg (by simp), if_neg (by simp), if_neg (by simp), if_neg (by simp), if_neg (by simp)]
    unfold varP
    show (if isNm (2, a) = true then if isT (3, [46]) [46] = true then if isNm (2, b) = true then PR.ok (nameT 2 (a ++ 46 :: b)) m else _ else _ else _) = _
    rw [if_pos (nm_tok hka), if_pos (by decide), if_pos (nm_tok hkb)]
    unfold nameT
    rw [← e, ← lift_data]
  · have hn : n = 0 := by omega
    subst hn
    rw [if_neg (by omega), if_neg (by omega), if_pos rfl]
    have hw := n3 rfl
    unfold wordB at hw
    simp only [Bool.and_eq_true, Bool.not_eq_true'] at hw
    have hkw : keyB ⟨s.data.toList.toArray⟩ = false := by rw [← lift_data]; exact hw.2
    unfold atomP
    show (if (2 : Nat) = 1 then _ else if isT (2, [99, 111, 117, 110, 116]) [116, 114, 117, 101] = true then _ else if isT (2, [99, 111, 117, 110, 116]) [102, 97, 108, 115, 101] = true then _ else if isT (2, [99, 111, 117, 110, 116]) [40] = true then _ else if isT (2, [99, 111, 117, 110, 116]) [99, 111, 117, 110, 116] = true then countP ((3, [40]) :: (2, s.data.toList) :: (3, [41]) :: m) else _) = _
    rw [if_neg (by omega), if_neg (by decide), if_neg (by decide), if_neg (by decide), if_pos (by decide)]
    unfold countP
    show (if isT (3, [40]) [40] = true then if isNm (2, s.data.toList) = true then if isT (3, [41]) [41] = true then PR.ok (nameT 3 s.data.toList) m else _ else _ else _) = _
    rw [if_pos (by decide), if_pos (nm_tok hkw), if_pos (by decide)]
    unfold nameT
    rw [← lift_data]
  · have hn : n = 0 := by omega
    subst hn
    rw [if_neg (by omega), if_neg (by omega), if_neg (by omega), if_pos rfl]
    obtain ⟨a, b, e, ha, hka, hb, hkb⟩ := two_parts (n4 rfl)
    rw [e, cutK_eq (name_word ha).2.2.1 (by decide)]
    unfold atomP
    show (if (2 : Nat) = 1 then _ else if isT (2, [99, 104, 97, 110, 110, 101, 108]) [116, 114, 117, 101] = true then _ else if isT (2, [99, 104, 97, 110, 110, 101, 108]) [102, 97, 108, 115, 101] = true then _ else if isT (2, [99, 104, 97, 110, 110, 101, 108]) [40] = true then _ else if isT (2, [99, 104, 97, 110, 110, 101, 108]) [99, 111, 117, 110, 116] = true then _ else if isT (2, [99, 104, 97, 110, 110, 101, 108]) [99, 104, 97, 110, 110, 101, 108] = true then chanP ((3, [40]) :: (2, a) :: (3, [44]) :: (2, b) :: (3, [41]) :: m) else _) = _
    rw [if_neg (by omega), if_neg (by decide), if_neg (by decide), if_neg (by decide), if_neg (by decide), if_pos (by decide)]
    unfold chanP
    show (if isT (3, [40]) [40] = true then if isNm (2, a) = true then if isT (3, [44]) [44] = true then if isNm (2, b) = true then if isT (3, [41]) [41] = true then PR.ok (nameT 4 (a ++ 44 :: b)) m else _ else _ else _ else _ else _) = _
    rw [if_pos (by decide), if_pos (nm_tok hka), if_pos (by decide), if_pos (nm_tok hkb), if_pos (by decide)]
    unfold nameT
    rw [← e, ← lift_data]
  · have hn : n = 0 := by omega
    subst hn
    rw [if_neg (by omega), if_neg (by omega), if_neg (by omega), if_neg (by omega), if_pos rfl, empty_of (n5 (by omega) (by omega) (by omega))]
    rfl
  · have hn : n = 0 := by omega
    subst hn
    rw [if_neg (by omega), if_neg (by omega), if_neg (by omega), if_neg (by omega), if_neg (by omega), if_pos rfl, empty_of (n5 (by omega) (by omega) (by omega))]
    rfl
theorem paren_pz {ks m : List K} {t : Tr} (h : Pz 0 (ks ++ kClose :: m) t (kClose :: m)) : Pz 7 ((3, [40]) :: (ks ++ [kClose]) ++ m) t m := by
  obtain ⟨f, hf⟩ := h
  refine ⟨f + 1, ?_⟩
  have e : (3, [40]) :: (ks ++ [kClose]) ++ m = (3, [40]) :: (ks ++ kClose :: m) := by simp
  rw [e]
  unfold pz
  rw [if_neg (by omega), if_neg (by omega), if_neg (by omega), if_pos rfl]
  unfold atomP
  show (if (3 : Nat) = 1 then _ else if isT (3, [40]) [116, 114, 117, 101] = true then _ else if isT (3, [40]) [102, 97, 108, 115, 101] = true then _ else if isT (3, [40]) [40] = true then (pz f 0 none (ks ++ kClose :: m)).bind _ else _) = _
  rw [if_neg (by decide), if_neg (by decide), if_neg (by decide), if_pos (by decide), hf]
  rfl
theorem wrK_same {k n p q : Int} {s : ByteArray} {l : List Tr} {lv : Nat} (h : levelI k ≠ lv) : wrK (.node k n p q s l) lv = wrK (.node k n p q s l) (lv + 1) := by
  rw [wrK_node, wrK_node]
  unfold parK
  by_cases h1 : levelI k < lv
  · rw [if_pos h1, if_pos (by omega)]
  · rw [if_neg h1, if_neg (by omega)]
/-- a tree's words at a level are parsed as the tree -/
theorem back : ∀ t : Tr, formedB nodeB t = true →
    (∀ least, least ≤ 7 → ∀ m, stopB least (hd m) = true → Pz least (wrK t least ++ m) t m) ∧
    (∀ lv, (lv = 0 ∨ lv = 1 ∨ lv = 4 ∨ lv = 5) → ∀ m u r, stopB (lv + 1) (hd m) = true → PzC lv t m u r → Pz lv (wrK t lv ++ m) u r) := by
  refine Tr.induct ?_
  intro k n p q s l ih h
  obtain ⟨h1, h2, h3, h4, h5, h6⟩ := formed_parts h
  obtain ⟨np, nq, n2, n3, n4, n5⟩ := node_names h5
  have hlv := level_le k
  have hfw := first_word _ h
  -- the chain, where the node is of the chain's level
  have hA : ∀ m u r, (levelI k = 0 ∨ levelI k = 1 ∨ levelI k = 4 ∨ levelI k = 5) → stopB (levelI k + 1) (hd m) = true → PzC (levelI k) (.node k n p q s l) m u r → Pz (levelI k) (bodyK k n s (l.map wrK) ++ m) u r := by
    intro m u r hc hs hP
    rcases parts_cases k l.length h1 with ⟨hm, hk⟩ | ⟨hm, hk⟩ | ⟨hm, hk⟩
    · have := body_leaf_level hk; omega
    · exfalso
      rcases hk with rfl | rfl | rfl | rfl | rfl | rfl <;> revert hc <;> decide
    · obtain ⟨a, b, rfl⟩ := two_list hm
      have hk' : k = 6 ∨ k = 7 ∨ k = 8 ∨ k = 16 ∨ k = 17 := by
        rcases hk with rfl | rfl | rfl | rfl | rfl | rfl | rfl | rfl | rfl
        · exact .inl rfl
        · exact .inr (.inl rfl)
        · exact .inr (.inr (.inl rfl))
        · exact absurd hc (by decide)
        · exact absurd hc (by decide)
        · exact absurd hc (by decide)
        · exact absurd hc (by decide)
        · exact .inr (.inr (.inr (.inl rfl)))
        · exact .inr (.inr (.inr (.inr rfl)))
      obtain ⟨g1, g2, g3, g4⟩ := bin_pick hk'
      have iha := ih a (List.mem_cons_self ..) (h6 a (List.mem_cons_self ..))
      have ihb := ih b (List.mem_cons_of_mem _ (List.mem_cons_self ..)) (h6 b (List.mem_cons_of_mem _ (List.mem_cons_self ..)))
      show Pz _ (bodyK k n s [wrK a, wrK b] ++ m) u r
      rw [bodyK_two k n s _ _ hk, if_neg g4]
      have hn : n = 0 := by omega
      have hse := empty_of (n5 (by omega) (by omega) (by omega))
      subst hn np nq hse
      rw [List.append_assoc, List.cons_append]
      refine iha.2 (levelI k) g2 (binW k :: (wrK b (levelI k + 1) ++ m)) u r g3 ?_
      exact chain_more g1 (ihb.1 (levelI k + 1) (by omega) m hs) hP
  have hBody : ∀ m, stopB (levelI k) (hd m) = true → Pz (levelI k) (bodyK k n s (l.map wrK) ++ m) (.node k n p q s l) m := by
    intro m hs
    rcases parts_cases k l.length h1 with ⟨hm, hk⟩ | ⟨hm, hk⟩ | ⟨hm, hk⟩
    · have hnil : l = [] := List.eq_nil_of_length_eq_zero hm
      subst hnil
      rw [body_leaf_level hk]
      exact leaf_back h hk m
    · obtain ⟨a, rfl⟩ := one_list hm
      have iha := (ih a (List.mem_cons_self ..) (h6 a (List.mem_cons_self ..))).1 (levelI k) hlv m hs
      have hn : n = 0 := by omega
      have hse := empty_of (n5 (by omega) (by omega) (by omega))
      subst hn np nq hse
      show Pz _ (bodyK k 0 ⟨#[]⟩ [wrK a] ++ m) _ m
      rw [bodyK_one k 0 _ _ hk]
      obtain ⟨f, hf⟩ := iha
      refine ⟨f + 1, ?_⟩
      by_cases h5k : k = 5
      · subst h5k
        rw [show levelI 5 = 6 by decide] at hf ⊢
        unfold pz
        rw [if_neg (by omega), if_neg (by omega), if_pos rfl]
        show (if isT (3, [45]) [45] = true then (pz f 6 none (wrK a 6 ++ m)).bind _ else _) = _
        rw [if_pos (by decide), hf]
        rfl
      · obtain ⟨g1, g2⟩ := un_pick (k := k) (by omega)
        rw [g2] at hf ⊢
        unfold pz
        rw [if_pos rfl]
        show (match pick prefs (unW k) with | some k => (pz f 2 none (wrK a 2 ++ m)).bind _ | none => _) = _
        rw [g1]
        dsimp only
        rw [hf]
        rfl
    · by_cases hc : levelI k = 3
      · obtain ⟨a, b, rfl⟩ := two_list hm
        have hk' : k = 9 ∨ k = 10 ∨ k = 11 ∨ k = 12 := by
          rcases hk with rfl | rfl | rfl | rfl | rfl | rfl | rfl | rfl | rfl
          · exact absurd hc (by decide)
          · exact absurd hc (by decide)
          · exact absurd hc (by decide)
          · exact .inl rfl
          · exact .inr (.inl rfl)
          · exact .inr (.inr (.inl rfl))
          · exact .inr (.inr (.inr rfl))
          · exact absurd hc (by decide)
          · exact absurd hc (by decide)
        obtain ⟨g1, g2, g3⟩ := cmp_pick hk'
        have iha := (ih a (List.mem_cons_self ..) (h6 a (List.mem_cons_self ..))).1 4 (by omega)
        have ihb := (ih b (List.mem_cons_of_mem _ (List.mem_cons_self ..)) (h6 b (List.mem_cons_of_mem _ (List.mem_cons_self ..)))).1 4 (by omega)
        have hn : n = 0 := by omega
        have hse := empty_of (n5 (by omega) (by omega) (by omega))
        subst hn np nq hse
        show Pz _ (bodyK k 0 ⟨#[]⟩ [wrK a, wrK b] ++ m) _ m
        rw [bodyK_two k 0 _ _ _ hk, if_pos hc, hc, List.append_assoc, List.cons_append]
        rw [hc] at hs
        exact Pz.cmp (iha (binW k :: (wrK b 4 ++ m)) g2) (ihb m (stop_mono hs (by omega))) g1
      · have hc' : levelI k = 0 ∨ levelI k = 1 ∨ levelI k = 4 ∨ levelI k = 5 := by
          rcases hk with rfl | rfl | rfl | rfl | rfl | rfl | rfl | rfl | rfl <;> revert hc <;> decide
        exact hA m _ _ hc' (stop_mono hs (by omega)) (chain_end (stop_at hs (Nat.le_refl _) (by omega)).1)
  have hfirst : ∀ m, levelI k ≤ 7 → hd (bodyK k n s (l.map wrK) ++ m) = hd (bodyK k n s (l.map wrK)) ∧ FB (hd (bodyK k n s (l.map wrK))) (levelI k) := by
    intro m _
    obtain ⟨g1, g2⟩ := hfw (levelI k) hlv
    rw [wrK_node] at g1 g2
    unfold parK at g1 g2
    rw [if_neg (by omega)] at g1 g2
    exact ⟨hd_app2 g1 m, g2⟩
  have hDown : ∀ least m, least ≤ levelI k → stopB least (hd m) = true → Pz least (bodyK k n s (l.map wrK) ++ m) (.node k n p q s l) m := by
    intro least m hle hs
    obtain ⟨g1, g2⟩ := hfirst m hlv
    refine Pz.lift (levelI k - least) least (by omega) ?_ (fun j h7 h8 => ?_)
    · rw [show least + (levelI k - least) = levelI k by omega]
      exact hBody m (stop_mono hs hle)
    · rw [g1]
      exact up_of (fun e => g2.2 (by omega)) (fun e => g2.1 (by omega)) (stop_at hs h7 (by omega))
  have hB : ∀ least, least ≤ 7 → ∀ m, stopB least (hd m) = true → Pz least (wrK (.node k n p q s l) least ++ m) (.node k n p q s l) m := by
    intro least hl7 m hs
    rw [wrK_node]
    unfold parK
    by_cases hp : levelI k < least
    · rw [if_pos hp]
      have h0 := hDown 0 (kClose :: m) (Nat.zero_le _) (not_close 0)
      have h7 := paren_pz h0
      refine Pz.lift (7 - least) least (by omega) (by rw [show least + (7 - least) = 7 by omega]; exact h7) (fun j h8 h9 => ?_)
      exact up_of (fun e => (fb_open 7).2 (by omega)) (fun e => (fb_open 7).1 (by omega)) (stop_at hs h8 (by omega))
    · rw [if_neg hp]
      exact hDown least m (by omega) hs
  refine ⟨hB, fun lv hc m u r hs hP => ?_⟩
  by_cases he : levelI k = lv
  · subst he
    rw [wrK_node]
    unfold parK
    rw [if_neg (by omega)]
    exact hA m u r hc hs hP
  · rw [wrK_same he]
    exact chain_start hc (hB (lv + 1) (by omega) m hs) hP
/-- the text of a written tree is parsed as this tree -/
theorem back_law {t : Tr} (h : validB t = true) : parseO (wrL t 0) = .tree t := by
  unfold validB at h
  rw [Bool.and_eq_true] at h
  have hsz := small_size h.1
  obtain ⟨hw1, hw2⟩ := wr_words t h.2 0 (by omega)
  have hP := (back t h.2).1 0 (by omega) [kEnd] (by decide)
  rw [parseO_words (by omega) (wr_lx t h.2 0) (by omega) hP.whole, h.1]
  rfl
end Go.Proofs.YthjalkonlcjhnaaGreatDoor
