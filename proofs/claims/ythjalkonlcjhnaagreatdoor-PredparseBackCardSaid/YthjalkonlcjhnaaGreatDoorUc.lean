/-
  Plain: what was parsed is written.
  Conditions: none.
-/
import Derived.Test.YthjalkonlcjhnaaGreatDoorUb
namespace Go.Proofs.YthjalkonlcjhnaaGreatDoor
open Go.RowKit
/-- each word but the end stands by itself -/
def TokOk (ks : List K) : Prop := ∀ x ∈ ks, x.1 ≠ 4 → Right x.1 x.2
theorem TokOk.suf {r ks : List K} (h : TokOk ks) (hs : Suf r ks) : TokOk r := by
  obtain ⟨n, rfl⟩ := hs
  exact fun x hx => h x (List.mem_of_mem_drop hx)
theorem TokOk.hd {ks : List K} (h : TokOk ks) (h4 : (hd ks).1 ≠ 4) : Right (hd ks).1 (hd ks).2 := by
  cases ks with
  | nil => exact absurd rfl h4
  | cons a l => exact h a (List.mem_cons_self ..) h4
theorem TokOk.tail {ks : List K} (h : TokOk ks) : TokOk ks.tail := h.suf (Suf.tail ks)
theorem lx_right {l : List UInt8} {ks : List K} (h : Lx l ks) : ∀ x ∈ ks, Right x.1 x.2 := by
  induction h with
  | fin b hb => intro x hx; cases hx
  | next b M k n ws hb h1 h4 _ ih =>
    intro x hx
    rcases List.mem_cons.1 hx with rfl | hx
    · exact right_of h1 h4
    · exact ih x hx
theorem right_num {T : List UInt8} (h : Right 1 T) : valF 0 T ≤ 1125899906842624 := by
  have h1 := h.1
  cases T with
  | nil => simp [firstL] at h1
  | cons c r =>
    unfold firstL at h1
    dsimp only at h1
    split at h1
    · injection h1 with _ h2
      injection h2 with h2 h3
      rw [h2, List.take_length] at h3
      unfold numE at h3
      split at h3
      · omega
      · split at h3
        · assumption
        · omega
    · split at h1
      · injection h1 with h1 _; omega
      · split at h1
        · injection h1 with h1 _; omega
        · injection h1 with h1 _; omega
theorem right_name {T : List UInt8} (h : Right 2 T) : nmB T = true := by
  have h1 := h.1
  cases T with
  | nil => simp [firstL] at h1
  | cons c r =>
    unfold firstL at h1
    dsimp only at h1
    split at h1
    · injection h1 with h1 _; omega
    · split at h1
      · rename_i hc
        injection h1 with _ h2
        injection h2 with h2 h3
        have h16 : spanL partB (c :: r) ≤ 16 := by
          by_cases h : spanL partB (c :: r) ≤ 16
          · exact h
          · rw [if_neg h] at h3; omega
        have hn : nameL (c :: r) = (c :: r).length := by
          unfold nameL
          dsimp only
          rw [if_pos hc, h2]
        rw [h2] at h16
        unfold nmB
        rw [hn]
        simp only [List.length_cons] at h16 ⊢
        simp
        omega
      · split at h1
        · injection h1 with h1 _; omega
        · injection h1 with h1 _; omega
theorem isNm_right {ks : List K} (h : TokOk ks) (hn : isNm (hd ks) = true) : nmB (hd ks).2 = true ∧ keyB ⟨(hd ks).2.toArray⟩ = false := by
  unfold isNm at hn
  simp only [Bool.and_eq_true, decide_eq_true_eq, Bool.not_eq_true'] at hn
  have hr := h.hd (by omega)
  rw [hn.1] at hr
  exact ⟨right_name hr, hn.2⟩
theorem index_app : ∀ (a b : List UInt8) (c : UInt8), (∀ x ∈ a, x ≠ c) → Lib.indexByte (a ++ c :: b) c = a.length
  | [], b, c, _ => by simp [Lib.indexByte]
  | x :: a, b, c, h => by
    have ih := index_app a b c (fun y hy => h y (List.mem_cons_of_mem _ hy))
    have hx : (x == c) = false := beq_eq_false_iff_ne.2 (h x (List.mem_cons_self ..))
    rw [List.cons_append]
    unfold Lib.indexByte
    rw [hx, ih]
    have hne : ((a.length : Int) == -1) = false := beq_eq_false_iff_ne.2 (by omega)
    simp [hne]
theorem two_of {a b : List UInt8} {c : UInt8} (hc : partB c = false) (ha : nmB a = true) (hka : keyB ⟨a.toArray⟩ = false) (hb : nmB b = true) (hkb : keyB ⟨b.toArray⟩ = false) : twoB ⟨(a ++ c :: b).toArray⟩ c = true := by
  have hall := (name_word ha).2.2.1
  have e : (⟨(a ++ c :: b).toArray⟩ : ByteArray).data.toList = a ++ c :: b := rfl
  have hi : Lib.indexByte (⟨(a ++ c :: b).toArray⟩ : ByteArray).data.toList c = a.length := by
    rw [e]
    exact index_app a b c (fun x hx he => by
      have := List.all_eq_true.1 hall x hx
      rw [he, hc] at this; cases this)
  unfold twoB
  rw [hi, if_neg (by omega), Int.toNat_natCast]
  have e1 : cutA ⟨(a ++ c :: b).toArray⟩ a.length = ⟨a.toArray⟩ := by
    rw [lift_data (cutA _ _)]
    congr 2
    unfold cutA
    rw [extract_take, e, List.take_left]
  have e2 : cutB ⟨(a ++ c :: b).toArray⟩ a.length = ⟨b.toArray⟩ := by
    rw [lift_data (cutB _ _)]
    congr 2
    unfold cutB
    rw [drop_data, e]
    simp
  rw [e1, e2]
  unfold wordB
  rw [show (⟨a.toArray⟩ : ByteArray).data.toList = a from rfl, show (⟨b.toArray⟩ : ByteArray).data.toList = b from rfl, ha, hka, hb, hkb]
  rfl
theorem leaf_formed {k n : Int} {s : ByteArray} (h1 : partsI k = 0) (h2 : n = 0 ∨ k = 1) (h3 : 0 ≤ n) (h4 : n ≤ 1125899906842624) (h5 : nodeB k 0 0 s = true) : formedB nodeB (.node k n 0 0 s []) = true := by
  rw [formed_node, h5]
  unfold headB
  rw [h1, decide_eq_true (show (0 : Int) = (([] : List Tr).length : Int) from rfl), decide_eq_true h3, decide_eq_true h4]
  rcases h2 with h2 | h2 <;> simp [h2]
theorem nd_formed {k : Int} {l : List Tr} (h1 : partsI k = (l.length : Int)) (hk : k ≠ 2 ∧ k ≠ 3 ∧ k ≠ 4) (h : ∀ x ∈ l, formedB nodeB x = true) : formedB nodeB (nd k l) = true := by
  unfold nd
  have hn : nodeB k 0 0 ⟨#[]⟩ = true := by
    unfold nodeB
    rw [if_pos rfl, if_pos rfl, if_neg hk.1, if_neg hk.2.1, if_neg hk.2.2]
    rfl
  have ha : (l.any fun x => !formedB nodeB x) = false := by
    rw [List.any_eq_false]
    intro x hx
    rw [h x hx]; simp
  rw [formed_node, hn, ha]
  unfold headB
  rw [decide_eq_true h1]
  simp
theorem pick_mem {js : List (List UInt8 × Int)} {w : K} {k : Int} (h : pick js w = some k) : k ∈ js.map (·.2) := by
  unfold pick at h
  cases hf : js.find? (fun j => isT w j.1) with
  | none => rw [hf] at h; cases h
  | some j =>
    rw [hf] at h
    injection h with h
    rw [← h]
    exact List.mem_map.2 ⟨j, List.mem_of_find?_eq_some hf, rfl⟩
theorem two_formed {k : Int} {t u : Tr} (hk : k = 6 ∨ k = 7 ∨ k = 8 ∨ k = 9 ∨ k = 10 ∨ k = 11 ∨ k = 12 ∨ k = 16 ∨ k = 17) (ht : formedB nodeB t = true) (hu : formedB nodeB u = true) : formedB nodeB (nd k [t, u]) = true := by
  refine nd_formed ?_ ⟨by omega, by omega, by omega⟩ (fun x hx => ?_)
  · show partsI k = 2
    rcases hk with rfl | rfl | rfl | rfl | rfl | rfl | rfl | rfl | rfl <;> decide
  · simp only [List.mem_cons, List.not_mem_nil, or_false] at hx
    rcases hx with rfl | rfl
    · exact ht
    · exact hu
theorem one_formed {k : Int} {t : Tr} (hk : k = 5 ∨ k = 15 ∨ k = 18 ∨ k = 19 ∨ k = 20 ∨ k = 21) (ht : formedB nodeB t = true) : formedB nodeB (nd k [t]) = true := by
  refine nd_formed ?_ ⟨by omega, by omega, by omega⟩ (fun x hx => ?_)
  · show partsI k = 1
    rcases hk with rfl | rfl | rfl | rfl | rfl | rfl <;> decide
  · rw [List.mem_singleton.1 hx]; exact ht
theorem pick_joint {lv : Nat} {w : K} {k : Int} (h : pick (joints lv) w = some k) : k = 6 ∨ k = 7 ∨ k = 8 ∨ k = 9 ∨ k = 10 ∨ k = 11 ∨ k = 12 ∨ k = 16 ∨ k = 17 := by
  have := pick_mem h
  unfold joints at this
  (repeat' split at this) <;> simp at this <;> omega
theorem pick_cmp1 {w : K} {k : Int} (h : pick cmp1 w = some k) : k = 6 ∨ k = 7 ∨ k = 8 ∨ k = 9 ∨ k = 10 ∨ k = 11 ∨ k = 12 ∨ k = 16 ∨ k = 17 := by
  have := pick_mem h
  simp [cmp1] at this
  omega
theorem pick_cmp2 {w : K} {k : Int} (h : pick cmp2 w = some k) : k = 6 ∨ k = 7 ∨ k = 8 ∨ k = 9 ∨ k = 10 ∨ k = 11 ∨ k = 12 ∨ k = 16 ∨ k = 17 := by
  have := pick_mem h
  simp [cmp2] at this
  omega
theorem pick_pref {w : K} {k : Int} (h : pick prefs w = some k) : k = 5 ∨ k = 15 ∨ k = 18 ∨ k = 19 ∨ k = 20 ∨ k = 21 := by
  have := pick_mem h
  simp [prefs] at this
  omega
theorem name3 {a : List UInt8} (ha : nmB a = true) (hk : keyB ⟨a.toArray⟩ = false) : formedB nodeB (nameT 3 a) = true := by
  unfold nameT
  refine leaf_formed (by decide) (.inl rfl) (by omega) (by omega) ?_
  unfold nodeB wordB
  rw [if_pos rfl, if_pos rfl, if_neg (by decide), if_pos rfl, show (⟨a.toArray⟩ : ByteArray).data.toList = a from rfl, ha, hk]
  rfl
theorem name2 {a b : List UInt8} (ha : nmB a = true) (hka : keyB ⟨a.toArray⟩ = false) (hb : nmB b = true) (hkb : keyB ⟨b.toArray⟩ = false) : formedB nodeB (nameT 2 (a ++ 46 :: b)) = true := by
  unfold nameT
  refine leaf_formed (by decide) (.inl rfl) (by omega) (by omega) ?_
  unfold nodeB
  rw [if_pos rfl, if_pos rfl, if_pos rfl]
  exact two_of (by decide) ha hka hb hkb
theorem name4 {a b : List UInt8} (ha : nmB a = true) (hka : keyB ⟨a.toArray⟩ = false) (hb : nmB b = true) (hkb : keyB ⟨b.toArray⟩ = false) : formedB nodeB (nameT 4 (a ++ 44 :: b)) = true := by
  unfold nameT
  refine leaf_formed (by decide) (.inl rfl) (by omega) (by omega) ?_
  unfold nodeB
  rw [if_pos rfl, if_pos rfl, if_neg (by decide), if_neg (by decide), if_pos rfl]
  exact two_of (by decide) ha hka hb hkb
theorem count_formed {ks r : List K} {t : Tr} (hk : TokOk ks) (h : countP ks = .ok t r) : formedB nodeB t = true := by
  unfold countP at h
  split at h
  · split at h
    · rename_i hn
      obtain ⟨g1, g2⟩ := isNm_right hk.tail hn
      split at h
      · injection h with h _
        rw [← h]; exact name3 g1 g2
      · cases h
    · cases h
  · cases h
theorem chan_formed {ks r : List K} {t : Tr} (hk : TokOk ks) (h : chanP ks = .ok t r) : formedB nodeB t = true := by
  unfold chanP at h
  split at h
  · split at h
    · rename_i hn
      obtain ⟨g1, g2⟩ := isNm_right hk.tail hn
      split at h
      · split at h
        · rename_i hn2
          obtain ⟨g3, g4⟩ := isNm_right hk.tail.tail.tail hn2
          split at h
          · injection h with h _
            rw [← h]; exact name4 g1 g2 g3 g4
          · cases h
        · cases h
      · cases h
    · cases h
  · cases h
theorem var_formed {ks r : List K} {t : Tr} (hk : TokOk ks) (h : varP ks = .ok t r) : formedB nodeB t = true := by
  unfold varP at h
  split at h
  · rename_i hn
    obtain ⟨g1, g2⟩ := isNm_right hk hn
    split at h
    · split at h
      · rename_i hn2
        obtain ⟨g3, g4⟩ := isNm_right hk.tail.tail hn2
        injection h with h _
        rw [← h]; exact name2 g1 g2 g3 g4
      · cases h
    · cases h
  · cases h
theorem atom_formed {P : List K → PR} {ks r : List K} {t : Tr} (hk : TokOk ks) (hP : ∀ ks r t, TokOk ks → P ks = .ok t r → formedB nodeB t = true) (h : atomP P ks = .ok t r) : formedB nodeB t = true := by
  unfold atomP at h
  split at h
  · rename_i h1
    have hr := hk.hd (by omega)
    rw [h1] at hr
    have hv := right_num hr
    injection h with h _
    rw [← h]
    unfold numT
    exact leaf_formed (by decide) (.inr rfl) (by omega) (by omega) (by decide)
  split at h
  · injection h with h _
    rw [← h]
    exact nd_formed (by decide) (by decide) (fun x hx => by cases hx)
  split at h
  · injection h with h _
    rw [← h]
    exact nd_formed (by decide) (by decide) (fun x hx => by cases hx)
  split at h
  · obtain ⟨u, q, h2, h3⟩ := bind_ok h
    have := hP _ _ _ hk.tail h2
    split at h3
    · injection h3 with h3 _
      rw [← h3]; exact this
    · cases h3
  split at h
  · exact count_formed hk.tail h
  split at h
  · exact chan_formed hk.tail h
  · exact var_formed hk h
theorem pz_formed : ∀ (f lv : Nat) (o : Option Tr) (ks : List K) (t : Tr) (r : List K), TokOk ks → (∀ u, o = some u → formedB nodeB u = true) → pz f lv o ks = .ok t r → formedB nodeB t = true := by
  intro f
  induction f with
  | zero => intro lv o ks t r _ _ h; cases o <;> cases h
  | succ f ih =>
    intro lv o ks t r hk ho h
    have ihn : ∀ lv ks t r, TokOk ks → pz f lv none ks = .ok t r → formedB nodeB t = true := fun lv ks t r hk h => ih lv none ks t r hk (fun u e => by cases e) h
    have sufn : ∀ lv ks t r, pz f lv none ks = .ok t r → TokOk ks → TokOk r := fun lv ks t r h hk => by
      have := fine f lv ks
      rw [h] at this
      exact hk.suf this.1
    cases o with
    | some t0 =>
      unfold pz at h
      cases hp : pick (joints lv) (hd ks) with
      | none =>
        rw [hp] at h
        injection h with h1 _
        rw [← h1]; exact ho t0 rfl
      | some k =>
        rw [hp] at h
        obtain ⟨u, s, h2, h3⟩ := bind_ok h
        exact ih lv _ s t r (sufn _ _ _ _ h2 hk.tail) (fun v e => by injection e with e; rw [← e]; exact two_formed (pick_joint hp) (ho t0 rfl) (ihn _ _ _ _ hk.tail h2)) h3
    | none =>
      unfold pz at h
      split at h
      · cases hp : pick prefs (hd ks) with
        | none => rw [hp] at h; exact ihn _ _ _ _ hk h
        | some k =>
          rw [hp] at h
          obtain ⟨u, s, h2, h3⟩ := bind_ok h
          injection h3 with h3 _
          rw [← h3]; exact one_formed (pick_pref hp) (ihn _ _ _ _ hk.tail h2)
      split at h
      · obtain ⟨u, s, h2, h3⟩ := bind_ok h
        have hu := ihn _ _ _ _ hk h2
        have hks := sufn _ _ _ _ h2 hk
        cases hp : pick cmp1 (hd s) with
        | some k =>
          rw [hp] at h3
          obtain ⟨v, s2, h4, h5⟩ := bind_ok h3
          injection h5 with h5 _
          rw [← h5]; exact two_formed (pick_cmp1 hp) hu (ihn _ _ _ _ hks.tail h4)
        | none =>
          rw [hp] at h3
          dsimp only at h3
          cases hp2 : pick cmp2 (hd s) with
          | some k =>
            rw [hp2] at h3
            obtain ⟨v, s2, h4, h5⟩ := bind_ok h3
            injection h5 with h5 _
            rw [← h5]; exact two_formed (pick_cmp2 hp2) (ihn _ _ _ _ hks.tail h4) hu
          | none =>
            rw [hp2] at h3
            injection h3 with h3 _
            rw [← h3]; exact hu
      split at h
      · split at h
        · obtain ⟨u, s, h2, h3⟩ := bind_ok h
          injection h3 with h3 _
          rw [← h3]; exact one_formed (.inl rfl) (ihn _ _ _ _ hk.tail h2)
        · exact ihn _ _ _ _ hk h
      split at h
      · exact atom_formed hk (fun ks r t hk h => ihn 0 ks t r hk h) h
      · obtain ⟨u, s, h2, h3⟩ := bind_ok h
        exact ih lv _ s t r (sufn _ _ _ _ h2 hk) (fun v e => by injection e with e; rw [← e]; exact ihn _ _ _ _ hk h2) h3
/-- what was parsed is written -/
theorem parse_valid {s : List UInt8} {x : Tr} (h : parseO s = .tree x) : validB x = true := by
  obtain ⟨ks, h1, h2, h3⟩ := parseO_tree h
  unfold validB
  rw [h3, Bool.true_and]
  refine pz_formed _ 0 none (ks ++ [kEnd]) x [kEnd] (fun y hy h4 => ?_) (fun u e => by cases e) h2
  rcases List.mem_append.1 hy with hy | hy
  · exact lx_right h1 y hy
  · rw [List.mem_singleton.1 hy] at h4
    exact absurd rfl h4
theorem formed_names : ∀ t : Tr, formedB nodeB t = true → NmOk t := by
  refine Tr.induct ?_
  intro k n p q s l ih h
  obtain ⟨_, _, _, _, h5, h6⟩ := formed_parts h
  have := name_len h5
  exact .node k n p q s l (by unfold maxLen; omega) fun x hx => ih x hx (h6 x hx)
end Go.Proofs.YthjalkonlcjhnaaGreatDoor
