/-
  The reference's Same, walked.
  Conditions: as each theorem says.
-/
import Derived.Test.YthjalkonlcjhnaaGreatDoorQn
namespace Go.Proofs.YthjalkonlcjhnaaGreatDoor
open Go.RowKit
noncomputable instance decTr (t u : Tr) : Decidable (t = u) := Classical.propDecidable _
noncomputable def sameB (t u : Tr) : Bool := decide (t = u)
theorem same_eq (t : Tr) : sameB t t = true := by unfold sameB; exact decide_eq_true rfl
theorem same_ne {t u : Tr} (h : t ≠ u) : sameB t u = false := by unfold sameB; exact decide_eq_false h
theorem same_iff {t u : Tr} : sameB t u = true ↔ t = u := by unfold sameB; exact decide_eq_true_iff
theorem same_true {t u : Tr} (h : sameB t u = true) : t = u := same_iff.1 h
theorem same_false {t u : Tr} (h : sameB t u = false) : t ≠ u := fun e => by rw [e, same_eq] at h; cases h
theorem bytes_fact {s s' : ByteArray} (h : s ≠ s') : (s.toList == s'.toList) = false := by
  cases hb : (s.toList == s'.toList) with
  | false => rfl
  | true => exact absurd (bytes_eq hb) h
/-- the first of the six parts in which two nodes differ -/
def Dif (k n p q : Int) (s : ByteArray) (l : List Tr) (k' n' p' q' : Int) (s' : ByteArray) (l' : List Tr) : Prop :=
  k ≠ k' ∨ (k = k' ∧ n ≠ n') ∨ (k = k' ∧ n = n' ∧ p ≠ p') ∨ (k = k' ∧ n = n' ∧ p = p' ∧ q ≠ q') ∨ (k = k' ∧ n = n' ∧ p = p' ∧ q = q' ∧ s ≠ s') ∨ (k = k' ∧ n = n' ∧ p = p' ∧ q = q' ∧ s = s' ∧ l.length ≠ l'.length)
theorem dif_or (k n p q : Int) (s : ByteArray) (l : List Tr) (k' n' p' q' : Int) (s' : ByteArray) (l' : List Tr) : Dif k n p q s l k' n' p' q' s' l' ∨ (k = k' ∧ n = n' ∧ p = p' ∧ q = q' ∧ s = s' ∧ l.length = l'.length) := by
  unfold Dif
  by_cases h0 : k = k'
  · by_cases h1 : n = n'
    · by_cases h2 : p = p'
      · by_cases h3 : q = q'
        · by_cases h4 : s = s'
          · by_cases h5 : l.length = l'.length
            · exact .inr ⟨h0, h1, h2, h3, h4, h5⟩
            · exact .inl (.inr (.inr (.inr (.inr (.inr ⟨h0, h1, h2, h3, h4, h5⟩)))))
          · exact .inl (.inr (.inr (.inr (.inr (.inl ⟨h0, h1, h2, h3, h4⟩)))))
        · exact .inl (.inr (.inr (.inr (.inl ⟨h0, h1, h2, h3⟩))))
      · exact .inl (.inr (.inr (.inl ⟨h0, h1, h2⟩)))
    · exact .inl (.inr (.inl ⟨h0, h1⟩))
  · exact .inl (.inl h0)
theorem dif_ne {k n p q : Int} {s : ByteArray} {l : List Tr} {k' n' p' q' : Int} {s' : ByteArray} {l' : List Tr} (h : Dif k n p q s l k' n' p' q' s' l') : Tr.node k n p q s l ≠ .node k' n' p' q' s' l' := by
  intro e
  injection e with e0 e1 e2 e3 e4 e5
  subst e0 e1 e2 e3 e4 e5
  unfold Dif at h
  simp at h
theorem int_facts {a b : Int} (h : a ≠ b) : (a == b) = false ∧ (a != b) = true := ⟨beq_eq_false_iff_ne.2 h, by rw [bne_iff_ne]; exact h⟩
theorem str_facts {a b : ByteArray} (h : a ≠ b) : (a.toList == b.toList) = false ∧ (a.toList != b.toList) = true := ⟨bytes_fact h, by unfold bne; rw [bytes_fact h]; rfl⟩
theorem len_facts {a b : Nat} (h : a ≠ b) : (((a : Int) == (b : Int)) = false ∧ ((a : Int) != (b : Int)) = true) ∧ (a == b) = false ∧ (a != b) = true :=
  ⟨int_facts (by omega), beq_eq_false_iff_ne.2 h, by rw [bne_iff_ne]; exact h⟩
set_option maxRecDepth 20000 in
set_option maxHeartbeats 1600000 in
theorem same_dif (k n p q k' n' p' q' : Int) (s s' : ByteArray) (A A' : Option Addr) (l l' : List Tr) (c c' : Nat) (w : World) (h : Dif k n p q s l k' n' p' q' s' l') :
    Calls Tryz.prog 10 #[.agg #[.int .i64 k, .int .i64 n, .int .i64 p, .int .i64 q, .string s, .slice A l.length c], .agg #[.int .i64 k', .int .i64 n', .int .i64 p', .int .i64 q', .string s', .slice A' l'.length c']] w (Ret w (.bool false)) := by
  unfold Dif at h
  rcases h with h | ⟨rfl, h⟩ | ⟨rfl, rfl, h⟩ | ⟨rfl, rfl, rfl, h⟩ | ⟨rfl, rfl, rfl, rfl, h⟩ | ⟨rfl, rfl, rfl, rfl, rfl, h⟩
  · obtain ⟨b1, b2⟩ := int_facts h
    clear h
    go_enter Tryz.func10, Tryz.ntmps10
    go_wp2_with fail
    go_ret
    exact Ret.mk rfl (((Ex.refl _).alloc _).alloc _)
  · obtain ⟨b1, b2⟩ := int_facts h
    clear h
    go_enter Tryz.func10, Tryz.ntmps10
    go_wp2_with fail
    go_ret
    exact Ret.mk rfl (((Ex.refl _).alloc _).alloc _)
  · obtain ⟨b1, b2⟩ := int_facts h
    clear h
    go_enter Tryz.func10, Tryz.ntmps10
    go_wp2_with fail
    go_ret
    exact Ret.mk rfl (((Ex.refl _).alloc _).alloc _)
  · obtain ⟨b1, b2⟩ := int_facts h
    clear h
    go_enter Tryz.func10, Tryz.ntmps10
    go_wp2_with fail
    go_ret
    exact Ret.mk rfl (((Ex.refl _).alloc _).alloc _)
  · obtain ⟨b1, b2⟩ := str_facts h
    clear h
    go_enter Tryz.func10, Tryz.ntmps10
    go_wp2_with fail
    go_ret
    exact Ret.mk rfl (((Ex.refl _).alloc _).alloc _)
  · obtain ⟨⟨b1, b2⟩, b3, b4⟩ := len_facts h
    clear h
    go_enter Tryz.func10, Tryz.ntmps10
    go_wp2_with fail
    go_ret
    exact Ret.mk rfl (((Ex.refl _).alloc _).alloc _)
theorem same_next {l l' : List Tr} {j : Nat} {x y : Tr} (h : ∀ i : Nat, i < j → l[i]? = l'[i]?) (hx : l[j]? = some x) (hy : l'[j]? = some y) (he : x = y) : ∀ i : Nat, i < j + 1 → l[i]? = l'[i]? := by
  intro i hi
  by_cases hij : i = j
  · subst hij; rw [hx, hy, he]
  · exact h i (by omega)
theorem list_same {l l' : List Tr} (hl : l.length = l'.length) (h : ∀ i : Nat, i < l.length → l[i]? = l'[i]?) : l = l' := by
  apply List.ext_getElem?
  intro i
  by_cases hi : i < l.length
  · exact h i hi
  · rw [List.getElem?_eq_none (by omega), List.getElem?_eq_none (by omega)]
set_option maxRecDepth 20000 in
set_option maxHeartbeats 1600000 in
theorem same_c : ∀ (N : Nat) (t u : Tr) (Q Q' : Nat → Prop) (w : World) (k n p q k' n' p' q' : Int) (s s' : ByteArray) (A A' : Option Addr) (m m' c c' : Nat), t.size ≤ N → N ≤ 1000000 → u.size ≤ 1000000 → TrC Q w t (c6 k n p q s A m c) → TrC Q' w u (c6 k' n' p' q' s' A' m' c') →
    Calls Tryz.prog 10 #[.agg #[.int .i64 k, .int .i64 n, .int .i64 p, .int .i64 q, .string s, .slice A m c], .agg #[.int .i64 k', .int .i64 n', .int .i64 p', .int .i64 q', .string s', .slice A' m' c']] w (Ret w (.bool (sameB t u))) := by
  intro N
  induction N with
  | zero => intro t u Q Q' w k n p q k' n' p' q' s s' A A' m m' c c' h; exact absurd h (by have := t.size_pos; omega)
  | succ N ih =>
    intro t u Q Q' w k n p q k' n' p' q' s s' A A' m m' c c' hs hN hu ht ht'
    obtain ⟨k1, n1, p1, q1, s1, l⟩ := t
    obtain ⟨rfl, rfl, rfl, rfl, rfl, rfl, hk⟩ := ht.kids
    obtain ⟨k1, n1, p1, q1, s1, l'⟩ := u
    obtain ⟨rfl, rfl, rfl, rfl, rfl, rfl, hk'⟩ := ht'.kids
    have hlen := Tr.len_le (l := l)
    have hlen' := Tr.len_le (l := l')
    rw [Tr.size_node] at hs hu
    rcases dif_or k n p q s l k' n' p' q' s' l' with hd | ⟨rfl, rfl, rfl, rfl, rfl, hll⟩
    · rw [same_ne (dif_ne hd)]
      exact same_dif k n p q k' n' p' q' s s' A A' l l' c c' w hd
    · have HK := Lib.hid (fun w' (hx : Ex w w') j x (hj : l[j]? = some x) => (hk j x hj).ex hx)
      have HK' := Lib.hid (fun w' (hx : Ex w w') j x (hj : l'[j]? = some x) => (hk' j x hj).ex hx)
      have HG : Hid (∀ j, j < l.length → ∃ x, l[j]? = some x) := fun j hj => ⟨_, List.getElem?_eq_getElem hj⟩
      have HG' : Hid (∀ j, j < l.length → ∃ x, l'[j]? = some x) := fun j hj => ⟨_, List.getElem?_eq_getElem (by omega)⟩
      have HI : Hid (∀ (j : Nat) (x : Tr), l[j]? = some x → x.size ≤ N) := fun j x hj => by
        have h1 : (l.map Tr.size)[j]? = some x.size := by rw [List.getElem?_map, hj]; rfl
        have h2 := mem_le_sum _ _ (List.mem_of_getElem? h1)
        omega
      have HI' : Hid (∀ (j : Nat) (x : Tr), l'[j]? = some x → x.size ≤ 1000000) := fun j x hj => by
        have h1 : (l'.map Tr.size)[j]? = some x.size := by rw [List.getElem?_map, hj]; rfl
        have h2 := mem_le_sum _ _ (List.mem_of_getElem? h1)
        omega
      have HC := Lib.hid (fun w' (x y : Tr) k n p q k' n' p' q' s s' A A' m m' c c' (h1 : x.size ≤ N) (h2 : y.size ≤ 1000000) (h : TrC Q w' x (c6 k n p q s A m c)) (h' : TrC Q' w' y (c6 k' n' p' q' s' A' m' c')) => ih x y Q Q' w' k n p q k' n' p' q' s s' A A' m m' c c' h1 (by omega) h2 h h')
      have HT : Hid ((∀ i : Nat, i < l.length → l[i]? = l'[i]?) → sameB (.node k n p q s l) (.node k n p q s l') = true) := fun h => by rw [list_same hll h]; exact same_eq _
      have HF : Hid (∀ (i : Nat) (x y : Tr), l[i]? = some x → l'[i]? = some y → x ≠ y → sameB (.node k n p q s l) (.node k n p q s l') = false) := fun i x y hx hy hne => same_ne (fun e => by
        injection e with _ _ _ _ _ e
        rw [e, hy] at hx
        injection hx with hx
        exact hne hx.symm)
      have hl : l.length ≤ 1000000 := by omega
      have HLL := Lib.hid hll
      rw [← hll]
      generalize sameB (.node k n p q s l) (.node k n p q s l') = RES at *
      clear ih hk hk' ht ht' hs hN hlen hlen' hu hll
      have HZ : Hid (Blk ((w.alloc (.cells #[.int .i64 k, .int .i64 n, .int .i64 p, .int .i64 q, .string s, .slice A l.length c] 24)).alloc (.cells #[.int .i64 k, .int .i64 n, .int .i64 p, .int .i64 q, .string s, .slice A' l.length c'] 24)) w.heap.size 24 (c6 k n p q s A l.length c)) := (Blk.new w _ _).alloc _
      have HZ' : Hid (Blk ((w.alloc (.cells #[.int .i64 k, .int .i64 n, .int .i64 p, .int .i64 q, .string s, .slice A l.length c] 24)).alloc (.cells #[.int .i64 k, .int .i64 n, .int .i64 p, .int .i64 q, .string s, .slice A' l.length c'] 24)) (w.heap.size + 1) 24 (c6 k n p q s A' l.length c')) := Blk.new' _ (by simp) _ _
      have HX0 : Hid (Ex w ((w.alloc (.cells #[.int .i64 k, .int .i64 n, .int .i64 p, .int .i64 q, .string s, .slice A l.length c] 24)).alloc (.cells #[.int .i64 k, .int .i64 n, .int .i64 p, .int .i64 q, .string s, .slice A' l.length c'] 24))) := ((Ex.refl w).alloc _).alloc _
      obtain ⟨W0, hW0⟩ : ∃ W0, W0 = (w.alloc (.cells #[.int .i64 k, .int .i64 n, .int .i64 p, .int .i64 q, .string s, .slice A l.length c] 24)).alloc (.cells #[.int .i64 k, .int .i64 n, .int .i64 p, .int .i64 q, .string s, .slice A' l.length c'] 24) := ⟨_, rfl⟩
      rw [← hW0] at HZ HZ' HX0
      have HW0 := Lib.hid hW0
      clear hW0
      go_enter Tryz.func10, Tryz.ntmps10
      go_wp2_with fail
      rw [← HW0.out]
      go_loopw [5] (fun i wr => ∃ j : Nat, i = .int .i64 j ∧ j ≤ l.length ∧ Hid ((∀ i : Nat, i < j → l[i]? = l'[i]?) ∧ Ex W0 wr)) (fun i _ => l.length - (intOf i).toNat)
      case atStart => exact ⟨0, rfl, Nat.zero_le _, Lib.hid ⟨fun i h => absurd h (by omega), Ex.refl _⟩⟩
      case round =>
        obtain ⟨j, rfl, hj, HH⟩ := hrel
        have hz := HZ.out.ex HH.out.2
        have lz := hz.lt
        have r5 : wr.cell? ⟨w.heap.size, 5, none⟩ = some (.slice A l.length c) := hz.cell 5
        have hz' := HZ'.out.ex HH.out.2
        have lz' := hz'.lt
        have r5' : wr.cell? ⟨w.heap.size + 1, 5, none⟩ = some (.slice A' l.length c') := hz'.cell 5
        clear hz hz'
        by_cases hlt : j < l.length
        · have m1 : (j : Int) < (l.length : Int) := by omega
          have m0 : (0 : Int) ≤ (j : Int) := by omega
          obtain ⟨x, hx⟩ := HG.out j hlt
          obtain ⟨y, hy⟩ := HG'.out j hlt
          obtain ⟨b, o, k2, n2, p2, q2, s2, B, m2, c2, rfl, hb, h0, h1, h2, h3, h4, h5, htx⟩ := HK.out _ (HX0.out.trans HH.out.2) j x hx
          obtain ⟨b', o', k3, n3, p3, q3, s3, B', m3, c3, rfl, hb', g0, g1, g2, g3, g4, g5, hty⟩ := HK'.out _ (HX0.out.trans HH.out.2) j y hy
          have HCx := Lib.hid (fun w' (hy' : Ex wr w') => HC.out w' x y k2 n2 p2 q2 k3 n3 p3 q3 s2 s3 B B' m2 m3 c2 c3 (HI.out j x hx) (HI'.out j y hy) (htx.ex hy') (hty.ex hy'))
          obtain ⟨qq, hqq⟩ : ∃ qq, sameB x y = qq := ⟨_, rfl⟩
          rw [hqq] at HCx
          have HXY := Lib.hid (And.intro hx (And.intro hy hqq))
          clear htx hty hx hy hqq
          cases qq with
          | true =>
            have HN := Lib.hid (same_next HH.out.1 HXY.out.1 HXY.out.2.1 (same_true HXY.out.2.2))
            have HE := Lib.hid HH.out.2
            clear HH
            go_wp2_with fail
            refine wp_region_ext (by kernel_rfl) (by kernel_rfl) ?_
            repeat (go_big_quiet_step ((go_at_call 10; exact quiet_ext (HCx.out _ ⟨_, rfl⟩))))
            refine wpQuiet_end (fun z => ?_)
            go_wp2_with fail
            exact ⟨⟨j + 1, by go_num, by omega, Lib.hid ⟨HN.out, HE.out.ext _⟩⟩, by simp [intOf]; omega⟩
          | false =>
            have HR := Lib.hid (HF.out j x y HXY.out.1 HXY.out.2.1 (same_false HXY.out.2.2))
            have HE := Lib.hid HH.out.2
            clear HH
            go_wp2_with fail
            refine wp_region_ext (by kernel_rfl) (by kernel_rfl) ?_
            repeat (go_big_quiet_step ((go_at_call 10; exact quiet_ext (HCx.out _ ⟨_, rfl⟩))))
            refine wpQuiet_end (fun z => ?_)
            go_wp2_with fail
            go_ret
            exact Ret.mk (by rw [HR.out]; rfl) (HX0.out.trans (HE.out.ext _))
        · have hjl : j = l.length := by omega
          subst hjl
          have m1 : decide (((l.length : Nat) : Int) < (l.length : Int)) = false := decide_eq_false (by omega)
          have HR := Lib.hid (HT.out HH.out.1)
          have HE := Lib.hid HH.out.2
          clear hlt HH
          go_wp2_with fail
          go_ret
          exact Ret.mk (by rw [HR.out]; rfl) (HX0.out.trans HE.out)
end Go.Proofs.YthjalkonlcjhnaaGreatDoor
