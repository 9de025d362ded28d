/-
  Equal, walked.
  Conditions: as each theorem says.
-/
import Derived.Test.YthjalkonlcjhnaaGreatDoorQr
namespace Go.Proofs.YthjalkonlcjhnaaGreatDoor
open Go.RowKit
noncomputable instance decTrs (l l' : List Tr) : Decidable (l = l') := Classical.propDecidable _
noncomputable def listB (l l' : List Tr) : Bool := decide (l = l')
theorem listB_ne {l l' : List Tr} (h : l ≠ l') : listB l l' = false := by unfold listB; exact decide_eq_false h
theorem listB_eq {l l' : List Tr} (h : l = l') : listB l l' = true := by unfold listB; exact decide_eq_true h
set_option maxRecDepth 20000 in
set_option maxHeartbeats 1600000 in
theorem eqf_c (Q Q' : Nat → Prop) (l l' : List Tr) (A A' : Option Addr) (c c' : Nat) (w : World) (hl : l.length ≤ 1000000) (hk : ∀ w', Ex w w' → ∀ j x, l[j]? = some x → Kid Q w' A j x) (hk' : ∀ w', Ex w w' → ∀ j x, l'[j]? = some x → Kid Q' w' A' j x)
    (hi : ∀ w', Ex w w' → ∀ x y k n p q k' n' p' q' s s' B B' m m' c c', x ∈ l → y ∈ l' → TrC Q w' x (c6 k n p q s B m c) → TrC Q' w' y (c6 k' n' p' q' s' B' m' c') → Calls Tryz.prog 9 #[.agg #[.int .i64 k, .int .i64 n, .int .i64 p, .int .i64 q, .string s, .slice B m c], .agg #[.int .i64 k', .int .i64 n', .int .i64 p', .int .i64 q', .string s', .slice B' m' c']] w' (Ret w' (.bool (sameB x y)))) :
    Calls Tryz.prog 28 #[.slice A l.length c, .slice A' l'.length c', .func (.func 9) #[] #[]] w (Ret w (.bool (listB l l'))) := by
  by_cases hll : l.length = l'.length
  · have HK := Lib.hid hk
    have HK' := Lib.hid hk'
    have HI := Lib.hid hi
    have HG : Hid (∀ j, j < l.length → ∃ x, l[j]? = some x) := fun j hj => ⟨_, List.getElem?_eq_getElem hj⟩
    have HG' : Hid (∀ j, j < l.length → ∃ x, l'[j]? = some x) := fun j hj => ⟨_, List.getElem?_eq_getElem (by omega)⟩
    have HT : Hid ((∀ i : Nat, i < l.length → l[i]? = l'[i]?) → listB l l' = true) := fun h => listB_eq (list_same hll h)
    have HF : Hid (∀ (i : Nat) (x y : Tr), l[i]? = some x → l'[i]? = some y → x ≠ y → listB l l' = false) := fun i x y hx hy hne => listB_ne (fun e => by
      rw [e, hy] at hx
      injection hx with hx
      exact hne hx.symm)
    rw [← hll]
    generalize listB l l' = RES at *
    clear hk hk' hi hll
    go_enter Tryz.func28, Tryz.ntmps28
    go_wp2_with fail
    go_loopw [17] (fun i wr => ∃ j : Nat, i = .int .i64 j ∧ j ≤ l.length ∧ Hid ((∀ i : Nat, i < j → l[i]? = l'[i]?) ∧ Ex w wr)) (fun i _ => l.length - (intOf i).toNat)
    case atStart => exact ⟨0, rfl, Nat.zero_le _, Lib.hid ⟨fun i h => absurd h (by omega), Ex.refl _⟩⟩
    case round =>
      obtain ⟨j, rfl, hj, HH⟩ := hrel
      by_cases hlt : j < l.length
      · have m1 : (j : Int) < (l.length : Int) := by omega
        have m0 : (0 : Int) ≤ (j : Int) := by omega
        obtain ⟨x, hx⟩ := HG.out j hlt
        obtain ⟨y, hy⟩ := HG'.out j hlt
        obtain ⟨b, o, k2, n2, p2, q2, s2, B, m2, c2, rfl, hb, h0, h1, h2, h3, h4, h5, htx⟩ := HK.out _ HH.out.2 j x hx
        obtain ⟨b', o', k3, n3, p3, q3, s3, B', m3, c3, rfl, hb', g0, g1, g2, g3, g4, g5, hty⟩ := HK'.out _ HH.out.2 j y hy
        have HCx := Lib.hid (fun w' (hy' : Ex wr w') => HI.out w' (HH.out.2.trans hy') x y k2 n2 p2 q2 k3 n3 p3 q3 s2 s3 B B' m2 m3 c2 c3 (List.mem_of_getElem? hx) (List.mem_of_getElem? hy) (htx.ex hy') (hty.ex hy'))
        obtain ⟨qq, hqq⟩ : ∃ qq, sameB x y = qq := ⟨_, rfl⟩
        rw [hqq] at HCx
        have HXY := Lib.hid (And.intro hx (And.intro hy hqq))
        clear htx hty hx hy hqq
        cases qq with
        | true =>
          have HN := Lib.hid (same_next HH.out.1 HXY.out.1 HXY.out.2.1 (same_true HXY.out.2.2))
          have HE := Lib.hid HH.out.2
          clear HH
          go_wp2_with fail
          refine (HCx.out _ (((Ex.refl _).alloc _).alloc _)).mono ?_
          rintro e w' ⟨rfl, z, rfl⟩
          go_wp2_with fail
          exact ⟨⟨j + 1, by go_num, by omega, Lib.hid ⟨HN.out, HE.out.trans ((((Ex.refl _).alloc _).alloc _).ext _)⟩⟩, by simp [intOf]; omega⟩
        | false =>
          have HR := Lib.hid (HF.out j x y HXY.out.1 HXY.out.2.1 (same_false HXY.out.2.2))
          have HE := Lib.hid HH.out.2
          clear HH
          go_wp2_with fail
          refine (HCx.out _ (((Ex.refl _).alloc _).alloc _)).mono ?_
          rintro e w' ⟨rfl, z, rfl⟩
          go_wp2_with fail
          go_ret
          exact Ret.mk (by rw [HR.out]; rfl) (HE.out.trans ((((Ex.refl _).alloc _).alloc _).ext _))
      · have hjl : j = l.length := by omega
        subst hjl
        have m1 : decide (((l.length : Nat) : Int) < (l.length : Int)) = false := decide_eq_false (by omega)
        have HR := Lib.hid (HT.out HH.out.1)
        have HE := Lib.hid HH.out.2
        clear hlt HH
        go_wp2_with fail
        go_ret
        exact Ret.mk (by rw [HR.out]; rfl) HE.out
  · rw [listB_ne (fun e => hll (by rw [e]))]
    obtain ⟨⟨b1, b2⟩, b3, b4⟩ := len_facts hll
    clear hk hk' hi hll
    go_enter Tryz.func28, Tryz.ntmps28
    go_wp2_with fail
    go_ret
    exact Ret.mk rfl (Ex.refl _)
/-- the first of five parts in which two nodes differ -/
def Dif5 (k n p q : Int) (s : ByteArray) (k' n' p' q' : Int) (s' : ByteArray) : Prop :=
  k ≠ k' ∨ (k = k' ∧ n ≠ n') ∨ (k = k' ∧ n = n' ∧ p ≠ p') ∨ (k = k' ∧ n = n' ∧ p = p' ∧ q ≠ q') ∨ (k = k' ∧ n = n' ∧ p = p' ∧ q = q' ∧ s ≠ s')
theorem dif5_or (k n p q : Int) (s : ByteArray) (k' n' p' q' : Int) (s' : ByteArray) : Dif5 k n p q s k' n' p' q' s' ∨ (k = k' ∧ n = n' ∧ p = p' ∧ q = q' ∧ s = s') := by
  unfold Dif5
  by_cases h0 : k = k'
  · by_cases h1 : n = n'
    · by_cases h2 : p = p'
      · by_cases h3 : q = q'
        · by_cases h4 : s = s'
          · exact .inr ⟨h0, h1, h2, h3, h4⟩
          · exact .inl (.inr (.inr (.inr (.inr ⟨h0, h1, h2, h3, h4⟩))))
        · exact .inl (.inr (.inr (.inr (.inl ⟨h0, h1, h2, h3⟩))))
      · exact .inl (.inr (.inr (.inl ⟨h0, h1, h2⟩)))
    · exact .inl (.inr (.inl ⟨h0, h1⟩))
  · exact .inl (.inl h0)
theorem dif5_ne {k n p q : Int} {s : ByteArray} {l : List Tr} {k' n' p' q' : Int} {s' : ByteArray} {l' : List Tr} (h : Dif5 k n p q s k' n' p' q' s') : Tr.node k n p q s l ≠ .node k' n' p' q' s' l' := by
  intro e
  injection e with e0 e1 e2 e3 e4 e5
  subst e0 e1 e2 e3 e4
  unfold Dif5 at h
  simp at h
theorem node_same (k n p q : Int) (s : ByteArray) (l l' : List Tr) : sameB (.node k n p q s l) (.node k n p q s l') = listB l l' := by
  by_cases h : l = l'
  · rw [h, same_eq, listB_eq rfl]
  · rw [listB_ne h, same_ne (fun e => h (by injection e))]
set_option maxRecDepth 20000 in
set_option maxHeartbeats 1600000 in
theorem equal_dif (k n p q k' n' p' q' : Int) (s s' : ByteArray) (A A' : Option Addr) (m m' c c' : Nat) (w : World) (h : Dif5 k n p q s k' n' p' q' s') :
    Calls Tryz.prog 9 #[.agg #[.int .i64 k, .int .i64 n, .int .i64 p, .int .i64 q, .string s, .slice A m c], .agg #[.int .i64 k', .int .i64 n', .int .i64 p', .int .i64 q', .string s', .slice A' m' c']] w (Ret w (.bool false)) := by
  unfold Dif5 at h
  rcases h with h | ⟨rfl, h⟩ | ⟨rfl, rfl, h⟩ | ⟨rfl, rfl, rfl, h⟩ | ⟨rfl, rfl, rfl, rfl, h⟩
  · obtain ⟨b1, b2⟩ := int_facts h
    clear h
    go_enter Tryz.func9, Tryz.ntmps9
    go_wp2_with fail
    go_ret
    exact Ret.mk rfl (((Ex.refl _).alloc _).alloc _)
  · obtain ⟨b1, b2⟩ := int_facts h
    clear h
    go_enter Tryz.func9, Tryz.ntmps9
    go_wp2_with fail
    go_ret
    exact Ret.mk rfl (((Ex.refl _).alloc _).alloc _)
  · obtain ⟨b1, b2⟩ := int_facts h
    clear h
    go_enter Tryz.func9, Tryz.ntmps9
    go_wp2_with fail
    go_ret
    exact Ret.mk rfl (((Ex.refl _).alloc _).alloc _)
  · obtain ⟨b1, b2⟩ := int_facts h
    clear h
    go_enter Tryz.func9, Tryz.ntmps9
    go_wp2_with fail
    go_ret
    exact Ret.mk rfl (((Ex.refl _).alloc _).alloc _)
  · obtain ⟨b1, b2⟩ := str_facts h
    clear h
    go_enter Tryz.func9, Tryz.ntmps9
    go_wp2_with fail
    go_ret
    exact Ret.mk rfl (((Ex.refl _).alloc _).alloc _)
set_option maxRecDepth 20000 in
set_option maxHeartbeats 1600000 in
theorem equal_c : ∀ (N : Nat) (t u : Tr) (Q Q' : Nat → Prop) (w : World) (k n p q k' n' p' q' : Int) (s s' : ByteArray) (A A' : Option Addr) (m m' c c' : Nat), t.size ≤ N → N ≤ 1000000 → TrC Q w t (c6 k n p q s A m c) → TrC Q' w u (c6 k' n' p' q' s' A' m' c') →
    Calls Tryz.prog 9 #[.agg #[.int .i64 k, .int .i64 n, .int .i64 p, .int .i64 q, .string s, .slice A m c], .agg #[.int .i64 k', .int .i64 n', .int .i64 p', .int .i64 q', .string s', .slice A' m' c']] w (Ret w (.bool (sameB t u))) := by
  intro N
  induction N with
  | zero => intro t u Q Q' w k n p q k' n' p' q' s s' A A' m m' c c' h; exact absurd h (by have := t.size_pos; omega)
  | succ N ih =>
    intro t u Q Q' w k n p q k' n' p' q' s s' A A' m m' c c' hs hN ht ht'
    obtain ⟨k1, n1, p1, q1, s1, l⟩ := t
    obtain ⟨rfl, rfl, rfl, rfl, rfl, rfl, hk⟩ := ht.kids
    obtain ⟨k1, n1, p1, q1, s1, l'⟩ := u
    obtain ⟨rfl, rfl, rfl, rfl, rfl, rfl, hk'⟩ := ht'.kids
    have hlen := Tr.len_le (l := l)
    rw [Tr.size_node] at hs
    rcases dif5_or k n p q s k' n' p' q' s' with hd | ⟨rfl, rfl, rfl, rfl, rfl⟩
    · rw [same_ne (dif5_ne hd)]
      exact equal_dif k n p q k' n' p' q' s s' A A' _ _ c c' w hd
    · rw [node_same]
      have HE : Hid (∀ w', Ex w w' → Calls Tryz.prog 28 #[.slice A l.length c, .slice A' l'.length c', .func (.func 9) #[] #[]] w' (Ret w' (.bool (listB l l')))) := fun w' hx =>
        eqf_c Q Q' l l' A A' c c' w' (by omega) (fun w2 h2 j x hj => ((hk j x hj).ex hx).ex h2) (fun w2 h2 j x hj => ((hk' j x hj).ex hx).ex h2) (fun w2 h2 x y k n p q k' n' p' q' s s' B B' m m' c c' hxl hyl htx hty =>
          ih x y Q Q' w2 k n p q k' n' p' q' s s' B B' m m' c c' (by have := mem_le_sum (l.map Tr.size) x.size (List.mem_map.2 ⟨x, hxl, rfl⟩); omega) (by omega) htx hty)
      generalize listB l l' = RES at *
      clear ih hk hk' ht ht' hs hN hlen
      go_enter Tryz.func9, Tryz.ntmps9
      go_wp2_with fail
      refine (HE.out _ (((Ex.refl _).alloc _).alloc _)).mono ?_
      rintro e w' ⟨rfl, z, rfl⟩
      go_wp2_with fail
      go_ret
      exact Ret.mk (by simp) ((((Ex.refl _).alloc _).alloc _).ext _)
end Go.Proofs.YthjalkonlcjhnaaGreatDoor
