/-
  Sizes and depths of trees in memory, walked: the program's and the reference's.
  Conditions: as each theorem says.
-/
import Derived.Test.YthjalkonlcjhnaaGreatDoorQg
namespace Go.Proofs.YthjalkonlcjhnaaGreatDoor
open Go.RowKit
def Tr.size : Tr → Nat
  | .node _ _ _ _ _ l => 1 + (l.map Tr.size).sum
def Tr.depth : Tr → Nat
  | .node _ _ _ _ _ l => 1 + (l.map Tr.depth).foldl max 0
theorem Tr.size_node (k n p q : Int) (s : ByteArray) (l : List Tr) : (Tr.node k n p q s l).size = 1 + (l.map Tr.size).sum := by unfold Tr.size; rfl
theorem Tr.depth_node (k n p q : Int) (s : ByteArray) (l : List Tr) : (Tr.node k n p q s l).depth = 1 + (l.map Tr.depth).foldl max 0 := by unfold Tr.depth; rfl
theorem Tr.induct {P : Tr → Prop} (h : ∀ k n p q s l, (∀ x, x ∈ l → P x) → P (.node k n p q s l)) : ∀ t, P t
  | .node k n p q s l => h k n p q s l (fun x _ => Tr.induct h x)
theorem Tr.size_pos (t : Tr) : 1 ≤ t.size := by
  obtain ⟨k, n, p, q, s, l⟩ := t
  rw [Tr.size_node]; omega
theorem sum_take : ∀ (l : List Nat) (j x : Nat), l[j]? = some x → (l.take (j + 1)).sum = (l.take j).sum + x
  | [], j, x, h => by simp at h
  | y :: l, 0, x, h => by simp at h; subst h; simp
  | y :: l, j + 1, x, h => by
    have := sum_take l j x (by simpa using h)
    simp only [List.take_succ_cons, List.sum_cons]
    omega
theorem sum_le : ∀ (l : List Nat) (j : Nat), (l.take j).sum ≤ l.sum
  | [], j => by simp
  | y :: l, 0 => by simp
  | y :: l, j + 1 => by
    have := sum_le l j
    simp only [List.take_succ_cons, List.sum_cons]
    omega
theorem len_le_sum : ∀ (l : List Nat), (∀ x ∈ l, 1 ≤ x) → l.length ≤ l.sum
  | [], _ => by simp
  | y :: l, h => by
    have := len_le_sum l (fun x hx => h x (List.mem_cons_of_mem _ hx))
    have := h y (List.mem_cons_self ..)
    simp only [List.length_cons, List.sum_cons]
    omega
theorem mem_le_sum : ∀ (l : List Nat) (x : Nat), x ∈ l → x ≤ l.sum
  | y :: l, x, h => by
    rcases List.mem_cons.1 h with rfl | h
    · simp
    · have := mem_le_sum l x h
      simp only [List.sum_cons]; omega
theorem max_take (l : List Nat) (j x : Nat) (h : l[j]? = some x) : (l.take (j + 1)).foldl max 0 = max ((l.take j).foldl max 0) x := by
  obtain ⟨hj, hx⟩ := List.getElem?_eq_some_iff.1 h
  rw [List.take_succ_eq_append_getElem hj, List.foldl_append, hx]
  rfl
theorem foldl_max_le : ∀ (l : List Nat) (a M : Nat), a ≤ M → (∀ x ∈ l, x ≤ M) → l.foldl max a ≤ M
  | [], a, M, h, _ => h
  | y :: l, a, M, h, hx => foldl_max_le l (max a y) M (by have := hx y (List.mem_cons_self ..); omega) (fun x hm => hx x (List.mem_cons_of_mem _ hm))
theorem Tr.depth_le : ∀ t : Tr, t.depth ≤ t.size := by
  refine Tr.induct ?_
  intro k n p q s l ih
  rw [Tr.size_node, Tr.depth_node]
  have : (l.map Tr.depth).foldl max 0 ≤ (l.map Tr.size).sum := by
    refine foldl_max_le _ _ _ (Nat.zero_le _) fun x hx => ?_
    obtain ⟨y, hy, rfl⟩ := List.mem_map.1 hx
    exact Nat.le_trans (ih y hy) (mem_le_sum _ _ (List.mem_map.2 ⟨y, hy, rfl⟩))
  omega
theorem Tr.len_le {l : List Tr} : l.length ≤ (l.map Tr.size).sum := by
  have := len_le_sum (l.map Tr.size) (fun x hx => by obtain ⟨y, _, rfl⟩ := List.mem_map.1 hx; exact y.size_pos)
  simpa using this
/-- child j of a node, read at the node's slice -/
def Kid (Q : Nat → Prop) (w : World) (A : Option Addr) (j : Nat) (x : Tr) : Prop :=
  ∃ (b o : Nat) (k n p q : Int) (s : ByteArray) (B : Option Addr) (m c : Nat), A = some ⟨b, o, none⟩ ∧ b < w.heap.size ∧ w.cell? ⟨b, o + j * 6, none⟩ = some (.int .i64 k) ∧ w.cell? ⟨b, o + j * 6 + 1, none⟩ = some (.int .i64 n) ∧ w.cell? ⟨b, o + j * 6 + 2, none⟩ = some (.int .i64 p) ∧ w.cell? ⟨b, o + j * 6 + 3, none⟩ = some (.int .i64 q) ∧ w.cell? ⟨b, o + j * 6 + 4, none⟩ = some (.string s) ∧ w.cell? ⟨b, o + j * 6 + 5, none⟩ = some (.slice B m c) ∧ TrC Q w x (c6 k n p q s B m c)
theorem Kid.ex {Q : Nat → Prop} {w w' : World} {A : Option Addr} {j : Nat} {x : Tr} (h : Kid Q w A j x) (hx : Ex w w') : Kid Q w' A j x := by
  obtain ⟨b, o, k, n, p, q, s, B, m, c, hA, hb, h0, h1, h2, h3, h4, h5, ht⟩ := h
  have e : ∀ i, w'.cell? ⟨b, i, none⟩ = w.cell? ⟨b, i, none⟩ := fun i => hx.below.cell (p := ⟨b, i, none⟩) hb
  exact ⟨b, o, k, n, p, q, s, B, m, c, hA, Nat.lt_of_lt_of_le hb hx.below.size, (e _).trans h0, (e _).trans h1, (e _).trans h2, (e _).trans h3, (e _).trans h4, (e _).trans h5, ht.ex hx⟩
theorem flat6 : ∀ (css : List (List Value)) (j : Nat) (cs : List Value) (i : Nat), (∀ x ∈ css, x.length = 6) → css[j]? = some cs → i < 6 → css.flatten[j * 6 + i]? = cs[i]?
  | [], j, cs, i, _, h, _ => by simp at h
  | y :: l, 0, cs, i, h6, h, hi => by
    simp at h; subst h
    rw [List.flatten_cons, List.getElem?_append_left (by rw [h6 y (List.mem_cons_self ..)]; omega)]
    simp
  | y :: l, j + 1, cs, i, h6, h, hi => by
    have hy := h6 y (List.mem_cons_self ..)
    rw [List.flatten_cons, List.getElem?_append_right (by rw [hy]; omega), hy, ← flat6 l j cs i (fun x hx => h6 x (List.mem_cons_of_mem _ hx)) (by simpa using h) hi]
    congr 1; omega
theorem TrC.last {Q : Nat → Prop} {w : World} {t : Tr} {cs : List Value} (h : TrC Q w t cs) : ∃ (k n p q : Int) (s : ByteArray) (A : Option Addr) (m c : Nat), cs = c6 k n p q s A m c := by
  cases h with
  | leaf k n p q s A c => exact ⟨k, n, p, q, s, A, 0, c, rfl⟩
  | node k n p q s l b o c css hQ hl h6 hr hk => exact ⟨k, n, p, q, s, _, _, c, rfl⟩
/-- a node's cells, and its parts -/
theorem TrC.kids {Q : Nat → Prop} {w : World} {k n p q k' n' p' q' : Int} {s s' : ByteArray} {l : List Tr} {A : Option Addr} {m c : Nat} (h : TrC Q w (.node k n p q s l) (c6 k' n' p' q' s' A m c)) :
    k' = k ∧ n' = n ∧ p' = p ∧ q' = q ∧ s' = s ∧ m = l.length ∧ ∀ (j : Nat) (x : Tr), l[j]? = some x → Kid Q w A j x := by
  cases h with
  | leaf => exact ⟨rfl, rfl, rfl, rfl, rfl, rfl, fun j x hj => by simp at hj⟩
  | node _ _ _ _ _ _ b o _ css hQ hl h6 hr hk =>
    refine ⟨rfl, rfl, rfl, rfl, rfl, rfl, fun j x hj => ?_⟩
    have hjl : j < css.length := by rw [hl]; exact (List.getElem?_eq_some_iff.1 hj).1
    obtain ⟨cs, hcs⟩ : ∃ cs, css[j]? = some cs := ⟨_, List.getElem?_eq_getElem hjl⟩
    have ht := hk j x cs hj hcs
    obtain ⟨k, n, p, q, s, B, m, c, rfl⟩ := ht.last
    have e : ∀ i u, i < 6 → (c6 k n p q s B m c)[i]? = some u → w.cell? ⟨b, o + j * 6 + i, none⟩ = some u := fun i u hi hu => by
      rw [Nat.add_assoc]
      exact hr.2 _ u (by rw [flat6 css j _ i h6 hcs hi]; exact hu)
    exact ⟨b, o, k, n, p, q, s, B, m, c, rfl, hr.1, e 0 _ (by omega) rfl, e 1 _ (by omega) rfl, e 2 _ (by omega) rfl, e 3 _ (by omega) rfl, e 4 _ (by omega) rfl, e 5 _ (by omega) rfl, ht⟩

set_option maxRecDepth 20000 in
set_option maxHeartbeats 800000 in
theorem size_c : ∀ (N : Nat) (t : Tr) (Q : Nat → Prop) (w : World) (k n p q : Int) (s : ByteArray) (A : Option Addr) (m c : Nat), t.size ≤ N → N ≤ 1000000 → TrC Q w t (c6 k n p q s A m c) →
    Calls Tryz.prog 11 #[.agg #[.int .i64 k, .int .i64 n, .int .i64 p, .int .i64 q, .string s, .slice A m c]] w (Ret w (.int .i64 (t.size : Nat))) := by
  intro N
  induction N with
  | zero => intro t Q w k n p q s A m c h; exact absurd h (by have := t.size_pos; omega)
  | succ N ih =>
    intro t Q w k n p q s A m c hs hN ht
    obtain ⟨k1, n1, p1, q1, s1, l⟩ := t
    obtain ⟨rfl, rfl, rfl, rfl, rfl, rfl, hk⟩ := ht.kids
    have hlen := Tr.len_le (l := l)
    rw [Tr.size_node] at hs
    rw [Tr.size_node]
    have HK := Lib.hid (fun w' (hx : Ex w w') j x (hj : l[j]? = some x) => (hk j x hj).ex hx)
    have HG : Hid (∀ j, j < l.length → ∃ x, l[j]? = some x) := fun j hj => ⟨_, List.getElem?_eq_getElem hj⟩
    have HI : Hid (∀ j x, l[j]? = some x → x.size ≤ N ∧ x.size ≤ 1000000 ∧ (1 + ((l.take j).map Tr.size).sum) + x.size = 1 + ((l.take (j + 1)).map Tr.size).sum ∧ 1 + ((l.take (j + 1)).map Tr.size).sum ≤ 1000001) := fun j x hj => by
      have h1 : (l.map Tr.size)[j]? = some x.size := by rw [List.getElem?_map, hj]; rfl
      have h2 := mem_le_sum _ _ (List.mem_of_getElem? h1)
      have h3 := x.depth_le
      have h6 := sum_le (l.map Tr.size) (j + 1)
      have h4 := sum_take _ _ _ h1
      rw [← List.map_take, ← List.map_take] at h4
      rw [← List.map_take] at h6
      exact ⟨by omega, by omega, by omega, by omega⟩
    have HC := Lib.hid (fun w' x k n p q s A m c (h1 : x.size ≤ N) (h : TrC Q w' x (c6 k n p q s A m c)) => ih x Q w' k n p q s A m c h1 (by omega) h)
    have hl : l.length ≤ 1000000 := by omega
    clear ih hk ht hs hN hlen
    have HZ : Hid (Blk (w.alloc (.cells #[.int .i64 k, .int .i64 n, .int .i64 p, .int .i64 q, .string s, .slice A l.length c] 24)) w.heap.size 24 (c6 k n p q s A l.length c)) := Blk.new w _ _
    have HX0 : Hid (Ex w (w.alloc (.cells #[.int .i64 k, .int .i64 n, .int .i64 p, .int .i64 q, .string s, .slice A l.length c] 24))) := (Ex.refl w).alloc _
    obtain ⟨W0, hW0⟩ : ∃ W0, W0 = w.alloc (.cells #[.int .i64 k, .int .i64 n, .int .i64 p, .int .i64 q, .string s, .slice A l.length c] 24) := ⟨_, rfl⟩
    rw [← hW0] at HZ HX0
    have HW0 := Lib.hid hW0
    clear hW0
    go_enter Tryz.func11, Tryz.ntmps11
    go_wp2_with fail
    rw [← HW0.out]
    go_loopw [3, 9] (fun v i wr => ∃ j sv : Nat, i = .int .i64 j ∧ v = .int .i64 sv ∧ j ≤ l.length ∧ sv ≤ 1000001 ∧ Hid (sv = 1 + ((l.take j).map Tr.size).sum ∧ Ex W0 wr)) (fun v i _ => l.length - (intOf i).toNat)
    case atStart => exact ⟨0, 1, rfl, rfl, Nat.zero_le _, by omega, Lib.hid ⟨rfl, Ex.refl _⟩⟩
    case round =>
      obtain ⟨j, sv, rfl, rfl, hj, hsv, HH⟩ := hrel
      have hz := HZ.out.ex HH.out.2
      have lz := hz.lt
      have r5 : wr.cell? ⟨w.heap.size, 5, none⟩ = some (.slice A l.length c) := hz.cell 5
      clear hz
      by_cases hlt : j < l.length
      · have m1 : (j : Int) < (l.length : Int) := by omega
        have m0 : (0 : Int) ≤ (j : Int) := by omega
        obtain ⟨x, hx⟩ := HG.out j hlt
        obtain ⟨b, o, k2, n2, p2, q2, s2, B, m2, c2, rfl, hb, h0, h1, h2, h3, h4, h5, htx⟩ := HK.out _ (HX0.out.trans HH.out.2) j x hx
        obtain ⟨hx1, hx2, hx3, hx4⟩ := HI.out j x hx
        have HX3 := Lib.hid hx3
        have HCx := Lib.hid (fun w' (hy : Ex wr w') => HC.out w' x k2 n2 p2 q2 s2 B m2 c2 hx1 (htx.ex hy))
        have HS := Lib.hid HH.out.1
        have hne : sv + x.size ≤ 3000000 := by omega
        have hle : sv + x.size ≤ 1000001 := by rw [HH.out.1, hx3]; exact hx4
        generalize x.size = xs at *
        have HBx := Lib.hid (HH.out.2)
        clear hx3 htx hx hx1 HH hx2 hx4
        go_wp2_with fail
        refine (HCx.out _ (by repeat (first | exact Ex.refl _ | refine Ex.alloc ?_ _))).mono ?_
        rintro e w' ⟨rfl, z, rfl⟩
        go_wp2_with fail
        refine ⟨⟨j + 1, sv + xs, by go_num, by go_num, by omega, by omega, Lib.hid ⟨by rw [← HX3.out, ← HS.out], ?_⟩⟩, by simp [intOf]; omega⟩
        exact HBx.out.trans (Ex.ext (by repeat (first | exact Ex.refl _ | refine Ex.alloc ?_ _)) _)
      · have hjl : j = l.length := by omega
        subst hjl
        have m1 : decide (((l.length : Nat) : Int) < (l.length : Int)) = false := decide_eq_false (by omega)
        have HS := Lib.hid HH.out
        clear hlt HH
        go_wp2_with fail
        go_ret
        refine Ret.mk ?_ (HX0.out.trans HS.out.2)
        have h := HS.out.1
        rw [List.take_length] at h
        rw [h]; rfl

set_option maxRecDepth 20000 in
set_option maxHeartbeats 800000 in
theorem depth_c : ∀ (N : Nat) (t : Tr) (Q : Nat → Prop) (w : World) (k n p q : Int) (s : ByteArray) (A : Option Addr) (m c : Nat), t.size ≤ N → N ≤ 1000000 → TrC Q w t (c6 k n p q s A m c) →
    Calls Tryz.prog 13 #[.agg #[.int .i64 k, .int .i64 n, .int .i64 p, .int .i64 q, .string s, .slice A m c]] w (Ret w (.int .i64 (t.depth : Nat))) := by
  intro N
  induction N with
  | zero => intro t Q w k n p q s A m c h; exact absurd h (by have := t.size_pos; omega)
  | succ N ih =>
    intro t Q w k n p q s A m c hs hN ht
    obtain ⟨k1, n1, p1, q1, s1, l⟩ := t
    obtain ⟨rfl, rfl, rfl, rfl, rfl, rfl, hk⟩ := ht.kids
    have hlen := Tr.len_le (l := l)
    rw [Tr.size_node] at hs
    rw [Tr.depth_node]
    have HK := Lib.hid (fun w' (hx : Ex w w') j x (hj : l[j]? = some x) => (hk j x hj).ex hx)
    have HG : Hid (∀ j, j < l.length → ∃ x, l[j]? = some x) := fun j hj => ⟨_, List.getElem?_eq_getElem hj⟩
    have HI : Hid (∀ j x, l[j]? = some x → x.size ≤ N ∧ x.depth ≤ 1000000 ∧ max (((l.take j).map Tr.depth).foldl max 0) x.depth = ((l.take (j + 1)).map Tr.depth).foldl max 0) := fun j x hj => by
      have h1 : (l.map Tr.size)[j]? = some x.size := by rw [List.getElem?_map, hj]; rfl
      have h2 := mem_le_sum _ _ (List.mem_of_getElem? h1)
      have h3 := x.depth_le
      have h6 := sum_le (l.map Tr.size) (j + 1)
      have h5 : (l.map Tr.depth)[j]? = some x.depth := by rw [List.getElem?_map, hj]; rfl
      have h4 := max_take _ _ _ h5
      rw [← List.map_take, ← List.map_take] at h4
      exact ⟨by omega, by omega, h4.symm⟩
    have HC := Lib.hid (fun w' x k n p q s A m c (h1 : x.size ≤ N) (h : TrC Q w' x (c6 k n p q s A m c)) => ih x Q w' k n p q s A m c h1 (by omega) h)
    have hl : l.length ≤ 1000000 := by omega
    clear ih hk ht hs hN hlen
    have HZ : Hid (Blk (w.alloc (.cells #[.int .i64 k, .int .i64 n, .int .i64 p, .int .i64 q, .string s, .slice A l.length c] 24)) w.heap.size 24 (c6 k n p q s A l.length c)) := Blk.new w _ _
    have HX0 : Hid (Ex w (w.alloc (.cells #[.int .i64 k, .int .i64 n, .int .i64 p, .int .i64 q, .string s, .slice A l.length c] 24))) := (Ex.refl w).alloc _
    obtain ⟨W0, hW0⟩ : ∃ W0, W0 = w.alloc (.cells #[.int .i64 k, .int .i64 n, .int .i64 p, .int .i64 q, .string s, .slice A l.length c] 24) := ⟨_, rfl⟩
    rw [← hW0] at HZ HX0
    have HW0 := Lib.hid hW0
    clear hW0
    go_enter Tryz.func13, Tryz.ntmps13
    go_wp2_with fail
    rw [← HW0.out]
    go_loopw [3, 9] (fun v i wr => ∃ j sv : Nat, i = .int .i64 j ∧ v = .int .i64 sv ∧ j ≤ l.length ∧ sv ≤ 1000001 ∧ Hid (sv = ((l.take j).map Tr.depth).foldl max 0 ∧ Ex W0 wr)) (fun v i _ => l.length - (intOf i).toNat)
    case atStart => exact ⟨0, 0, rfl, rfl, Nat.zero_le _, by omega, Lib.hid ⟨rfl, Ex.refl _⟩⟩
    case round =>
      obtain ⟨j, sv, rfl, rfl, hj, hsv, HH⟩ := hrel
      have hz := HZ.out.ex HH.out.2
      have lz := hz.lt
      have r5 : wr.cell? ⟨w.heap.size, 5, none⟩ = some (.slice A l.length c) := hz.cell 5
      clear hz
      by_cases hlt : j < l.length
      · have m1 : (j : Int) < (l.length : Int) := by omega
        have m0 : (0 : Int) ≤ (j : Int) := by omega
        obtain ⟨x, hx⟩ := HG.out j hlt
        obtain ⟨b, o, k2, n2, p2, q2, s2, B, m2, c2, rfl, hb, h0, h1, h2, h3, h4, h5, htx⟩ := HK.out _ (HX0.out.trans HH.out.2) j x hx
        obtain ⟨hx1, hx2, hx3⟩ := HI.out j x hx
        have HX3 := Lib.hid hx3
        have HCx := Lib.hid (fun w' (hy : Ex wr w') => HC.out w' x k2 n2 p2 q2 s2 B m2 c2 hx1 (htx.ex hy))
        have HS := Lib.hid HH.out.1
        have hne : sv + x.depth ≤ 3000000 := by omega
        generalize x.depth = xs at *
        have HBx := Lib.hid (HH.out.2)
        clear hx3 htx hx hx1 HH
        go_wp2_with fail
        refine (HCx.out _ (by repeat (first | exact Ex.refl _ | refine Ex.alloc ?_ _))).mono ?_
        rintro e w' ⟨rfl, z, rfl⟩
        go_wp2_with fail
        refine ⟨⟨j + 1, max sv xs, by go_num, by go_num, by omega, by omega, Lib.hid ⟨by rw [← HX3.out, ← HS.out], ?_⟩⟩, by simp [intOf]; omega⟩
        exact HBx.out.trans (Ex.ext (by repeat (first | exact Ex.refl _ | refine Ex.alloc ?_ _)) _)
      · have hjl : j = l.length := by omega
        subst hjl
        have m1 : decide (((l.length : Nat) : Int) < (l.length : Int)) = false := decide_eq_false (by omega)
        have HS := Lib.hid HH.out
        clear hlt HH
        go_wp2_with fail
        go_ret
        refine Ret.mk ?_ (HX0.out.trans HS.out.2)
        have h := HS.out.1
        rw [List.take_length] at h
        rw [show 1 + (l.map Tr.depth).foldl max 0 = sv + 1 by omega]; rfl

set_option maxRecDepth 20000 in
set_option maxHeartbeats 800000 in
theorem rSize_c : ∀ (N : Nat) (t : Tr) (Q : Nat → Prop) (w : World) (k n p q : Int) (s : ByteArray) (A : Option Addr) (m c : Nat), t.size ≤ N → N ≤ 1000000 → TrC Q w t (c6 k n p q s A m c) →
    Calls Tryz.prog 12 #[.agg #[.int .i64 k, .int .i64 n, .int .i64 p, .int .i64 q, .string s, .slice A m c]] w (Ret w (.int .i64 (t.size : Nat))) := by
  intro N
  induction N with
  | zero => intro t Q w k n p q s A m c h; exact absurd h (by have := t.size_pos; omega)
  | succ N ih =>
    intro t Q w k n p q s A m c hs hN ht
    obtain ⟨k1, n1, p1, q1, s1, l⟩ := t
    obtain ⟨rfl, rfl, rfl, rfl, rfl, rfl, hk⟩ := ht.kids
    have hlen := Tr.len_le (l := l)
    rw [Tr.size_node] at hs
    rw [Tr.size_node]
    have HK := Lib.hid (fun w' (hx : Ex w w') j x (hj : l[j]? = some x) => (hk j x hj).ex hx)
    have HG : Hid (∀ j, j < l.length → ∃ x, l[j]? = some x) := fun j hj => ⟨_, List.getElem?_eq_getElem hj⟩
    have HI : Hid (∀ j x, l[j]? = some x → x.size ≤ N ∧ x.size ≤ 1000000 ∧ (1 + ((l.take j).map Tr.size).sum) + x.size = 1 + ((l.take (j + 1)).map Tr.size).sum ∧ 1 + ((l.take (j + 1)).map Tr.size).sum ≤ 1000001) := fun j x hj => by
      have h1 : (l.map Tr.size)[j]? = some x.size := by rw [List.getElem?_map, hj]; rfl
      have h2 := mem_le_sum _ _ (List.mem_of_getElem? h1)
      have h3 := x.depth_le
      have h6 := sum_le (l.map Tr.size) (j + 1)
      have h4 := sum_take _ _ _ h1
      rw [← List.map_take, ← List.map_take] at h4
      rw [← List.map_take] at h6
      exact ⟨by omega, by omega, by omega, by omega⟩
    have HC := Lib.hid (fun w' x k n p q s A m c (h1 : x.size ≤ N) (h : TrC Q w' x (c6 k n p q s A m c)) => ih x Q w' k n p q s A m c h1 (by omega) h)
    have hl : l.length ≤ 1000000 := by omega
    clear ih hk ht hs hN hlen
    have HZ : Hid (Blk (w.alloc (.cells #[.int .i64 k, .int .i64 n, .int .i64 p, .int .i64 q, .string s, .slice A l.length c] 24)) w.heap.size 24 (c6 k n p q s A l.length c)) := Blk.new w _ _
    have HX0 : Hid (Ex w (w.alloc (.cells #[.int .i64 k, .int .i64 n, .int .i64 p, .int .i64 q, .string s, .slice A l.length c] 24))) := (Ex.refl w).alloc _
    obtain ⟨W0, hW0⟩ : ∃ W0, W0 = w.alloc (.cells #[.int .i64 k, .int .i64 n, .int .i64 p, .int .i64 q, .string s, .slice A l.length c] 24) := ⟨_, rfl⟩
    rw [← hW0] at HZ HX0
    have HW0 := Lib.hid hW0
    clear hW0
    go_enter Tryz.func12, Tryz.ntmps12
    go_wp2_with fail
    rw [← HW0.out]
    go_loopw [3, 4] (fun v i wr => ∃ j sv : Nat, i = .int .i64 j ∧ v = .int .i64 sv ∧ j ≤ l.length ∧ sv ≤ 1000001 ∧ Hid (sv = 1 + ((l.take j).map Tr.size).sum ∧ Ex W0 wr)) (fun v i _ => l.length - (intOf i).toNat)
    case atStart => exact ⟨0, 1, rfl, rfl, Nat.zero_le _, by omega, Lib.hid ⟨rfl, Ex.refl _⟩⟩
    case round =>
      obtain ⟨j, sv, rfl, rfl, hj, hsv, HH⟩ := hrel
      have hz := HZ.out.ex HH.out.2
      have lz := hz.lt
      have r5 : wr.cell? ⟨w.heap.size, 5, none⟩ = some (.slice A l.length c) := hz.cell 5
      clear hz
      by_cases hlt : j < l.length
      · have m1 : (j : Int) < (l.length : Int) := by omega
        have m0 : (0 : Int) ≤ (j : Int) := by omega
        obtain ⟨x, hx⟩ := HG.out j hlt
        obtain ⟨b, o, k2, n2, p2, q2, s2, B, m2, c2, rfl, hb, h0, h1, h2, h3, h4, h5, htx⟩ := HK.out _ (HX0.out.trans HH.out.2) j x hx
        obtain ⟨hx1, hx2, hx3, hx4⟩ := HI.out j x hx
        have HX3 := Lib.hid hx3
        have HCx := Lib.hid (fun w' (hy : Ex wr w') => HC.out w' x k2 n2 p2 q2 s2 B m2 c2 hx1 (htx.ex hy))
        have HS := Lib.hid HH.out.1
        have hne : sv + x.size ≤ 3000000 := by omega
        have hle : sv + x.size ≤ 1000001 := by rw [HH.out.1, hx3]; exact hx4
        generalize x.size = xs at *
        have HBx := Lib.hid (HH.out.2)
        clear hx3 htx hx hx1 HH hx2 hx4
        go_wp2_with fail
        refine (HCx.out _ (by repeat (first | exact Ex.refl _ | refine Ex.alloc ?_ _))).mono ?_
        rintro e w' ⟨rfl, z, rfl⟩
        go_wp2_with fail
        refine ⟨⟨j + 1, sv + xs, by go_num, by go_num, by omega, by omega, Lib.hid ⟨by rw [← HX3.out, ← HS.out], ?_⟩⟩, by simp [intOf]; omega⟩
        exact HBx.out.trans (Ex.ext (by repeat (first | exact Ex.refl _ | refine Ex.alloc ?_ _)) _)
      · have hjl : j = l.length := by omega
        subst hjl
        have m1 : decide (((l.length : Nat) : Int) < (l.length : Int)) = false := decide_eq_false (by omega)
        have HS := Lib.hid HH.out
        clear hlt HH
        go_wp2_with fail
        go_ret
        refine Ret.mk ?_ (HX0.out.trans HS.out.2)
        have h := HS.out.1
        rw [List.take_length] at h
        rw [h]; rfl

set_option maxRecDepth 20000 in
set_option maxHeartbeats 800000 in
theorem rDepth_c : ∀ (N : Nat) (t : Tr) (Q : Nat → Prop) (w : World) (k n p q : Int) (s : ByteArray) (A : Option Addr) (m c : Nat), t.size ≤ N → N ≤ 1000000 → TrC Q w t (c6 k n p q s A m c) →
    Calls Tryz.prog 14 #[.agg #[.int .i64 k, .int .i64 n, .int .i64 p, .int .i64 q, .string s, .slice A m c]] w (Ret w (.int .i64 (t.depth : Nat))) := by
  intro N
  induction N with
  | zero => intro t Q w k n p q s A m c h; exact absurd h (by have := t.size_pos; omega)
  | succ N ih =>
    intro t Q w k n p q s A m c hs hN ht
    obtain ⟨k1, n1, p1, q1, s1, l⟩ := t
    obtain ⟨rfl, rfl, rfl, rfl, rfl, rfl, hk⟩ := ht.kids
    have hlen := Tr.len_le (l := l)
    rw [Tr.size_node] at hs
    rw [Tr.depth_node]
    have HK := Lib.hid (fun w' (hx : Ex w w') j x (hj : l[j]? = some x) => (hk j x hj).ex hx)
    have HG : Hid (∀ j, j < l.length → ∃ x, l[j]? = some x) := fun j hj => ⟨_, List.getElem?_eq_getElem hj⟩
    have HI : Hid (∀ j x, l[j]? = some x → x.size ≤ N ∧ x.depth ≤ 1000000 ∧ max (((l.take j).map Tr.depth).foldl max 0) x.depth = ((l.take (j + 1)).map Tr.depth).foldl max 0) := fun j x hj => by
      have h1 : (l.map Tr.size)[j]? = some x.size := by rw [List.getElem?_map, hj]; rfl
      have h2 := mem_le_sum _ _ (List.mem_of_getElem? h1)
      have h3 := x.depth_le
      have h6 := sum_le (l.map Tr.size) (j + 1)
      have h5 : (l.map Tr.depth)[j]? = some x.depth := by rw [List.getElem?_map, hj]; rfl
      have h4 := max_take _ _ _ h5
      rw [← List.map_take, ← List.map_take] at h4
      exact ⟨by omega, by omega, h4.symm⟩
    have HC := Lib.hid (fun w' x k n p q s A m c (h1 : x.size ≤ N) (h : TrC Q w' x (c6 k n p q s A m c)) => ih x Q w' k n p q s A m c h1 (by omega) h)
    have hl : l.length ≤ 1000000 := by omega
    clear ih hk ht hs hN hlen
    have HZ : Hid (Blk (w.alloc (.cells #[.int .i64 k, .int .i64 n, .int .i64 p, .int .i64 q, .string s, .slice A l.length c] 24)) w.heap.size 24 (c6 k n p q s A l.length c)) := Blk.new w _ _
    have HX0 : Hid (Ex w (w.alloc (.cells #[.int .i64 k, .int .i64 n, .int .i64 p, .int .i64 q, .string s, .slice A l.length c] 24))) := (Ex.refl w).alloc _
    obtain ⟨W0, hW0⟩ : ∃ W0, W0 = w.alloc (.cells #[.int .i64 k, .int .i64 n, .int .i64 p, .int .i64 q, .string s, .slice A l.length c] 24) := ⟨_, rfl⟩
    rw [← hW0] at HZ HX0
    have HW0 := Lib.hid hW0
    clear hW0
    go_enter Tryz.func14, Tryz.ntmps14
    go_wp2_with fail
    rw [← HW0.out]
    go_loopw [3, 4] (fun v i wr => ∃ j sv : Nat, i = .int .i64 j ∧ v = .int .i64 sv ∧ j ≤ l.length ∧ sv ≤ 1000001 ∧ Hid (sv = ((l.take j).map Tr.depth).foldl max 0 ∧ Ex W0 wr)) (fun v i _ => l.length - (intOf i).toNat)
    case atStart => exact ⟨0, 0, rfl, rfl, Nat.zero_le _, by omega, Lib.hid ⟨rfl, Ex.refl _⟩⟩
    case round =>
      obtain ⟨j, sv, rfl, rfl, hj, hsv, HH⟩ := hrel
      have hz := HZ.out.ex HH.out.2
      have lz := hz.lt
      have r5 : wr.cell? ⟨w.heap.size, 5, none⟩ = some (.slice A l.length c) := hz.cell 5
      clear hz
      by_cases hlt : j < l.length
      · have m1 : (j : Int) < (l.length : Int) := by omega
        have m0 : (0 : Int) ≤ (j : Int) := by omega
        obtain ⟨x, hx⟩ := HG.out j hlt
        obtain ⟨b, o, k2, n2, p2, q2, s2, B, m2, c2, rfl, hb, h0, h1, h2, h3, h4, h5, htx⟩ := HK.out _ (HX0.out.trans HH.out.2) j x hx
        obtain ⟨hx1, hx2, hx3⟩ := HI.out j x hx
        have HX3 := Lib.hid hx3
        have HCx := Lib.hid (fun w' (hy : Ex wr w') => HC.out w' x k2 n2 p2 q2 s2 B m2 c2 hx1 (htx.ex hy))
        have HS := Lib.hid HH.out.1
        have hne : sv + x.depth ≤ 3000000 := by omega
        generalize x.depth = xs at *
        have HBx := Lib.hid (HH.out.2)
        clear hx3 htx hx hx1 HH
        go_wp2_with fail
        refine (HCx.out _ (by repeat (first | exact Ex.refl _ | refine Ex.alloc ?_ _))).mono ?_
        rintro e w' ⟨rfl, z, rfl⟩
        go_wp2_with fail
        refine ⟨⟨j + 1, max sv xs, by go_num, by go_num, by omega, by omega, Lib.hid ⟨by rw [← HX3.out, ← HS.out], ?_⟩⟩, by simp [intOf]; omega⟩
        exact HBx.out.trans (Ex.ext (by repeat (first | exact Ex.refl _ | refine Ex.alloc ?_ _)) _)
      · have hjl : j = l.length := by omega
        subst hjl
        have m1 : decide (((l.length : Nat) : Int) < (l.length : Int)) = false := decide_eq_false (by omega)
        have HS := Lib.hid HH.out
        clear hlt HH
        go_wp2_with fail
        go_ret
        refine Ret.mk ?_ (HX0.out.trans HS.out.2)
        have h := HS.out.1
        rw [List.take_length] at h
        rw [show 1 + (l.map Tr.depth).foldl max 0 = sv + 1 by omega]; rfl

end Go.Proofs.YthjalkonlcjhnaaGreatDoor
