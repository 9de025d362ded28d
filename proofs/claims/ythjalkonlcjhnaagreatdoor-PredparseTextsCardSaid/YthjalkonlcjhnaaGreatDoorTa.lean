/-
  The guard on great trees, walked.
  Conditions: as each theorem says.
-/
import Derived.Test.YthjalkonlcjhnaaGreatDoorQn
namespace Go.Proofs.YthjalkonlcjhnaaGreatDoor
open Go.RowKit
/-- all lists of parts are no longer than Go slices are -/
inductive LnOk : Tr → Prop where
  | node (k n p q : Int) (s : ByteArray) (l : List Tr) (hs : l.length ≤ maxLen) (hl : ∀ x ∈ l, LnOk x) : LnOk (.node k n p q s l)
theorem LnOk.len {k n p q : Int} {s : ByteArray} {l : List Tr} (h : LnOk (.node k n p q s l)) : l.length ≤ maxLen := by cases h with | node _ _ _ _ _ _ hs _ => exact hs
theorem LnOk.kid {k n p q : Int} {s : ByteArray} {l : List Tr} (h : LnOk (.node k n p q s l)) : ∀ x ∈ l, LnOk x := by cases h with | node _ _ _ _ _ _ _ hl => exact hl
theorem Tr.depth_pos (t : Tr) : 1 ≤ t.depth := by
  obtain ⟨k, n, p, q, s, l⟩ := t
  rw [Tr.depth_node]; omega
theorem le_foldl_max : ∀ (l : List Nat) (a x : Nat), (x ≤ a ∨ x ∈ l) → x ≤ l.foldl max a
  | [], a, x, h => by simpa using h
  | y :: l, a, x, h => by
    refine le_foldl_max l (max a y) x ?_
    rcases h with h | h
    · left; omega
    · rcases List.mem_cons.1 h with rfl | h
      · left; omega
      · exact .inr h
theorem kid_depth {k n p q : Int} {s : ByteArray} {l : List Tr} {x : Tr} (h : x ∈ l) : x.depth + 1 ≤ (Tr.node k n p q s l).depth := by
  rw [Tr.depth_node]
  have := le_foldl_max (l.map Tr.depth) 0 x.depth (.inr (List.mem_map.2 ⟨x, h, rfl⟩))
  omega
theorem LnOk.of_size {N : Nat} (hN : N ≤ maxLen) : ∀ t : Tr, t.size ≤ N → LnOk t := by
  refine Tr.induct ?_
  intro k n p q s l ih h
  rw [Tr.size_node] at h
  have hl := Tr.len_le (l := l)
  refine .node k n p q s l (by omega) fun x hx => ih x hx ?_
  have := mem_le_sum (l.map Tr.size) x.size (List.mem_map.2 ⟨x, hx, rfl⟩)
  omega
def NodesR (d : Nat) (t : Tr) (w : World) (e : Ending) (w' : World) : Prop := ∃ v : Nat, e = .returned (.int .i64 v) ∧ v ≤ 251 + 250 * d ∧ (v ≤ 250 → t.size ≤ v) ∧ (t.size ≤ 250 → t.depth ≤ d + 1 → v = t.size) ∧ Ex w w'
theorem nodes_zero (t : Tr) (Q : Nat → Prop) (w : World) (k n p q : Int) (s : ByteArray) (A : Option Addr) (m c : Nat) (hn : LnOk t) (ht : TrC Q w t (c6 k n p q s A m c)) :
    Calls Tryz.prog 26 #[.agg #[.int .i64 k, .int .i64 n, .int .i64 p, .int .i64 q, .string s, .slice A m c], .int .i64 0] w (NodesR 0 t w) := by
  obtain ⟨k1, n1, p1, q1, s1, l⟩ := t
  obtain ⟨rfl, rfl, rfl, rfl, rfl, rfl, hk⟩ := ht.kids
  have hlm := hn.len
  unfold maxLen at hlm
  unfold NodesR
  by_cases hl : 0 < l.length
  · obtain ⟨x, hx⟩ : ∃ x, l[0]? = some x := ⟨_, List.getElem?_eq_getElem hl⟩
    obtain ⟨b, o, k2, n2, p2, q2, s2, B, m2, c2, rfl, hb, h0, h1, h2, h3, h4, h5, htx⟩ := hk 0 x hx
    rw [Nat.zero_mul, Nat.add_zero] at h0 h1 h2 h3 h4 h5
    have m1 : (0 : Int) < (l.length : Int) := by omega
    have Hdp : Hid (2 ≤ (Tr.node k n p q s l).depth) := by
      show _ ≤ _
      have h9 := kid_depth (k := k) (n := n) (p := p) (q := q) (s := s) (List.mem_of_getElem? hx)
      have h10 := x.depth_pos
      omega
    clear hk ht hx htx hn
    go_enter Tryz.func26, Tryz.ntmps26
    go_wp2_with fail
    go_loopw [5, 11] (fun v i wr => v = .int .i64 1 ∧ i = .int .i64 0 ∧ wr = w.alloc (.cells #[.int .i64 k, .int .i64 n, .int .i64 p, .int .i64 q, .string s, .slice (some ⟨b, o, none⟩) l.length c] 24)) (fun _ i _ => 0)
    case atStart => exact ⟨rfl, rfl, rfl⟩
    case round =>
      obtain ⟨rfl, rfl, rfl⟩ := hrel
      go_wp2_with fail
      go_ret
      exact ⟨251, rfl, by omega, by omega, (fun _ h => absurd h (by have := Hdp.out; omega)), ((Ex.refl _).alloc _).alloc _⟩
  · have h0 : l = [] := List.eq_nil_of_length_eq_zero (by omega)
    subst h0
    clear hk ht hn hl
    go_enter Tryz.func26, Tryz.ntmps26
    go_wp2_with fail
    go_loopw [5, 11] (fun v i wr => v = .int .i64 1 ∧ i = .int .i64 0 ∧ wr = w.alloc (.cells #[.int .i64 k, .int .i64 n, .int .i64 p, .int .i64 q, .string s, .slice A 0 c] 24)) (fun _ i _ => 0)
    case atStart => exact ⟨rfl, rfl, rfl⟩
    case round =>
      obtain ⟨rfl, rfl, rfl⟩ := hrel
      go_wp2_with fail
      go_ret
      exact ⟨1, rfl, by omega, (fun _ => by rw [Tr.size_node]; simp), (fun _ _ => by rw [Tr.size_node]; simp), (Ex.refl _).alloc _⟩
set_option maxRecDepth 20000 in
set_option maxHeartbeats 1600000 in
theorem nodes_c : ∀ (d : Nat) (t : Tr) (Q : Nat → Prop) (w : World) (k n p q : Int) (s : ByteArray) (A : Option Addr) (m c : Nat), d ≤ 1000 → LnOk t → TrC Q w t (c6 k n p q s A m c) →
    Calls Tryz.prog 26 #[.agg #[.int .i64 k, .int .i64 n, .int .i64 p, .int .i64 q, .string s, .slice A m c], .int .i64 (d : Nat)] w (NodesR d t w) := by
  intro d
  induction d with
  | zero => intro t Q w k n p q s A m c _ hn ht; exact nodes_zero t Q w k n p q s A m c hn ht
  | succ d ih =>
    intro t Q w k n p q s A m c hd hn ht
    obtain ⟨k1, n1, p1, q1, s1, l⟩ := t
    obtain ⟨rfl, rfl, rfl, rfl, rfl, rfl, hk⟩ := ht.kids
    have hlm := hn.len
    unfold maxLen at hlm
    have HK := Lib.hid (fun w' (hx : Ex w w') j x (hj : l[j]? = some x) => (hk j x hj).ex hx)
    have HG : Hid (∀ j, j < l.length → ∃ x, l[j]? = some x) := fun j hj => ⟨_, List.getElem?_eq_getElem hj⟩
    have HKd : Hid (∀ (j : Nat) (x : Tr), l[j]? = some x → x.depth + 1 ≤ (Tr.node k n p q s l).depth ∧ 1 + ((l.take (j + 1)).map Tr.size).sum ≤ (Tr.node k n p q s l).size ∧ x.size ≤ (Tr.node k n p q s l).size ∧ max (((l.take j).map Tr.depth).foldl max 0) x.depth = ((l.take (j + 1)).map Tr.depth).foldl max 0) := fun j x hj => by
      have h1 := kid_depth (k := k) (n := n) (p := p) (q := q) (s := s) (List.mem_of_getElem? hj)
      have h2 := sum_le (l.map Tr.size) (j + 1)
      rw [← List.map_take] at h2
      have h3 := mem_le_sum (l.map Tr.size) x.size (List.mem_map.2 ⟨x, List.mem_of_getElem? hj, rfl⟩)
      have h5 : (l.map Tr.depth)[j]? = some x.depth := by rw [List.getElem?_map, hj]; rfl
      have h7 := max_take _ _ _ h5
      rw [← List.map_take, ← List.map_take] at h7
      rw [Tr.size_node]
      exact ⟨h1, by omega, by omega, h7.symm⟩
    have HLe : Hid (∀ j, 1 + ((l.take j).map Tr.size).sum ≤ (Tr.node k n p q s l).size) := fun j => by
      have h2 := sum_le (l.map Tr.size) j
      rw [← List.map_take] at h2
      rw [Tr.size_node]; omega
    have HI : Hid (∀ (j : Nat) (x : Tr), l[j]? = some x → ((l.take (j + 1)).map Tr.size).sum = ((l.take j).map Tr.size).sum + x.size) := fun j x hj => by
      have h1 : (l.map Tr.size)[j]? = some x.size := by rw [List.getElem?_map, hj]; rfl
      have h4 := sum_take _ _ _ h1
      rw [← List.map_take, ← List.map_take] at h4
      exact h4
    have HM : Hid (∀ (j : Nat) (x : Tr), l[j]? = some x → LnOk x) := fun j x hj => hn.kid x (List.mem_of_getElem? hj)
    have HC := Lib.hid (fun w' x k n p q s A m c (hx : LnOk x) (h : TrC Q w' x (c6 k n p q s A m c)) => ih x Q w' k n p q s A m c (by omega) hx h)
    unfold NodesR at HC ⊢
    clear ih hk ht hn
    have HZ : Hid (Blk (w.alloc (.cells #[.int .i64 k, .int .i64 n, .int .i64 p, .int .i64 q, .string s, .slice A l.length c] 24)) w.heap.size 24 (c6 k n p q s A l.length c)) := Blk.new w _ _
    have HX0 : Hid (Ex w (w.alloc (.cells #[.int .i64 k, .int .i64 n, .int .i64 p, .int .i64 q, .string s, .slice A l.length c] 24))) := (Ex.refl w).alloc _
    obtain ⟨W0, hW0⟩ : ∃ W0, W0 = w.alloc (.cells #[.int .i64 k, .int .i64 n, .int .i64 p, .int .i64 q, .string s, .slice A l.length c] 24) := ⟨_, rfl⟩
    rw [← hW0] at HZ HX0
    have HW0 := Lib.hid hW0
    clear hW0
    have e0 : (((d + 1 : Nat) : Int) == 0) = false := beq_eq_false_iff_ne.2 (by omega)
    have e1 : ((d + 1 : Nat) == 0) = false := by simp
    have e2 : IntKind.i64.wrap (((d + 1 : Nat) : Int) - 1) = (d : Int) := by rw [IntWalk.i64_in _ (by omega)]; omega
    have e4 : ((d + 1 : Nat) : Int) - 1 = (d : Int) := by omega
    have e3 : 1 ≤ ((d + 1 : Nat) : Int) := by omega
    generalize hD : ((d + 1 : Nat) : Int) = D at *
    go_enter Tryz.func26, Tryz.ntmps26
    go_wp2_with fail
    rw [← HW0.out]
    go_loopw [5, 11] (fun v i wr => ∃ j sv : Nat, i = .int .i64 j ∧ v = .int .i64 sv ∧ j ≤ l.length ∧ sv ≤ 251 + 250 * (d + 1) ∧ Hid ((sv ≤ 250 → 1 + ((l.take j).map Tr.size).sum ≤ sv) ∧ ((Tr.node k n p q s l).size ≤ 250 → (Tr.node k n p q s l).depth ≤ d + 1 + 1 → sv = 1 + ((l.take j).map Tr.size).sum) ∧ Ex W0 wr)) (fun v i _ => l.length - (intOf i).toNat)
    case atStart => exact ⟨0, 1, rfl, rfl, Nat.zero_le _, by omega, Lib.hid ⟨fun _ => by simp, fun _ _ => rfl, Ex.refl _⟩⟩
    case round =>
      obtain ⟨j, sv, rfl, rfl, hj, hsv, HH⟩ := hrel
      by_cases hlt : j < l.length
      · have m1 : (j : Int) < (l.length : Int) := by omega
        have m0 : (0 : Int) ≤ (j : Int) := by omega
        obtain ⟨x, hx⟩ := HG.out j hlt
        obtain ⟨b, o, k2, n2, p2, q2, s2, B, m2, c2, rfl, hb, h0, h1, h2, h3, h4, h5, htx⟩ := HK.out _ (HX0.out.trans HH.out.2.2) j x hx
        have HCx := Lib.hid (fun w' (hy : Ex wr w') => HC.out w' x k2 n2 p2 q2 s2 B m2 c2 (HM.out j x hx) (htx.ex hy))
        have HXx := Lib.hid hx
        clear htx hx
        by_cases h250 : 250 < sv
        · have z1 : decide (250 < (sv : Int)) = true := decide_eq_true (by omega)
          go_wp2_with fail
          go_ret
          exact ⟨251, rfl, by omega, by omega, (fun h1 h2 => by have h3 := HH.out.2.1 h1 h2; have h4 := HLe.out j; omega), (HX0.out.trans HH.out.2.2).alloc _⟩
        · have z1 : decide (250 < (sv : Int)) = false := decide_eq_false (by omega)
          go_wp2_with fail
          refine (HCx.out _ ((Ex.refl _).alloc _)).mono ?_
          rintro e w' ⟨v, rfl, hv, hvs, hve, z, rfl⟩
          have Hvs := Lib.hid hvs
          have Hve := Lib.hid hve
          clear hvs hve
          go_wp2_with fail
          refine ⟨⟨j + 1, sv + v, by go_num, by go_num, by omega, by omega, Lib.hid ⟨fun hle => ?_, fun h1 h2 => ?_, ?_⟩⟩, by simp [intOf]; omega⟩
          · have h6 := HH.out.1 (by omega)
            have h7 := Hvs.out (by omega)
            rw [HI.out j x HXx.out]
            omega
          · have h6 := HH.out.2.1 h1 h2
            obtain ⟨g1, g2, g3, _⟩ := HKd.out j x HXx.out
            have h7 := Hve.out (by omega) (by omega)
            rw [HI.out j x HXx.out]
            omega
          · exact HH.out.2.2.trans (((Ex.refl _).alloc _).ext _)
      · have hjl : j = l.length := by omega
        subst hjl
        have m1 : decide (((l.length : Nat) : Int) < (l.length : Int)) = false := decide_eq_false (by omega)
        have HS := Lib.hid HH.out
        clear hlt HH
        go_wp2_with fail
        go_ret
        refine ⟨sv, rfl, by omega, fun hle => ?_, fun h1 h2 => ?_, HX0.out.trans HS.out.2.2⟩
        · have h := HS.out.1 hle
          rw [List.take_length] at h
          rw [Tr.size_node]; exact h
        · have h := HS.out.2.1 h1 h2
          rw [List.take_length] at h
          rw [Tr.size_node]; exact h
def DeepR (d : Nat) (t : Tr) (w : World) (e : Ending) (w' : World) : Prop := ∃ v : Nat, e = .returned (.int .i64 v) ∧ v ≤ d + 2 ∧ (t.depth ≤ d + 1 → v = t.depth) ∧ Ex w w'
theorem deep_zero (t : Tr) (Q : Nat → Prop) (w : World) (k n p q : Int) (s : ByteArray) (A : Option Addr) (m c : Nat) (hn : LnOk t) (ht : TrC Q w t (c6 k n p q s A m c)) :
    Calls Tryz.prog 27 #[.agg #[.int .i64 k, .int .i64 n, .int .i64 p, .int .i64 q, .string s, .slice A m c], .int .i64 0] w (DeepR 0 t w) := by
  obtain ⟨k1, n1, p1, q1, s1, l⟩ := t
  obtain ⟨rfl, rfl, rfl, rfl, rfl, rfl, hk⟩ := ht.kids
  have hlm := hn.len
  unfold maxLen at hlm
  unfold DeepR
  by_cases hl : 0 < l.length
  · obtain ⟨x, hx⟩ : ∃ x, l[0]? = some x := ⟨_, List.getElem?_eq_getElem hl⟩
    obtain ⟨b, o, k2, n2, p2, q2, s2, B, m2, c2, rfl, hb, h0, h1, h2, h3, h4, h5, htx⟩ := hk 0 x hx
    rw [Nat.zero_mul, Nat.add_zero] at h0 h1 h2 h3 h4 h5
    have m1 : (0 : Int) < (l.length : Int) := by omega
    have Hdp : Hid (2 ≤ (Tr.node k n p q s l).depth) := by
      show _ ≤ _
      have h9 := kid_depth (k := k) (n := n) (p := p) (q := q) (s := s) (List.mem_of_getElem? hx)
      have h10 := x.depth_pos
      omega
    clear hk ht hx htx hn
    go_enter Tryz.func27, Tryz.ntmps27
    go_wp2_with fail
    go_loopw [5, 11] (fun v i wr => v = .int .i64 0 ∧ i = .int .i64 0 ∧ wr = w.alloc (.cells #[.int .i64 k, .int .i64 n, .int .i64 p, .int .i64 q, .string s, .slice (some ⟨b, o, none⟩) l.length c] 24)) (fun _ i _ => 0)
    case atStart => exact ⟨rfl, rfl, rfl⟩
    case round =>
      obtain ⟨rfl, rfl, rfl⟩ := hrel
      go_wp2_with fail
      go_ret
      exact ⟨2, rfl, by omega, (fun h => absurd h (by have := Hdp.out; omega)), ((Ex.refl _).alloc _).alloc _⟩
  · have h0 : l = [] := List.eq_nil_of_length_eq_zero (by omega)
    subst h0
    clear hk ht hn hl
    go_enter Tryz.func27, Tryz.ntmps27
    go_wp2_with fail
    go_loopw [5, 11] (fun v i wr => v = .int .i64 0 ∧ i = .int .i64 0 ∧ wr = w.alloc (.cells #[.int .i64 k, .int .i64 n, .int .i64 p, .int .i64 q, .string s, .slice A 0 c] 24)) (fun _ i _ => 0)
    case atStart => exact ⟨rfl, rfl, rfl⟩
    case round =>
      obtain ⟨rfl, rfl, rfl⟩ := hrel
      go_wp2_with fail
      go_ret
      exact ⟨1, rfl, by omega, (fun _ => by rw [Tr.depth_node]; simp), (Ex.refl _).alloc _⟩
set_option maxRecDepth 20000 in
set_option maxHeartbeats 1600000 in
theorem deep_c : ∀ (d : Nat) (t : Tr) (Q : Nat → Prop) (w : World) (k n p q : Int) (s : ByteArray) (A : Option Addr) (m c : Nat), d ≤ 1000 → LnOk t → TrC Q w t (c6 k n p q s A m c) →
    Calls Tryz.prog 27 #[.agg #[.int .i64 k, .int .i64 n, .int .i64 p, .int .i64 q, .string s, .slice A m c], .int .i64 (d : Nat)] w (DeepR d t w) := by
  intro d
  induction d with
  | zero => intro t Q w k n p q s A m c _ hn ht; exact deep_zero t Q w k n p q s A m c hn ht
  | succ d ih =>
    intro t Q w k n p q s A m c hd hn ht
    obtain ⟨k1, n1, p1, q1, s1, l⟩ := t
    obtain ⟨rfl, rfl, rfl, rfl, rfl, rfl, hk⟩ := ht.kids
    have hlm := hn.len
    unfold maxLen at hlm
    have HK := Lib.hid (fun w' (hx : Ex w w') j x (hj : l[j]? = some x) => (hk j x hj).ex hx)
    have HG : Hid (∀ j, j < l.length → ∃ x, l[j]? = some x) := fun j hj => ⟨_, List.getElem?_eq_getElem hj⟩
    have HKd : Hid (∀ (j : Nat) (x : Tr), l[j]? = some x → x.depth + 1 ≤ (Tr.node k n p q s l).depth ∧ 1 + ((l.take (j + 1)).map Tr.size).sum ≤ (Tr.node k n p q s l).size ∧ x.size ≤ (Tr.node k n p q s l).size ∧ max (((l.take j).map Tr.depth).foldl max 0) x.depth = ((l.take (j + 1)).map Tr.depth).foldl max 0) := fun j x hj => by
      have h1 := kid_depth (k := k) (n := n) (p := p) (q := q) (s := s) (List.mem_of_getElem? hj)
      have h2 := sum_le (l.map Tr.size) (j + 1)
      rw [← List.map_take] at h2
      have h3 := mem_le_sum (l.map Tr.size) x.size (List.mem_map.2 ⟨x, List.mem_of_getElem? hj, rfl⟩)
      have h5 : (l.map Tr.depth)[j]? = some x.depth := by rw [List.getElem?_map, hj]; rfl
      have h7 := max_take _ _ _ h5
      rw [← List.map_take, ← List.map_take] at h7
      rw [Tr.size_node]
      exact ⟨h1, by omega, by omega, h7.symm⟩
    have HLe : Hid (∀ j, 1 + ((l.take j).map Tr.size).sum ≤ (Tr.node k n p q s l).size) := fun j => by
      have h2 := sum_le (l.map Tr.size) j
      rw [← List.map_take] at h2
      rw [Tr.size_node]; omega
    have HM : Hid (∀ (j : Nat) (x : Tr), l[j]? = some x → LnOk x) := fun j x hj => hn.kid x (List.mem_of_getElem? hj)
    have HC := Lib.hid (fun w' x k n p q s A m c (hx : LnOk x) (h : TrC Q w' x (c6 k n p q s A m c)) => ih x Q w' k n p q s A m c (by omega) hx h)
    unfold DeepR at HC ⊢
    clear ih hk ht hn
    have HZ : Hid (Blk (w.alloc (.cells #[.int .i64 k, .int .i64 n, .int .i64 p, .int .i64 q, .string s, .slice A l.length c] 24)) w.heap.size 24 (c6 k n p q s A l.length c)) := Blk.new w _ _
    have HX0 : Hid (Ex w (w.alloc (.cells #[.int .i64 k, .int .i64 n, .int .i64 p, .int .i64 q, .string s, .slice A l.length c] 24))) := (Ex.refl w).alloc _
    obtain ⟨W0, hW0⟩ : ∃ W0, W0 = w.alloc (.cells #[.int .i64 k, .int .i64 n, .int .i64 p, .int .i64 q, .string s, .slice A l.length c] 24) := ⟨_, rfl⟩
    rw [← hW0] at HZ HX0
    have HW0 := Lib.hid hW0
    clear hW0
    have e0 : (((d + 1 : Nat) : Int) == 0) = false := beq_eq_false_iff_ne.2 (by omega)
    have e1 : ((d + 1 : Nat) == 0) = false := by simp
    have e2 : IntKind.i64.wrap (((d + 1 : Nat) : Int) - 1) = (d : Int) := by rw [IntWalk.i64_in _ (by omega)]; omega
    have e4 : ((d + 1 : Nat) : Int) - 1 = (d : Int) := by omega
    have e3 : 1 ≤ ((d + 1 : Nat) : Int) := by omega
    generalize hD : ((d + 1 : Nat) : Int) = D at *
    go_enter Tryz.func27, Tryz.ntmps27
    go_wp2_with fail
    rw [← HW0.out]
    go_loopw [5, 11] (fun v i wr => ∃ j sv : Nat, i = .int .i64 j ∧ v = .int .i64 sv ∧ j ≤ l.length ∧ sv ≤ d + 2 ∧ Hid (((Tr.node k n p q s l).depth ≤ d + 1 + 1 → sv = ((l.take j).map Tr.depth).foldl max 0) ∧ Ex W0 wr)) (fun v i _ => l.length - (intOf i).toNat)
    case atStart => exact ⟨0, 0, rfl, rfl, Nat.zero_le _, by omega, Lib.hid ⟨fun _ => rfl, Ex.refl _⟩⟩
    case round =>
      obtain ⟨j, sv, rfl, rfl, hj, hsv, HH⟩ := hrel
      by_cases hlt : j < l.length
      · have m1 : (j : Int) < (l.length : Int) := by omega
        have m0 : (0 : Int) ≤ (j : Int) := by omega
        obtain ⟨x, hx⟩ := HG.out j hlt
        obtain ⟨b, o, k2, n2, p2, q2, s2, B, m2, c2, rfl, hb, h0, h1, h2, h3, h4, h5, htx⟩ := HK.out _ (HX0.out.trans HH.out.2) j x hx
        have HCx := Lib.hid (fun w' (hy : Ex wr w') => HC.out w' x k2 n2 p2 q2 s2 B m2 c2 (HM.out j x hx) (htx.ex hy))
        have HXx := Lib.hid hx
        clear htx hx
        go_wp2_with fail
        refine (HCx.out _ ((Ex.refl _).alloc _)).mono ?_
        rintro e w' ⟨v, rfl, hv, hve, z, rfl⟩
        have Hve := Lib.hid hve
        clear hve
        go_wp2_with fail
        refine ⟨⟨j + 1, max sv v, by go_num, by go_num, by omega, by omega, Lib.hid ⟨fun h1 => ?_, ?_⟩⟩, by simp [intOf]; omega⟩
        · obtain ⟨g1, g2, g3, g4⟩ := HKd.out j x HXx.out
          rw [HH.out.1 h1, Hve.out (by omega), g4]
        exact HH.out.2.trans (((Ex.refl _).alloc _).ext _)
      · have hjl : j = l.length := by omega
        subst hjl
        have m1 : decide (((l.length : Nat) : Int) < (l.length : Int)) = false := decide_eq_false (by omega)
        have HS := Lib.hid HH.out
        clear hlt HH
        go_wp2_with fail
        go_ret
        refine ⟨sv + 1, by first | rfl | (congr 2), by omega, fun h1 => ?_, HX0.out.trans HS.out.2⟩
        have h := HS.out.1 h1
        rw [List.take_length] at h
        rw [Tr.depth_node, h]; omega
/-- what the guard says: a small tree where it says no -/
def GreatR (t : Tr) (w : World) (e : Ending) (w' : World) : Prop := ∃ b : Bool, e = .returned (.bool b) ∧ (b = false → t.size ≤ 250) ∧ (t.size ≤ 250 → t.depth ≤ 40 → b = false) ∧ Ex w w'
theorem great_c (t : Tr) (Q : Nat → Prop) (w : World) (k n p q : Int) (s : ByteArray) (A : Option Addr) (m c : Nat) (hn : LnOk t) (ht : TrC Q w t (c6 k n p q s A m c)) :
    Calls Tryz.prog 8 #[.agg #[.int .i64 k, .int .i64 n, .int .i64 p, .int .i64 q, .string s, .slice A m c]] w (GreatR t w) := by
  have H1 := Lib.hid (fun w' (hx : Ex w w') => nodes_c 50 t Q w' k n p q s A m c (by omega) hn (ht.ex hx))
  have H2 := Lib.hid (fun w' (hx : Ex w w') => deep_c 41 t Q w' k n p q s A m c (by omega) hn (ht.ex hx))
  unfold NodesR at H1
  unfold DeepR at H2
  unfold GreatR
  clear hn ht
  go_enter Tryz.func8, Tryz.ntmps8
  go_wp2_with fail
  refine (H1.out _ ((Ex.refl _).alloc _)).mono ?_
  rintro e w' ⟨v, rfl, hv, hvs, hve, z, rfl⟩
  have Hvs := Lib.hid hvs
  have Hve := Lib.hid hve
  clear hvs hve
  by_cases h250 : 250 < v
  · have z1 : decide (250 < (v : Int)) = true := decide_eq_true (by omega)
    have Hbig := Lib.hid h250
    clear h250
    go_wp2_with fail
    go_ret
    exact ⟨true, rfl, (fun h => by cases h), (fun h1 h2 => by have := Hve.out h1 (by omega); have := Hbig.out; omega), ((Ex.refl _).alloc _).ext _⟩
  · have z1 : decide (250 < (v : Int)) = false := decide_eq_false (by omega)
    have Hs : Hid (t.size ≤ 250) := by show _ ≤ _; have := Hvs.out (by omega); omega
    clear h250
    go_wp2_with fail
    refine (H2.out _ (((Ex.refl _).alloc _).ext _)).mono ?_
    rintro e w' ⟨v', rfl, hv', hvd, z', rfl⟩
    have Hvd := Lib.hid hvd
    clear hvd
    go_wp2_with fail
    go_ret
    exact ⟨_, rfl, (fun _ => Hs.out), (fun _ h2 => by have := Hvd.out (by omega); exact decide_eq_false (by omega)), (((Ex.refl _).alloc _).ext _).ext _⟩
end Go.Proofs.YthjalkonlcjhnaaGreatDoor
