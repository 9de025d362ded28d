/-
  The law Parens, walked.
  Conditions: the world's tables are as laid (Envw).
-/
import Derived.Test.YthjalkonlcjhnaaDoorRd
import Derived.Test.YthjalkonlcjhnaaDoorQr
import Derived.Test.YthjalkonlcjhnaaDoorQv
namespace Go.Proofs.YthjalkonlcjhnaaDoor
open Go.RowKit
theorem zero_c (t : Tr) (Q : Nat → Prop) (w : World) (k n p q : Int) (s : ByteArray) (A : Option Addr) (m c : Nat) (hs : t.size ≤ 1000000) (h : TrC Q w t (c6 k n p q s A m c)) :
    Calls Tryd.prog 10 #[.agg #[.int .i64 k, .int .i64 n, .int .i64 p, .int .i64 q, .string s, .slice A m c]] w (Ret w (.bool (sameB t (nd 0 [])))) := by
  have HS : Hid (∀ w', Ex w w' → Calls Tryd.prog 7 #[.agg #[.int .i64 k, .int .i64 n, .int .i64 p, .int .i64 q, .string s, .slice A m c], .agg #[.int .i64 0, .int .i64 0, .int .i64 0, .int .i64 0, .string ⟨#[]⟩, .slice none 0 0]] w' (Ret w' (.bool (sameB t (nd 0 []))))) := fun w' hx =>
    same_c t.size t (nd 0 []) Q Q w' k n p q 0 0 0 0 s ⟨#[]⟩ A none m 0 c 0 (Nat.le_refl _) hs (by rw [nd_size0]; omega) (h.ex hx) (.leaf 0 0 0 0 ⟨#[]⟩ none 0)
  generalize sameB t (nd 0 []) = qq at *
  clear h
  go_enter Tryd.func10, Tryd.ntmps10
  go_wp2_with fail
  refine (HS.out _ ((Ex.refl _).alloc _)).mono ?_
  rintro e w' ⟨rfl, z, rfl⟩
  go_wp2_with fail
  go_ret
  exact Ret.mk rfl (((Ex.refl _).alloc _).ext _)
theorem parens_long (s t : ByteArray) (u : Int) (w : World) (hE : Envw w) (h : 400 < s.size ∨ 400 < t.size) : Calls Tryd.prog 3 #[.string s, .string t, .int .u8 u] w (Ret w (.bool true)) := by
  have HA := Lib.hid (awake_c w hE)
  clear hE
  rcases h with h | h
  · have m1 : decide (400 < (s.size : Int)) = true := decide_eq_true (by omega)
    clear h
    go_enter Tryd.func3, Tryd.ntmps3
    go_wp2_with fail
    refine HA.out.mono ?_
    rintro e w' ⟨rfl, z, rfl⟩
    go_wp2_with fail
    go_ret
    exact Ret.mk rfl ((Ex.refl _).ext _)
  · have m1 : decide (400 < (t.size : Int)) = true := decide_eq_true (by omega)
    clear h
    by_cases h0 : 400 < s.size
    · have m2 : decide (400 < (s.size : Int)) = true := decide_eq_true (by omega)
      clear h0
      go_enter Tryd.func3, Tryd.ntmps3
      go_wp2_with fail
      refine HA.out.mono ?_
      rintro e w' ⟨rfl, z, rfl⟩
      go_wp2_with fail
      go_ret
      exact Ret.mk rfl ((Ex.refl _).ext _)
    · have m2 : decide (400 < (s.size : Int)) = false := decide_eq_false (by omega)
      clear h0
      go_enter Tryd.func3, Tryd.ntmps3
      go_wp2_with fail
      refine HA.out.mono ?_
      rintro e w' ⟨rfl, z, rfl⟩
      go_wp2_with fail
      go_ret
      exact Ret.mk rfl ((Ex.refl _).ext _)
/-- what a call of Parse leaves, where nothing but its error counts -/
def ErrR (w : World) (b : Bool) (e : Ending) (w' : World) : Prop :=
  ∃ (k n p q : Int) (s : ByteArray) (A : Option Addr) (m c : Nat) (a1 a2 er : Int), e = .returned (.tuple #[.agg #[.int .i64 k, .int .i64 n, .int .i64 p, .int .i64 q, .string s, .slice A m c], .agg #[.int .i64 a1, .int .i64 a2], .int .i64 er]) ∧ (er != 0) = b ∧ Ex w w'
theorem err_tree {w w' : World} {e : Ending} {x : Tr} (h : ParseR w (.tree x) e w') : ErrR w false e w' := by
  obtain ⟨k, n, p, q, s, A, m, c, rfl, ht, hx⟩ := h
  exact ⟨k, n, p, q, s, A, m, c, 0, 0, 0, rfl, rfl, hx⟩
theorem err_err {w w' : World} {e : Ending} {p : Nat × Nat} {n : Nat} (hn : n ≠ 0) (h : ParseR w (.err p n) e w') : ErrR w true e w' := by
  obtain ⟨rfl, hx⟩ := h
  exact ⟨0, 0, 0, 0, ⟨#[]⟩, none, 0, 0, p.1, p.2, n, rfl, by rw [bne_iff_ne]; omega, hx⟩
def isTree : PO → Bool
  | .tree _ => true
  | .err _ _ => false
theorem parse_err (s : ByteArray) (w : World) (hE : Envw w) : Calls Tryd.prog 6 #[.string s] w (ErrR w (!isTree (parseO s.data.toList))) := by
  have h := parse_c s w hE.1
  cases hp : parseO s.data.toList with
  | tree x => rw [hp] at h; exact h.mono fun _ _ h => err_tree h
  | err p n => rw [hp] at h; exact h.mono fun _ _ h => err_err (parseO_err hp) h
theorem parens_bad (s t : ByteArray) (u : Int) (w : World) (hE : Envw w) (hs : s.size ≤ 400) (ht : t.size ≤ 400) (h : isTree (parseO s.data.toList) = false ∨ isTree (parseO t.data.toList) = false) : Calls Tryd.prog 3 #[.string s, .string t, .int .u8 u] w (Ret w (.bool true)) := by
  have HA := Lib.hid (awake_c w hE)
  have H1 := Lib.hid (fun w' (hx : Ex w w') => parse_err s w' (hE.ex hx))
  have H2 := Lib.hid (fun w' (hx : Ex w w') => parse_err t w' (hE.ex hx))
  have m1 : decide (400 < (s.size : Int)) = false := decide_eq_false (by omega)
  have m2 : decide (400 < (t.size : Int)) = false := decide_eq_false (by omega)
  clear hE hs ht
  generalize isTree (parseO s.data.toList) = a at *
  generalize isTree (parseO t.data.toList) = b at *
  unfold ErrR at H1 H2
  cases a with
  | false =>
    clear h
    go_enter Tryd.func3, Tryd.ntmps3
    go_wp2_with fail
    refine HA.out.mono ?_
    rintro e w' ⟨rfl, z, rfl⟩
    go_wp2_with fail
    refine (H1.out _ (by repeat (first | exact Ex.refl _ | refine Ex.alloc ?_ _ | refine Ex.ext ?_ _ | refine Ex.drew ?_))).mono ?_
    rintro e w' ⟨k, n, p, q, S, A, m, c, a1, a2, er, rfl, he, z1, rfl⟩
    have he' : (er == 0) = false := by unfold bne at he; simpa using he
    go_wp2_with fail
    refine (H2.out _ (by repeat (first | exact Ex.refl _ | refine Ex.alloc ?_ _ | refine Ex.ext ?_ _ | refine Ex.drew ?_))).mono ?_
    rintro e w' ⟨k', n', p', q', S', A', m', c', a1', a2', er', rfl, he2, z2, rfl⟩
    clear he2
    go_wp2_with fail
    go_ret
    exact Ret.mk rfl (by repeat (first | exact Ex.refl _ | refine Ex.alloc ?_ _ | refine Ex.ext ?_ _ | refine Ex.drew ?_))
  | true =>
    have hb : b = false := by simpa using h
    subst hb
    clear h
    go_enter Tryd.func3, Tryd.ntmps3
    go_wp2_with fail
    refine HA.out.mono ?_
    rintro e w' ⟨rfl, z, rfl⟩
    go_wp2_with fail
    refine (H1.out _ (by repeat (first | exact Ex.refl _ | refine Ex.alloc ?_ _ | refine Ex.ext ?_ _ | refine Ex.drew ?_))).mono ?_
    rintro e w' ⟨k, n, p, q, S, A, m, c, a1, a2, er, rfl, he, z1, rfl⟩
    have he' : (er == 0) = true := by unfold bne at he; simpa using he
    go_wp2_with fail
    refine (H2.out _ (by repeat (first | exact Ex.refl _ | refine Ex.alloc ?_ _ | refine Ex.ext ?_ _ | refine Ex.drew ?_))).mono ?_
    rintro e w' ⟨k', n', p', q', S', A', m', c', a1', a2', er', rfl, he2, z2, rfl⟩
    have he3 : (er' == 0) = false := by unfold bne at he2; simpa using he2
    go_wp2_with fail
    go_ret
    exact Ret.mk rfl (by repeat (first | exact Ex.refl _ | refine Ex.alloc ?_ _ | refine Ex.ext ?_ _ | refine Ex.drew ?_))
def opsV : List Value := [.string ⟨#[43]⟩, .string ⟨#[45]⟩, .string ⟨#[42]⟩, .string ⟨#[61]⟩, .string ⟨#[33, 61]⟩, .string ⟨#[60]⟩, .string ⟨#[60, 61]⟩, .string ⟨#[97, 110, 100]⟩, .string ⟨#[111, 114]⟩, .string ⟨#[62]⟩, .string ⟨#[62, 61]⟩]
def kindsV : List Value := [.int .i64 6, .int .i64 7, .int .i64 8, .int .i64 9, .int .i64 10, .int .i64 11, .int .i64 12, .int .i64 16, .int .i64 17, .int .i64 11, .int .i64 12]
theorem ops_at {i : Nat} (h : i < 11) : opsV[i]? = some (.string ⟨(opS i).toArray⟩) ∧ kindsV[i]? = some (.int .i64 (opK i)) := by
  rcases op_cases h with rfl | rfl | rfl | rfl | rfl | rfl | rfl | rfl | rfl | rfl | rfl <;> exact ⟨rfl, rfl⟩
set_option maxRecDepth 100000 in
set_option maxHeartbeats 8000000 in
theorem parens_goodS1 (s t : ByteArray) (u : Int) (i : Nat) (w : World) (hE : Envw w) (hs : s.size ≤ 400) (ht : t.size ≤ 400) (hu0 : 0 ≤ u) (hu1 : u ≤ 255) (hi : u % 11 = (i : Int)) (hi1 : i < 11) (x y : Tr) (hx : parseO s.data.toList = .tree x) (hy : parseO t.data.toList = .tree y) (hsm : smallB (wantT i x y) = true) (h8 : i ≤ 8) :
    Calls Tryd.prog 3 #[.string s, .string t, .int .u8 u] w (Ret w (.bool true)) := by
  have HA := Lib.hid (awake_c w hE)
  have H1 : Hid (∀ w', Ex w w' → Calls Tryd.prog 6 #[.string s] w' (ParseR w' (.tree x))) := fun w' hX => by
    have := parse_c s w' (hE.ex hX).1
    rw [hx] at this; exact this
  have H2 : Hid (∀ w', Ex w w' → Calls Tryd.prog 6 #[.string t] w' (ParseR w' (.tree y))) := fun w' hX => by
    have := parse_c t w' (hE.ex hX).1
    rw [hy] at this; exact this
  obtain ⟨J1, hJ1⟩ : ∃ J : ByteArray, J = (⟨#[10, 40, 32, 40]⟩ : ByteArray) ++ s := ⟨_, rfl⟩
  obtain ⟨J2, hJ2⟩ : ∃ J : ByteArray, J = J1 ++ (⟨#[41, 32, 41, 9]⟩ : ByteArray) := ⟨_, rfl⟩
  have a1 := add_ok hJ1 (by show 4 + s.size ≤ _; omega)
  have j1 : J1.size = 4 + s.size := by rw [hJ1, ByteArray.size_append]; rfl
  have a2 := add_ok hJ2 (by show J1.size + 4 ≤ _; omega)
  have hJ : J2.data.toList = [10, 40, 32, 40] ++ s.data.toList ++ [41, 32, 41, 9] := by rw [hJ2, hJ1]; simp
  have H3 : Hid (∀ w', Ex w w' → Calls Tryd.prog 6 #[.string J2] w' (ParseR w' (.tree x))) := fun w' hX => by
    have := parse_c J2 w' (hE.ex hX).1
    rw [hJ, parens_law (by rw [← size_data]; omega) hx] at this; exact this
  obtain ⟨OP, hOP⟩ : ∃ J : ByteArray, J = ⟨(opS i).toArray⟩ := ⟨_, rfl⟩
  have hOl : OP.size ≤ 3 := by
    rw [hOP, size_data]
    rcases op_cases hi1 with rfl | rfl | rfl | rfl | rfl | rfl | rfl | rfl | rfl | rfl | rfl <;> decide
  obtain ⟨K1, hK1⟩ : ∃ J : ByteArray, J = (⟨#[40]⟩ : ByteArray) ++ s := ⟨_, rfl⟩
  obtain ⟨K2, hK2⟩ : ∃ J : ByteArray, J = K1 ++ (⟨#[41]⟩ : ByteArray) := ⟨_, rfl⟩
  obtain ⟨K3, hK3⟩ : ∃ J : ByteArray, J = K2 ++ OP := ⟨_, rfl⟩
  obtain ⟨K4, hK4⟩ : ∃ J : ByteArray, J = K3 ++ (⟨#[40]⟩ : ByteArray) := ⟨_, rfl⟩
  obtain ⟨K5, hK5⟩ : ∃ J : ByteArray, J = K4 ++ t := ⟨_, rfl⟩
  obtain ⟨K6, hK6⟩ : ∃ J : ByteArray, J = K5 ++ (⟨#[41]⟩ : ByteArray) := ⟨_, rfl⟩
  have k1 : K1.size = 1 + s.size := by rw [hK1, ByteArray.size_append]; rfl
  have k2 : K2.size = K1.size + 1 := by rw [hK2, ByteArray.size_append]; rfl
  have k3 : K3.size = K2.size + OP.size := by rw [hK3, ByteArray.size_append]
  have k4 : K4.size = K3.size + 1 := by rw [hK4, ByteArray.size_append]; rfl
  have k5 : K5.size = K4.size + t.size := by rw [hK5, ByteArray.size_append]
  have b1 := add_ok hK1 (by show 1 + s.size ≤ _; omega)
  have b2 := add_ok hK2 (by show K1.size + 1 ≤ _; omega)
  have b3 := add_ok hK3 (by omega)
  have b4 := add_ok hK4 (by show K3.size + 1 ≤ _; omega)
  have b5 := add_ok hK5 (by omega)
  have b6 := add_ok hK6 (by show K5.size + 1 ≤ _; omega)
  have hK : K6.data.toList = [40] ++ s.data.toList ++ [41] ++ opS i ++ [40] ++ t.data.toList ++ [41] := by rw [hK6, hK5, hK4, hK3, hK2, hK1, hOP]; simp
  have H4 : Hid (∀ w', Ex w w' → Calls Tryd.prog 6 #[.string K6] w' (ParseR w' (if smallB (wantT i x y) then .tree (wantT i x y) else .err (0, 0) 5))) := fun w' hX => by
    have := parse_c K6 w' (hE.ex hX).1
    rw [hK, both_law hi1 (by rw [← size_data]; omega) (by rw [← size_data]; omega) hx hy] at this; exact this
  obtain ⟨_, _, _, hsx⟩ := parseO_tree hx
  obtain ⟨_, _, _, hsy⟩ := parseO_tree hy
  have hzx := small_size hsx
  have hzy := small_size hsy
  have HSm : Hid (∀ (w' : World) (Q Q' : Nat → Prop) k n p q k' n' p' q' s s' A A' m m' c c', TrC Q w' x (c6 k n p q s A m c) → TrC Q' w' x (c6 k' n' p' q' s' A' m' c') → Calls Tryd.prog 7 #[.agg #[.int .i64 k, .int .i64 n, .int .i64 p, .int .i64 q, .string s, .slice A m c], .agg #[.int .i64 k', .int .i64 n', .int .i64 p', .int .i64 q', .string s', .slice A' m' c']] w' (Ret w' (.bool true))) := fun w' Q Q' k n p q k' n' p' q' s s' A A' m m' c c' h h' => by
    have := same_c x.size x x Q Q' w' k n p q k' n' p' q' s s' A A' m m' c c' (Nat.le_refl _) (by omega) (by omega) h h'
    rw [same_eq] at this; exact this
  have m1 : decide (400 < (s.size : Int)) = false := decide_eq_false (by omega)
  have m2 : decide (400 < (t.size : Int)) = false := decide_eq_false (by omega)
  have HO := Lib.hid (ops_at hi1)
  rw [← hOP] at HO
  have HE := Lib.hid hE
  have HI := Lib.hid (And.intro hi1 (And.intro hzx hzy))
  have hi0 : (0 : Int) ≤ (i : Int) := by omega
  have hi11 : (i : Int) < 11 := by omega
  rw [hsm, if_pos rfl] at H4
  unfold ParseR at H1 H2 H3 H4
  dsimp only at H1 H2 H3 H4
  have HWs : Hid ((wantT i x y).size ≤ 401) := by
    show _ ≤ _
    unfold wantT
    split <;> (rw [nd_size2]; omega)
  have HWq : Hid ((wantT i x y).size ≤ 200 ∧ (wantT i x y).depth ≤ 20) := by
    unfold smallB at hsm
    simp only [Bool.and_eq_true, decide_eq_true_eq] at hsm
    exact hsm
  have HI8 := Lib.hid h8
  have q1 : decide (8 < u % 11) = false := decide_eq_false (by omega)
  have q2 : decide (8 < (i : Int)) = false := decide_eq_false (by omega)
  clear h8 hsm
  clear hE hs ht hx hy hsx hsy hzx hzy hJ hJ1 hJ2 hK hK1 hK2 hK3 hK4 hK5 hK6 hOP hOl j1 k1 k2 k3 k4 k5
  go_enter Tryd.func3, Tryd.ntmps3
  go_wp2_with fail
  refine HA.out.mono ?_
  rintro e w0 ⟨rfl, hx0⟩
  have HX0 := Lib.hid hx0
  clear hx0
  go_wp2_with fail
  refine (H1.out _ HX0.out).mono ?_
  rintro e w1 ⟨k, n, p, q, S, A, m, c, rfl, ht1, hx1⟩
  have HT1 := Lib.hid ht1
  have HX1 : Hid (Ex w w1) := HX0.out.trans hx1
  clear ht1 hx1
  go_wp2_with fail
  refine (H2.out _ ((HX1.out.alloc _).alloc _)).mono ?_
  rintro e w2 ⟨k', n', p', q', S', A', m', c', rfl, ht2, hx2⟩
  have B1 : Hid (Blk w2 w1.heap.size 25 (c6 k n p q S A m c)) := ((Blk.new w1 _ _).alloc _).ex hx2
  have HT1' := Lib.hid (((HT1.out.ex ((Ex.refl _).alloc _)).ex ((Ex.refl _).alloc _)).ex hx2)
  have HT2 := Lib.hid ht2
  have HX2 : Hid (Ex w w2) := ((HX1.out.alloc _).alloc _).trans hx2
  clear ht2 hx2
  go_wp2_with fail
  refine (H3.out _ ((HX2.out.alloc _).alloc _)).mono ?_
  rintro e w3 ⟨k3, n3, p3, q3, S3, A3, m3, c3, rfl, ht3, hx3⟩
  have B1' := Lib.hid (((B1.out.alloc _).alloc _).ex hx3)
  have B2 : Hid (Blk w3 w2.heap.size 25 (c6 k' n' p' q' S' A' m' c')) := ((Blk.new w2 _ _).alloc _).ex hx3
  have HT1 := Lib.hid (((HT1'.out.ex ((Ex.refl _).alloc _)).ex ((Ex.refl _).alloc _)).ex hx3)
  have HT2 := Lib.hid (((HT2.out.ex ((Ex.refl _).alloc _)).ex ((Ex.refl _).alloc _)).ex hx3)
  have HT3 := Lib.hid ht3
  have HX3 : Hid (Ex w w3) := ((HX2.out.alloc _).alloc _).trans hx3
  have l1 := B1'.out.lt
  have r0 := B1'.out.cell 0
  have r1 := B1'.out.cell 1
  have r2 := B1'.out.cell 2
  have r3 := B1'.out.cell 3
  have r4 := B1'.out.cell 4
  have r5 := B1'.out.cell 5
  simp only [List.getElem?_cons_zero, List.getElem?_cons_succ] at r0 r1 r2 r3 r4 r5
  clear ht3 hx3 B1
  go_wp2_with fail
  refine (HSm.out _ _ _ k n p q k3 n3 p3 q3 S S3 A A3 m m3 c c3 ((HT1.out.ex ((Ex.refl _).alloc _)).ex ((Ex.refl _).alloc _)) ((HT3.out.ex ((Ex.refl _).alloc _)).ex ((Ex.refl _).alloc _))).mono ?_
  rintro e w4 ⟨rfl, hx4⟩
  have B1 := Lib.hid (((B1'.out.alloc _).alloc _).ex hx4)
  have B2' := Lib.hid (((B2.out.alloc _).alloc _).ex hx4)
  have HT1' := Lib.hid (((HT1.out.ex ((Ex.refl _).alloc _)).ex ((Ex.refl _).alloc _)).ex hx4)
  have HT2' := Lib.hid (((HT2.out.ex ((Ex.refl _).alloc _)).ex ((Ex.refl _).alloc _)).ex hx4)
  have HX4 : Hid (Ex w w4) := ((HX3.out.alloc _).alloc _).trans hx4
  clear hx4 B1' B2 HT1 HT2 HT3 l1 r0 r1 r2 r3 r4 r5
  go_upto_region 15 with fail
  obtain ⟨W5, hW5⟩ : ∃ W5, W5 = (w4.alloc (.cells #[.string ⟨#[43]⟩, .string ⟨#[45]⟩, .string ⟨#[42]⟩, .string ⟨#[61]⟩, .string ⟨#[33, 61]⟩, .string ⟨#[60]⟩, .string ⟨#[60, 61]⟩, .string ⟨#[97, 110, 100]⟩, .string ⟨#[111, 114]⟩, .string ⟨#[62]⟩, .string ⟨#[62, 61]⟩] 9)).alloc (.cells #[.int .i64 6, .int .i64 7, .int .i64 8, .int .i64 9, .int .i64 10, .int .i64 11, .int .i64 12, .int .i64 16, .int .i64 17, .int .i64 11, .int .i64 12] 3) := ⟨_, rfl⟩
  rw [← hW5]
  have O5 : Hid (Blk W5 w4.heap.size 9 opsV) := by rw [hW5]; exact (Blk.new w4 _ _).alloc _
  have N5 : Hid (Blk W5 (w4.heap.size + 1) 3 kindsV) := by rw [hW5]; exact Blk.new' _ (by simp) _ _
  have hx5 : Ex w4 W5 := by rw [hW5]; exact ((Ex.refl _).alloc _).alloc _
  have B1' := Lib.hid (B1.out.ex hx5)
  have B2 := Lib.hid (B2'.out.ex hx5)
  have HT1 := Lib.hid (HT1'.out.ex hx5)
  have HT2 := Lib.hid (HT2'.out.ex hx5)
  have HX5 := Lib.hid (HX4.out.trans hx5)
  have lo := O5.out.lt
  have co : W5.cell? ⟨w4.heap.size, i, none⟩ = some (.string OP) := (O5.out.cell i).trans HO.out.1
  clear hW5 hx5 B1 B2' HT1' HT2'
  go_wp2_with fail
  refine (H4.out _ HX5.out).mono ?_
  rintro e w6 ⟨k6, n6, p6, q6, S6, A6, m6, c6', rfl, ht6, hx6⟩
  have B1 := Lib.hid (B1'.out.ex hx6)
  have B2' := Lib.hid (B2.out.ex hx6)
  have N6 := Lib.hid (N5.out.ex hx6)
  have HT1' := Lib.hid (HT1.out.ex hx6)
  have HT2' := Lib.hid (HT2.out.ex hx6)
  have HT6 := Lib.hid ht6
  have HX6 : Hid (Ex w w6) := HX5.out.trans hx6
  clear hx6 ht6 B1' B2 HT1 HT2 lo co
  go_upto_region 16 with fail
  generalize w4.heap.size + 1 = nb at *
  obtain ⟨W7, hW7⟩ : ∃ W7, W7 = (w6.alloc (.cells #[.int .i64 k6, .int .i64 n6, .int .i64 p6, .int .i64 q6, .string S6, .slice A6 m6 c6'] 25)).alloc (.cells #[.int .i64 0, .int .i64 0] 27) := ⟨_, rfl⟩
  rw [← hW7]
  have hx7 : Ex w6 W7 := by rw [hW7]; exact ((Ex.refl _).alloc _).alloc _
  have B6 : Hid (Blk W7 w6.heap.size 25 (c6 k6 n6 p6 q6 S6 A6 m6 c6')) := by rw [hW7]; exact (Blk.new w6 _ _).alloc _
  have B1' := Lib.hid (B1.out.ex hx7)
  have B2 := Lib.hid (B2'.out.ex hx7)
  have N7 := Lib.hid (N6.out.ex hx7)
  have HT1 : Hid (TrC (fun b => b < W7.heap.size) W7 x (c6 k n p q S A m c)) := (HT1'.out.ex hx7).imp (fun b h _ => h)
  have HT2 : Hid (TrC (fun b => b < W7.heap.size) W7 y (c6 k' n' p' q' S' A' m' c')) := (HT2'.out.ex hx7).imp (fun b h _ => h)
  have HT6' : Hid (TrC (fun b => b < W7.heap.size) W7 (wantT i x y) (c6 k6 n6 p6 q6 S6 A6 m6 c6')) := (HT6.out.ex hx7).imp (fun b h _ => h)
  have HX7 := Lib.hid (HX6.out.trans hx7)
  have l6 := B6.out.lt
  have l1 := B1'.out.lt
  have l2 := B2.out.lt
  have ln := N7.out.lt
  have cn : W7.cell? ⟨nb, i, none⟩ = some (.int .i64 (opK i)) := (N7.out.cell i).trans HO.out.2
  have r0 := B1'.out.cell 0
  have r1 := B1'.out.cell 1
  have r2 := B1'.out.cell 2
  have r3 := B1'.out.cell 3
  have r4 := B1'.out.cell 4
  have r5 := B1'.out.cell 5
  simp only [List.getElem?_cons_zero, List.getElem?_cons_succ] at r0 r1 r2 r3 r4 r5
  have s0 := B2.out.cell 0
  have s1 := B2.out.cell 1
  have s2 := B2.out.cell 2
  have s3 := B2.out.cell 3
  have s4 := B2.out.cell 4
  have s5 := B2.out.cell 5
  simp only [List.getElem?_cons_zero, List.getElem?_cons_succ] at s0 s1 s2 s3 s4 s5
  clear hW7 hx7 B1 B2' HT1' HT2' HT6
  go_region
  · obtain ⟨W8, hW8⟩ : ∃ W8, W8 = ((W7.alloc (.cells #[.int .i64 k, .int .i64 n, .int .i64 p, .int .i64 q, .string S, .slice A m c, .int .i64 k', .int .i64 n', .int .i64 p', .int .i64 q', .string S', .slice A' m' c'] 25)).alloc (.cells #[.int .i64 (opK i), .int .i64 0, .int .i64 0, .int .i64 0, .string ⟨#[]⟩, .slice (some ⟨W7.heap.size, 0, none⟩) 2 2] 25)).drew := ⟨_, rfl⟩
    rw [← hW8]
    have hx8 : Ex W7 W8 := by rw [hW8]; exact (((Ex.refl _).alloc _).alloc _).drew
    have hs8 : W8.heap.size = W7.heap.size + 1 + 1 := by rw [hW8]; simp [World.drew]
    have hbS : Blk W8 W7.heap.size 25 [.int .i64 k, .int .i64 n, .int .i64 p, .int .i64 q, .string S, .slice A m c, .int .i64 k', .int .i64 n', .int .i64 p', .int .i64 q', .string S', .slice A' m' c'] := by rw [hW8]; exact Blk.drew ((Blk.new W7 _ _).alloc _)
    have hbW : Blk W8 (W7.heap.size + 1) 25 [.int .i64 (opK i), .int .i64 0, .int .i64 0, .int .i64 0, .string ⟨#[]⟩, .slice (some ⟨W7.heap.size, 0, none⟩) 2 2] := by rw [hW8]; exact Blk.drew (Blk.new' _ (by simp) _ _)
    clear hW8
    generalize hWB : (W7.heap.size + 1) = WB at hbW ⊢
    generalize hSB : W7.heap.size = SB at hbS hbW ⊢
    have hlw : W7.heap.size ≤ WB := by omega
    have BS := Lib.hid hbS
    have BW := Lib.hid hbW
    have B1 := Lib.hid (B1'.out.ex hx8)
    have B2' := Lib.hid (B2.out.ex hx8)
    have B6' := Lib.hid (B6.out.ex hx8)
    have HT1' := Lib.hid (HT1.out.ex hx8)
    have HT2' := Lib.hid (HT2.out.ex hx8)
    have HT6 := Lib.hid (HT6'.out.ex hx8)
    have HX8 := Lib.hid (HX7.out.trans hx8)
    have HL8 : Hid (W7.heap.size ≤ WB ∧ w6.heap.size < W7.heap.size ∧ w.heap.size ≤ W7.heap.size) := ⟨hlw, l6, HX7.out.below.size⟩
    clear hx8 hbS hbW B1' B2 B6 HT1 HT2 l1 l2 l6 ln cn r0 r1 r2 r3 r4 r5 s0 s1 s2 s3 s4 s5 hs8 hlw hSB hWB
    have BW9 := BW
    have B69 := B6'
    have HX9 := HX8
    have HTW : Hid (TrC (fun _ => True) W8 (wantT i x y) (c6 (opK i) 0 0 0 ⟨#[]⟩ (some ⟨SB, 0, none⟩) 2 2)) := by
      unfold wantT
      rw [if_neg (by have := HI8.out; omega)]
      exact TrC.two (HT1'.out.imp (fun _ _ _ => trivial)) (HT2'.out.imp (fun _ _ _ => trivial)) (opK i) BS.out trivial
    have HT69 := Lib.hid (HT6.out.imp (Q' := fun _ => True) (fun _ _ _ => trivial))
    have hw := BW9.out
    have lw := hw.lt
    have v0 := hw.cell 0
    have v1 := hw.cell 1
    have v2 := hw.cell 2
    have v3 := hw.cell 3
    have v4 := hw.cell 4
    have v5 := hw.cell 5
    simp only [List.getElem?_cons_zero, List.getElem?_cons_succ] at v0 v1 v2 v3 v4 v5
    have d6 := B69.out
    have l6 := d6.lt
    have y0 := d6.cell 0
    have y1 := d6.cell 1
    have y2 := d6.cell 2
    have y3 := d6.cell 3
    have y4 := d6.cell 4
    have y5 := d6.cell 5
    simp only [List.getElem?_cons_zero, List.getElem?_cons_succ] at y0 y1 y2 y3 y4 y5
    clear hw d6
    have HSz : Hid (∀ w', Ex W8 w' → Calls Tryd.prog 8 #[.agg #[.int .i64 (opK i), .int .i64 0, .int .i64 0, .int .i64 0, .string ⟨#[]⟩, .slice (some ⟨SB, 0, none⟩) 2 2]] w' (Ret w' (.int .i64 ((wantT i x y).size : Nat)))) := fun w' hX => rSize_c (wantT i x y).size (wantT i x y) _ w' (opK i) 0 0 0 ⟨#[]⟩ (some ⟨SB, 0, none⟩) 2 2 (Nat.le_refl _) (by have := HWs.out; omega) (HTW.out.ex hX)
    have HDp : Hid (∀ w', Ex W8 w' → Calls Tryd.prog 9 #[.agg #[.int .i64 (opK i), .int .i64 0, .int .i64 0, .int .i64 0, .string ⟨#[]⟩, .slice (some ⟨SB, 0, none⟩) 2 2]] w' (Ret w' (.int .i64 ((wantT i x y).depth : Nat)))) := fun w' hX => rDepth_c (wantT i x y).size (wantT i x y) _ w' (opK i) 0 0 0 ⟨#[]⟩ (some ⟨SB, 0, none⟩) 2 2 (Nat.le_refl _) (by have := HWs.out; omega) (HTW.out.ex hX)
    have HSa : Hid (∀ w', Ex W8 w' → Calls Tryd.prog 7 #[.agg #[.int .i64 k6, .int .i64 n6, .int .i64 p6, .int .i64 q6, .string S6, .slice A6 m6 c6'], .agg #[.int .i64 (opK i), .int .i64 0, .int .i64 0, .int .i64 0, .string ⟨#[]⟩, .slice (some ⟨SB, 0, none⟩) 2 2]] w' (Ret w' (.bool true))) := fun w' hX => by
      have := same_c (wantT i x y).size (wantT i x y) (wantT i x y) _ _ w' k6 n6 p6 q6 (opK i) 0 0 0 S6 ⟨#[]⟩ A6 (some ⟨SB, 0, none⟩) m6 2 c6' 2 (Nat.le_refl _) (by have := HWs.out; omega) (by have := HWs.out; omega) (HT69.out.ex hX) (HTW.out.ex hX)
      rw [same_eq] at this; exact this
    have z1 : decide (200 < (((wantT i x y).size : Nat) : Int)) = false := decide_eq_false (by have := HWq.out; omega)
    have z2 : decide (20 < (((wantT i x y).depth : Nat) : Int)) = false := decide_eq_false (by have := HWq.out; omega)
    generalize (wantT i x y).size = WS at *
    generalize (wantT i x y).depth = WD at *
    clear HTW
    go_wp2_with fail
    refine (HSz.out _ (Ex.refl _)).mono ?_
    rintro e w10 ⟨rfl, hx10⟩
    have b10 := BW9.out.ex hx10
    have lw10 := b10.lt
    have v0 := b10.cell 0
    have v1 := b10.cell 1
    have v2 := b10.cell 2
    have v3 := b10.cell 3
    have v4 := b10.cell 4
    have v5 := b10.cell 5
    simp only [List.getElem?_cons_zero, List.getElem?_cons_succ] at v0 v1 v2 v3 v4 v5
    have HX10 := Lib.hid hx10
    clear b10 hx10
    go_wp2_with fail
    refine (HDp.out _ HX10.out).mono ?_
    rintro e w11 ⟨rfl, hx11⟩
    have HX11 := Lib.hid (HX10.out.trans hx11)
    have b11 := BW9.out.ex HX11.out
    have lw11 := b11.lt
    have v0 := b11.cell 0
    have v1 := b11.cell 1
    have v2 := b11.cell 2
    have v3 := b11.cell 3
    have v4 := b11.cell 4
    have v5 := b11.cell 5
    simp only [List.getElem?_cons_zero, List.getElem?_cons_succ] at v0 v1 v2 v3 v4 v5
    have e11 := B69.out.ex HX11.out
    have le11 := e11.lt
    have y0 := e11.cell 0
    have y1 := e11.cell 1
    have y2 := e11.cell 2
    have y3 := e11.cell 3
    have y4 := e11.cell 4
    have y5 := e11.cell 5
    simp only [List.getElem?_cons_zero, List.getElem?_cons_succ] at y0 y1 y2 y3 y4 y5
    clear b11 e11 hx11
    go_wp2_with fail
    refine (HSa.out _ HX11.out).mono ?_
    rintro e w12 ⟨rfl, z12, rfl⟩
    go_wp2_with fail
    go_ret
    exact Ret.mk rfl ((HX9.out.trans HX11.out).ext _)
  · obtain ⟨W8, hW8⟩ : ∃ W8, W8 = ((W7.alloc (.cells #[.int .i64 (opK i), .int .i64 0, .int .i64 0, .int .i64 0, .string ⟨#[]⟩, .slice (some ⟨W7.heap.size + 1, 0, none⟩) 2 2] 25)).alloc (.cells #[.int .i64 k, .int .i64 n, .int .i64 p, .int .i64 q, .string S, .slice A m c, .int .i64 k', .int .i64 n', .int .i64 p', .int .i64 q', .string S', .slice A' m' c'] 25)).drew := ⟨_, rfl⟩
    rw [← hW8]
    have hx8 : Ex W7 W8 := by rw [hW8]; exact (((Ex.refl _).alloc _).alloc _).drew
    have hs8 : W8.heap.size = W7.heap.size + 1 + 1 := by rw [hW8]; simp [World.drew]
    have hbS : Blk W8 (W7.heap.size + 1) 25 [.int .i64 k, .int .i64 n, .int .i64 p, .int .i64 q, .string S, .slice A m c, .int .i64 k', .int .i64 n', .int .i64 p', .int .i64 q', .string S', .slice A' m' c'] := by rw [hW8]; exact Blk.drew (Blk.new' _ (by simp) _ _)
    have hbW : Blk W8 W7.heap.size 25 [.int .i64 (opK i), .int .i64 0, .int .i64 0, .int .i64 0, .string ⟨#[]⟩, .slice (some ⟨W7.heap.size + 1, 0, none⟩) 2 2] := by rw [hW8]; exact Blk.drew ((Blk.new W7 _ _).alloc _)
    clear hW8
    generalize hSB : (W7.heap.size + 1) = SB at hbS hbW ⊢
    generalize hWB : W7.heap.size = WB at hbW ⊢
    have hlw : W7.heap.size ≤ WB := by omega
    have BS := Lib.hid hbS
    have BW := Lib.hid hbW
    have B1 := Lib.hid (B1'.out.ex hx8)
    have B2' := Lib.hid (B2.out.ex hx8)
    have B6' := Lib.hid (B6.out.ex hx8)
    have HT1' := Lib.hid (HT1.out.ex hx8)
    have HT2' := Lib.hid (HT2.out.ex hx8)
    have HT6 := Lib.hid (HT6'.out.ex hx8)
    have HX8 := Lib.hid (HX7.out.trans hx8)
    have HL8 : Hid (W7.heap.size ≤ WB ∧ w6.heap.size < W7.heap.size ∧ w.heap.size ≤ W7.heap.size) := ⟨hlw, l6, HX7.out.below.size⟩
    clear hx8 hbS hbW B1' B2 B6 HT1 HT2 l1 l2 l6 ln cn r0 r1 r2 r3 r4 r5 s0 s1 s2 s3 s4 s5 hs8 hlw hSB hWB
    have BW9 := BW
    have B69 := B6'
    have HX9 := HX8
    have HTW : Hid (TrC (fun _ => True) W8 (wantT i x y) (c6 (opK i) 0 0 0 ⟨#[]⟩ (some ⟨SB, 0, none⟩) 2 2)) := by
      unfold wantT
      rw [if_neg (by have := HI8.out; omega)]
      exact TrC.two (HT1'.out.imp (fun _ _ _ => trivial)) (HT2'.out.imp (fun _ _ _ => trivial)) (opK i) BS.out trivial
    have HT69 := Lib.hid (HT6.out.imp (Q' := fun _ => True) (fun _ _ _ => trivial))
    have hw := BW9.out
    have lw := hw.lt
    have v0 := hw.cell 0
    have v1 := hw.cell 1
    have v2 := hw.cell 2
    have v3 := hw.cell 3
    have v4 := hw.cell 4
    have v5 := hw.cell 5
    simp only [List.getElem?_cons_zero, List.getElem?_cons_succ] at v0 v1 v2 v3 v4 v5
    have d6 := B69.out
    have l6 := d6.lt
    have y0 := d6.cell 0
    have y1 := d6.cell 1
    have y2 := d6.cell 2
    have y3 := d6.cell 3
    have y4 := d6.cell 4
    have y5 := d6.cell 5
    simp only [List.getElem?_cons_zero, List.getElem?_cons_succ] at y0 y1 y2 y3 y4 y5
    clear hw d6
    have HSz : Hid (∀ w', Ex W8 w' → Calls Tryd.prog 8 #[.agg #[.int .i64 (opK i), .int .i64 0, .int .i64 0, .int .i64 0, .string ⟨#[]⟩, .slice (some ⟨SB, 0, none⟩) 2 2]] w' (Ret w' (.int .i64 ((wantT i x y).size : Nat)))) := fun w' hX => rSize_c (wantT i x y).size (wantT i x y) _ w' (opK i) 0 0 0 ⟨#[]⟩ (some ⟨SB, 0, none⟩) 2 2 (Nat.le_refl _) (by have := HWs.out; omega) (HTW.out.ex hX)
    have HDp : Hid (∀ w', Ex W8 w' → Calls Tryd.prog 9 #[.agg #[.int .i64 (opK i), .int .i64 0, .int .i64 0, .int .i64 0, .string ⟨#[]⟩, .slice (some ⟨SB, 0, none⟩) 2 2]] w' (Ret w' (.int .i64 ((wantT i x y).depth : Nat)))) := fun w' hX => rDepth_c (wantT i x y).size (wantT i x y) _ w' (opK i) 0 0 0 ⟨#[]⟩ (some ⟨SB, 0, none⟩) 2 2 (Nat.le_refl _) (by have := HWs.out; omega) (HTW.out.ex hX)
    have HSa : Hid (∀ w', Ex W8 w' → Calls Tryd.prog 7 #[.agg #[.int .i64 k6, .int .i64 n6, .int .i64 p6, .int .i64 q6, .string S6, .slice A6 m6 c6'], .agg #[.int .i64 (opK i), .int .i64 0, .int .i64 0, .int .i64 0, .string ⟨#[]⟩, .slice (some ⟨SB, 0, none⟩) 2 2]] w' (Ret w' (.bool true))) := fun w' hX => by
      have := same_c (wantT i x y).size (wantT i x y) (wantT i x y) _ _ w' k6 n6 p6 q6 (opK i) 0 0 0 S6 ⟨#[]⟩ A6 (some ⟨SB, 0, none⟩) m6 2 c6' 2 (Nat.le_refl _) (by have := HWs.out; omega) (by have := HWs.out; omega) (HT69.out.ex hX) (HTW.out.ex hX)
      rw [same_eq] at this; exact this
    have z1 : decide (200 < (((wantT i x y).size : Nat) : Int)) = false := decide_eq_false (by have := HWq.out; omega)
    have z2 : decide (20 < (((wantT i x y).depth : Nat) : Int)) = false := decide_eq_false (by have := HWq.out; omega)
    generalize (wantT i x y).size = WS at *
    generalize (wantT i x y).depth = WD at *
    clear HTW
    go_wp2_with fail
    refine (HSz.out _ (Ex.refl _)).mono ?_
    rintro e w10 ⟨rfl, hx10⟩
    have b10 := BW9.out.ex hx10
    have lw10 := b10.lt
    have v0 := b10.cell 0
    have v1 := b10.cell 1
    have v2 := b10.cell 2
    have v3 := b10.cell 3
    have v4 := b10.cell 4
    have v5 := b10.cell 5
    simp only [List.getElem?_cons_zero, List.getElem?_cons_succ] at v0 v1 v2 v3 v4 v5
    have HX10 := Lib.hid hx10
    clear b10 hx10
    go_wp2_with fail
    refine (HDp.out _ HX10.out).mono ?_
    rintro e w11 ⟨rfl, hx11⟩
    have HX11 := Lib.hid (HX10.out.trans hx11)
    have b11 := BW9.out.ex HX11.out
    have lw11 := b11.lt
    have v0 := b11.cell 0
    have v1 := b11.cell 1
    have v2 := b11.cell 2
    have v3 := b11.cell 3
    have v4 := b11.cell 4
    have v5 := b11.cell 5
    simp only [List.getElem?_cons_zero, List.getElem?_cons_succ] at v0 v1 v2 v3 v4 v5
    have e11 := B69.out.ex HX11.out
    have le11 := e11.lt
    have y0 := e11.cell 0
    have y1 := e11.cell 1
    have y2 := e11.cell 2
    have y3 := e11.cell 3
    have y4 := e11.cell 4
    have y5 := e11.cell 5
    simp only [List.getElem?_cons_zero, List.getElem?_cons_succ] at y0 y1 y2 y3 y4 y5
    clear b11 e11 hx11
    go_wp2_with fail
    refine (HSa.out _ HX11.out).mono ?_
    rintro e w12 ⟨rfl, z12, rfl⟩
    go_wp2_with fail
    go_ret
    exact Ret.mk rfl ((HX9.out.trans HX11.out).ext _)
set_option maxRecDepth 100000 in
set_option maxHeartbeats 8000000 in
theorem parens_goodS2 (s t : ByteArray) (u : Int) (i : Nat) (w : World) (hE : Envw w) (hs : s.size ≤ 400) (ht : t.size ≤ 400) (hu0 : 0 ≤ u) (hu1 : u ≤ 255) (hi : u % 11 = (i : Int)) (hi1 : i < 11) (x y : Tr) (hx : parseO s.data.toList = .tree x) (hy : parseO t.data.toList = .tree y) (hsm : smallB (wantT i x y) = true) (h8 : 8 < i) :
    Calls Tryd.prog 3 #[.string s, .string t, .int .u8 u] w (Ret w (.bool true)) := by
  have HA := Lib.hid (awake_c w hE)
  have H1 : Hid (∀ w', Ex w w' → Calls Tryd.prog 6 #[.string s] w' (ParseR w' (.tree x))) := fun w' hX => by
    have := parse_c s w' (hE.ex hX).1
    rw [hx] at this; exact this
  have H2 : Hid (∀ w', Ex w w' → Calls Tryd.prog 6 #[.string t] w' (ParseR w' (.tree y))) := fun w' hX => by
    have := parse_c t w' (hE.ex hX).1
    rw [hy] at this; exact this
  obtain ⟨J1, hJ1⟩ : ∃ J : ByteArray, J = (⟨#[10, 40, 32, 40]⟩ : ByteArray) ++ s := ⟨_, rfl⟩
  obtain ⟨J2, hJ2⟩ : ∃ J : ByteArray, J = J1 ++ (⟨#[41, 32, 41, 9]⟩ : ByteArray) := ⟨_, rfl⟩
  have a1 := add_ok hJ1 (by show 4 + s.size ≤ _; omega)
  have j1 : J1.size = 4 + s.size := by rw [hJ1, ByteArray.size_append]; rfl
  have a2 := add_ok hJ2 (by show J1.size + 4 ≤ _; omega)
  have hJ : J2.data.toList = [10, 40, 32, 40] ++ s.data.toList ++ [41, 32, 41, 9] := by rw [hJ2, hJ1]; simp
  have H3 : Hid (∀ w', Ex w w' → Calls Tryd.prog 6 #[.string J2] w' (ParseR w' (.tree x))) := fun w' hX => by
    have := parse_c J2 w' (hE.ex hX).1
    rw [hJ, parens_law (by rw [← size_data]; omega) hx] at this; exact this
  obtain ⟨OP, hOP⟩ : ∃ J : ByteArray, J = ⟨(opS i).toArray⟩ := ⟨_, rfl⟩
  have hOl : OP.size ≤ 3 := by
    rw [hOP, size_data]
    rcases op_cases hi1 with rfl | rfl | rfl | rfl | rfl | rfl | rfl | rfl | rfl | rfl | rfl <;> decide
  obtain ⟨K1, hK1⟩ : ∃ J : ByteArray, J = (⟨#[40]⟩ : ByteArray) ++ s := ⟨_, rfl⟩
  obtain ⟨K2, hK2⟩ : ∃ J : ByteArray, J = K1 ++ (⟨#[41]⟩ : ByteArray) := ⟨_, rfl⟩
  obtain ⟨K3, hK3⟩ : ∃ J : ByteArray, J = K2 ++ OP := ⟨_, rfl⟩
  obtain ⟨K4, hK4⟩ : ∃ J : ByteArray, J = K3 ++ (⟨#[40]⟩ : ByteArray) := ⟨_, rfl⟩
  obtain ⟨K5, hK5⟩ : ∃ J : ByteArray, J = K4 ++ t := ⟨_, rfl⟩
  obtain ⟨K6, hK6⟩ : ∃ J : ByteArray, J = K5 ++ (⟨#[41]⟩ : ByteArray) := ⟨_, rfl⟩
  have k1 : K1.size = 1 + s.size := by rw [hK1, ByteArray.size_append]; rfl
  have k2 : K2.size = K1.size + 1 := by rw [hK2, ByteArray.size_append]; rfl
  have k3 : K3.size = K2.size + OP.size := by rw [hK3, ByteArray.size_append]
  have k4 : K4.size = K3.size + 1 := by rw [hK4, ByteArray.size_append]; rfl
  have k5 : K5.size = K4.size + t.size := by rw [hK5, ByteArray.size_append]
  have b1 := add_ok hK1 (by show 1 + s.size ≤ _; omega)
  have b2 := add_ok hK2 (by show K1.size + 1 ≤ _; omega)
  have b3 := add_ok hK3 (by omega)
  have b4 := add_ok hK4 (by show K3.size + 1 ≤ _; omega)
  have b5 := add_ok hK5 (by omega)
  have b6 := add_ok hK6 (by show K5.size + 1 ≤ _; omega)
  have hK : K6.data.toList = [40] ++ s.data.toList ++ [41] ++ opS i ++ [40] ++ t.data.toList ++ [41] := by rw [hK6, hK5, hK4, hK3, hK2, hK1, hOP]; simp
  have H4 : Hid (∀ w', Ex w w' → Calls Tryd.prog 6 #[.string K6] w' (ParseR w' (if smallB (wantT i x y) then .tree (wantT i x y) else .err (0, 0) 5))) := fun w' hX => by
    have := parse_c K6 w' (hE.ex hX).1
    rw [hK, both_law hi1 (by rw [← size_data]; omega) (by rw [← size_data]; omega) hx hy] at this; exact this
  obtain ⟨_, _, _, hsx⟩ := parseO_tree hx
  obtain ⟨_, _, _, hsy⟩ := parseO_tree hy
  have hzx := small_size hsx
  have hzy := small_size hsy
  have HSm : Hid (∀ (w' : World) (Q Q' : Nat → Prop) k n p q k' n' p' q' s s' A A' m m' c c', TrC Q w' x (c6 k n p q s A m c) → TrC Q' w' x (c6 k' n' p' q' s' A' m' c') → Calls Tryd.prog 7 #[.agg #[.int .i64 k, .int .i64 n, .int .i64 p, .int .i64 q, .string s, .slice A m c], .agg #[.int .i64 k', .int .i64 n', .int .i64 p', .int .i64 q', .string s', .slice A' m' c']] w' (Ret w' (.bool true))) := fun w' Q Q' k n p q k' n' p' q' s s' A A' m m' c c' h h' => by
    have := same_c x.size x x Q Q' w' k n p q k' n' p' q' s s' A A' m m' c c' (Nat.le_refl _) (by omega) (by omega) h h'
    rw [same_eq] at this; exact this
  have m1 : decide (400 < (s.size : Int)) = false := decide_eq_false (by omega)
  have m2 : decide (400 < (t.size : Int)) = false := decide_eq_false (by omega)
  have HO := Lib.hid (ops_at hi1)
  rw [← hOP] at HO
  have HE := Lib.hid hE
  have HI := Lib.hid (And.intro hi1 (And.intro hzx hzy))
  have hi0 : (0 : Int) ≤ (i : Int) := by omega
  have hi11 : (i : Int) < 11 := by omega
  rw [hsm, if_pos rfl] at H4
  unfold ParseR at H1 H2 H3 H4
  dsimp only at H1 H2 H3 H4
  have HWs : Hid ((wantT i x y).size ≤ 401) := by
    show _ ≤ _
    unfold wantT
    split <;> (rw [nd_size2]; omega)
  have HWq : Hid ((wantT i x y).size ≤ 200 ∧ (wantT i x y).depth ≤ 20) := by
    unfold smallB at hsm
    simp only [Bool.and_eq_true, decide_eq_true_eq] at hsm
    exact hsm
  have HI8 := Lib.hid h8
  have q1 : decide (8 < u % 11) = true := decide_eq_true (by omega)
  have q2 : decide (8 < (i : Int)) = true := decide_eq_true (by omega)
  clear h8 hsm
  clear hE hs ht hx hy hsx hsy hzx hzy hJ hJ1 hJ2 hK hK1 hK2 hK3 hK4 hK5 hK6 hOP hOl j1 k1 k2 k3 k4 k5
  go_enter Tryd.func3, Tryd.ntmps3
  go_wp2_with fail
  refine HA.out.mono ?_
  rintro e w0 ⟨rfl, hx0⟩
  have HX0 := Lib.hid hx0
  clear hx0
  go_wp2_with fail
  refine (H1.out _ HX0.out).mono ?_
  rintro e w1 ⟨k, n, p, q, S, A, m, c, rfl, ht1, hx1⟩
  have HT1 := Lib.hid ht1
  have HX1 : Hid (Ex w w1) := HX0.out.trans hx1
  clear ht1 hx1
  go_wp2_with fail
  refine (H2.out _ ((HX1.out.alloc _).alloc _)).mono ?_
  rintro e w2 ⟨k', n', p', q', S', A', m', c', rfl, ht2, hx2⟩
  have B1 : Hid (Blk w2 w1.heap.size 25 (c6 k n p q S A m c)) := ((Blk.new w1 _ _).alloc _).ex hx2
  have HT1' := Lib.hid (((HT1.out.ex ((Ex.refl _).alloc _)).ex ((Ex.refl _).alloc _)).ex hx2)
  have HT2 := Lib.hid ht2
  have HX2 : Hid (Ex w w2) := ((HX1.out.alloc _).alloc _).trans hx2
  clear ht2 hx2
  go_wp2_with fail
  refine (H3.out _ ((HX2.out.alloc _).alloc _)).mono ?_
  rintro e w3 ⟨k3, n3, p3, q3, S3, A3, m3, c3, rfl, ht3, hx3⟩
  have B1' := Lib.hid (((B1.out.alloc _).alloc _).ex hx3)
  have B2 : Hid (Blk w3 w2.heap.size 25 (c6 k' n' p' q' S' A' m' c')) := ((Blk.new w2 _ _).alloc _).ex hx3
  have HT1 := Lib.hid (((HT1'.out.ex ((Ex.refl _).alloc _)).ex ((Ex.refl _).alloc _)).ex hx3)
  have HT2 := Lib.hid (((HT2.out.ex ((Ex.refl _).alloc _)).ex ((Ex.refl _).alloc _)).ex hx3)
  have HT3 := Lib.hid ht3
  have HX3 : Hid (Ex w w3) := ((HX2.out.alloc _).alloc _).trans hx3
  have l1 := B1'.out.lt
  have r0 := B1'.out.cell 0
  have r1 := B1'.out.cell 1
  have r2 := B1'.out.cell 2
  have r3 := B1'.out.cell 3
  have r4 := B1'.out.cell 4
  have r5 := B1'.out.cell 5
  simp only [List.getElem?_cons_zero, List.getElem?_cons_succ] at r0 r1 r2 r3 r4 r5
  clear ht3 hx3 B1
  go_wp2_with fail
  refine (HSm.out _ _ _ k n p q k3 n3 p3 q3 S S3 A A3 m m3 c c3 ((HT1.out.ex ((Ex.refl _).alloc _)).ex ((Ex.refl _).alloc _)) ((HT3.out.ex ((Ex.refl _).alloc _)).ex ((Ex.refl _).alloc _))).mono ?_
  rintro e w4 ⟨rfl, hx4⟩
  have B1 := Lib.hid (((B1'.out.alloc _).alloc _).ex hx4)
  have B2' := Lib.hid (((B2.out.alloc _).alloc _).ex hx4)
  have HT1' := Lib.hid (((HT1.out.ex ((Ex.refl _).alloc _)).ex ((Ex.refl _).alloc _)).ex hx4)
  have HT2' := Lib.hid (((HT2.out.ex ((Ex.refl _).alloc _)).ex ((Ex.refl _).alloc _)).ex hx4)
  have HX4 : Hid (Ex w w4) := ((HX3.out.alloc _).alloc _).trans hx4
  clear hx4 B1' B2 HT1 HT2 HT3 l1 r0 r1 r2 r3 r4 r5
  go_upto_region 15 with fail
  obtain ⟨W5, hW5⟩ : ∃ W5, W5 = (w4.alloc (.cells #[.string ⟨#[43]⟩, .string ⟨#[45]⟩, .string ⟨#[42]⟩, .string ⟨#[61]⟩, .string ⟨#[33, 61]⟩, .string ⟨#[60]⟩, .string ⟨#[60, 61]⟩, .string ⟨#[97, 110, 100]⟩, .string ⟨#[111, 114]⟩, .string ⟨#[62]⟩, .string ⟨#[62, 61]⟩] 9)).alloc (.cells #[.int .i64 6, .int .i64 7, .int .i64 8, .int .i64 9, .int .i64 10, .int .i64 11, .int .i64 12, .int .i64 16, .int .i64 17, .int .i64 11, .int .i64 12] 3) := ⟨_, rfl⟩
  rw [← hW5]
  have O5 : Hid (Blk W5 w4.heap.size 9 opsV) := by rw [hW5]; exact (Blk.new w4 _ _).alloc _
  have N5 : Hid (Blk W5 (w4.heap.size + 1) 3 kindsV) := by rw [hW5]; exact Blk.new' _ (by simp) _ _
  have hx5 : Ex w4 W5 := by rw [hW5]; exact ((Ex.refl _).alloc _).alloc _
  have B1' := Lib.hid (B1.out.ex hx5)
  have B2 := Lib.hid (B2'.out.ex hx5)
  have HT1 := Lib.hid (HT1'.out.ex hx5)
  have HT2 := Lib.hid (HT2'.out.ex hx5)
  have HX5 := Lib.hid (HX4.out.trans hx5)
  have lo := O5.out.lt
  have co : W5.cell? ⟨w4.heap.size, i, none⟩ = some (.string OP) := (O5.out.cell i).trans HO.out.1
  clear hW5 hx5 B1 B2' HT1' HT2'
  go_wp2_with fail
  refine (H4.out _ HX5.out).mono ?_
  rintro e w6 ⟨k6, n6, p6, q6, S6, A6, m6, c6', rfl, ht6, hx6⟩
  have B1 := Lib.hid (B1'.out.ex hx6)
  have B2' := Lib.hid (B2.out.ex hx6)
  have N6 := Lib.hid (N5.out.ex hx6)
  have HT1' := Lib.hid (HT1.out.ex hx6)
  have HT2' := Lib.hid (HT2.out.ex hx6)
  have HT6 := Lib.hid ht6
  have HX6 : Hid (Ex w w6) := HX5.out.trans hx6
  clear hx6 ht6 B1' B2 HT1 HT2 lo co
  go_upto_region 16 with fail
  generalize w4.heap.size + 1 = nb at *
  obtain ⟨W7, hW7⟩ : ∃ W7, W7 = (w6.alloc (.cells #[.int .i64 k6, .int .i64 n6, .int .i64 p6, .int .i64 q6, .string S6, .slice A6 m6 c6'] 25)).alloc (.cells #[.int .i64 0, .int .i64 0] 27) := ⟨_, rfl⟩
  rw [← hW7]
  have hx7 : Ex w6 W7 := by rw [hW7]; exact ((Ex.refl _).alloc _).alloc _
  have B6 : Hid (Blk W7 w6.heap.size 25 (c6 k6 n6 p6 q6 S6 A6 m6 c6')) := by rw [hW7]; exact (Blk.new w6 _ _).alloc _
  have B1' := Lib.hid (B1.out.ex hx7)
  have B2 := Lib.hid (B2'.out.ex hx7)
  have N7 := Lib.hid (N6.out.ex hx7)
  have HT1 : Hid (TrC (fun b => b < W7.heap.size) W7 x (c6 k n p q S A m c)) := (HT1'.out.ex hx7).imp (fun b h _ => h)
  have HT2 : Hid (TrC (fun b => b < W7.heap.size) W7 y (c6 k' n' p' q' S' A' m' c')) := (HT2'.out.ex hx7).imp (fun b h _ => h)
  have HT6' : Hid (TrC (fun b => b < W7.heap.size) W7 (wantT i x y) (c6 k6 n6 p6 q6 S6 A6 m6 c6')) := (HT6.out.ex hx7).imp (fun b h _ => h)
  have HX7 := Lib.hid (HX6.out.trans hx7)
  have l6 := B6.out.lt
  have l1 := B1'.out.lt
  have l2 := B2.out.lt
  have ln := N7.out.lt
  have cn : W7.cell? ⟨nb, i, none⟩ = some (.int .i64 (opK i)) := (N7.out.cell i).trans HO.out.2
  have r0 := B1'.out.cell 0
  have r1 := B1'.out.cell 1
  have r2 := B1'.out.cell 2
  have r3 := B1'.out.cell 3
  have r4 := B1'.out.cell 4
  have r5 := B1'.out.cell 5
  simp only [List.getElem?_cons_zero, List.getElem?_cons_succ] at r0 r1 r2 r3 r4 r5
  have s0 := B2.out.cell 0
  have s1 := B2.out.cell 1
  have s2 := B2.out.cell 2
  have s3 := B2.out.cell 3
  have s4 := B2.out.cell 4
  have s5 := B2.out.cell 5
  simp only [List.getElem?_cons_zero, List.getElem?_cons_succ] at s0 s1 s2 s3 s4 s5
  clear hW7 hx7 B1 B2' HT1' HT2' HT6
  go_region
  · obtain ⟨W8, hW8⟩ : ∃ W8, W8 = ((W7.alloc (.cells #[.int .i64 k, .int .i64 n, .int .i64 p, .int .i64 q, .string S, .slice A m c, .int .i64 k', .int .i64 n', .int .i64 p', .int .i64 q', .string S', .slice A' m' c'] 25)).alloc (.cells #[.int .i64 (opK i), .int .i64 0, .int .i64 0, .int .i64 0, .string ⟨#[]⟩, .slice (some ⟨W7.heap.size, 0, none⟩) 2 2] 25)).drew := ⟨_, rfl⟩
    rw [← hW8]
    have hx8 : Ex W7 W8 := by rw [hW8]; exact (((Ex.refl _).alloc _).alloc _).drew
    have hs8 : W8.heap.size = W7.heap.size + 1 + 1 := by rw [hW8]; simp [World.drew]
    have hbS : Blk W8 W7.heap.size 25 [.int .i64 k, .int .i64 n, .int .i64 p, .int .i64 q, .string S, .slice A m c, .int .i64 k', .int .i64 n', .int .i64 p', .int .i64 q', .string S', .slice A' m' c'] := by rw [hW8]; exact Blk.drew ((Blk.new W7 _ _).alloc _)
    have hbW : Blk W8 (W7.heap.size + 1) 25 [.int .i64 (opK i), .int .i64 0, .int .i64 0, .int .i64 0, .string ⟨#[]⟩, .slice (some ⟨W7.heap.size, 0, none⟩) 2 2] := by rw [hW8]; exact Blk.drew (Blk.new' _ (by simp) _ _)
    clear hW8
    generalize hWB : (W7.heap.size + 1) = WB at hbW ⊢
    generalize hSB : W7.heap.size = SB at hbS hbW ⊢
    have hlw : W7.heap.size ≤ WB := by omega
    have BS := Lib.hid hbS
    have BW := Lib.hid hbW
    have B1 := Lib.hid (B1'.out.ex hx8)
    have B2' := Lib.hid (B2.out.ex hx8)
    have B6' := Lib.hid (B6.out.ex hx8)
    have HT1' := Lib.hid (HT1.out.ex hx8)
    have HT2' := Lib.hid (HT2.out.ex hx8)
    have HT6 := Lib.hid (HT6'.out.ex hx8)
    have HX8 := Lib.hid (HX7.out.trans hx8)
    have HL8 : Hid (W7.heap.size ≤ WB ∧ w6.heap.size < W7.heap.size ∧ w.heap.size ≤ W7.heap.size) := ⟨hlw, l6, HX7.out.below.size⟩
    clear hx8 hbS hbW B1' B2 B6 HT1 HT2 l1 l2 l6 ln cn r0 r1 r2 r3 r4 r5 s0 s1 s2 s3 s4 s5 hs8 hlw hSB hWB
    have hb1 := B1.out
    have l1 := hb1.lt
    have r0 := hb1.cell 0
    have r1 := hb1.cell 1
    have r2 := hb1.cell 2
    have r3 := hb1.cell 3
    have r4 := hb1.cell 4
    have r5 := hb1.cell 5
    simp only [List.getElem?_cons_zero, List.getElem?_cons_succ] at r0 r1 r2 r3 r4 r5
    have hb2 := B2'.out
    have l2 := hb2.lt
    have s0 := hb2.cell 0
    have s1 := hb2.cell 1
    have s2 := hb2.cell 2
    have s3 := hb2.cell 3
    have s4 := hb2.cell 4
    have s5 := hb2.cell 5
    simp only [List.getElem?_cons_zero, List.getElem?_cons_succ] at s0 s1 s2 s3 s4 s5
    have hw := BW.out
    have lw := hw.lt
    have v5 := hw.cell 5
    simp only [List.getElem?_cons_zero, List.getElem?_cons_succ] at v5
    have g5 := hw.frozen 5
    clear hb1 hb2 hw
    go_upto_region 19 with fail
    obtain ⟨W9, hW9⟩ : ∃ W9, W9 = (W8.setCell ⟨WB, 5, none⟩ (.slice (some ⟨W8.heap.size, 0, none⟩) 2 2)).alloc (.cells #[.int .i64 k', .int .i64 n', .int .i64 p', .int .i64 q', .string S', .slice A' m' c', .int .i64 k, .int .i64 n, .int .i64 p, .int .i64 q, .string S, .slice A m c] 25) := ⟨_, rfl⟩
    rw [← hW9]
    have hsz : (W8.setCell ⟨WB, 5, none⟩ (.slice (some ⟨W8.heap.size, 0, none⟩) 2 2)).heap.size = W8.heap.size := by simp [World.setCell]
    have BS9 : Blk W9 W8.heap.size 25 [.int .i64 k', .int .i64 n', .int .i64 p', .int .i64 q', .string S', .slice A' m' c', .int .i64 k, .int .i64 n, .int .i64 p, .int .i64 q, .string S, .slice A m c] := by rw [hW9]; exact Blk.new' _ hsz.symm _ _
    have BW9 : Hid (Blk W9 WB 25 [.int .i64 (opK i), .int .i64 0, .int .i64 0, .int .i64 0, .string ⟨#[]⟩, .slice (some ⟨W8.heap.size, 0, none⟩) 2 2]) := by rw [hW9]; exact (BW.out.set_ 5 _).alloc _
    have B69 : Hid (Blk W9 w6.heap.size 25 (c6 k6 n6 p6 q6 S6 A6 m6 c6')) := by rw [hW9]; exact (B6'.out.far (by show w6.heap.size ≠ WB; have := HL8.out; omega) _).alloc _
    have HX9 : Hid (Ex w W9) := by rw [hW9]; exact (HX8.out.setCell (by show w.heap.size ≤ WB; have := HL8.out; omega) _).alloc _
    have hq : ∀ {t : Tr} {cs : List Value}, TrC (fun b => b < W7.heap.size) W8 t cs → TrC (fun _ => True) W9 t cs := fun {t cs} h => by
      rw [hW9]
      exact ((h.far (fun b hb => by show b ≠ WB; have hb' : b < W7.heap.size := hb; have := HL8.out; omega) _).ex ((Ex.refl _).alloc _)).imp (fun _ _ _ => trivial)
    have HT69 := Lib.hid (hq HT6.out)
    have HTW : Hid (TrC (fun _ => True) W9 (wantT i x y) (c6 (opK i) 0 0 0 ⟨#[]⟩ (some ⟨W8.heap.size, 0, none⟩) 2 2)) := by
      unfold wantT
      rw [if_pos (by have := HI8.out; omega)]
      exact TrC.two (hq HT2'.out) (hq HT1'.out) (opK i) BS9 trivial
    clear hW9 hsz BS9 hq l1 l2 lw v5 g5 r0 r1 r2 r3 r4 r5 s0 s1 s2 s3 s4 s5 HT1' HT2' BW BS B1 B2' B6'
    have hw := BW9.out
    have lw := hw.lt
    have v0 := hw.cell 0
    have v1 := hw.cell 1
    have v2 := hw.cell 2
    have v3 := hw.cell 3
    have v4 := hw.cell 4
    have v5 := hw.cell 5
    simp only [List.getElem?_cons_zero, List.getElem?_cons_succ] at v0 v1 v2 v3 v4 v5
    have d6 := B69.out
    have l6 := d6.lt
    have y0 := d6.cell 0
    have y1 := d6.cell 1
    have y2 := d6.cell 2
    have y3 := d6.cell 3
    have y4 := d6.cell 4
    have y5 := d6.cell 5
    simp only [List.getElem?_cons_zero, List.getElem?_cons_succ] at y0 y1 y2 y3 y4 y5
    clear hw d6
    have HSz : Hid (∀ w', Ex W9 w' → Calls Tryd.prog 8 #[.agg #[.int .i64 (opK i), .int .i64 0, .int .i64 0, .int .i64 0, .string ⟨#[]⟩, .slice (some ⟨W8.heap.size, 0, none⟩) 2 2]] w' (Ret w' (.int .i64 ((wantT i x y).size : Nat)))) := fun w' hX => rSize_c (wantT i x y).size (wantT i x y) _ w' (opK i) 0 0 0 ⟨#[]⟩ (some ⟨W8.heap.size, 0, none⟩) 2 2 (Nat.le_refl _) (by have := HWs.out; omega) (HTW.out.ex hX)
    have HDp : Hid (∀ w', Ex W9 w' → Calls Tryd.prog 9 #[.agg #[.int .i64 (opK i), .int .i64 0, .int .i64 0, .int .i64 0, .string ⟨#[]⟩, .slice (some ⟨W8.heap.size, 0, none⟩) 2 2]] w' (Ret w' (.int .i64 ((wantT i x y).depth : Nat)))) := fun w' hX => rDepth_c (wantT i x y).size (wantT i x y) _ w' (opK i) 0 0 0 ⟨#[]⟩ (some ⟨W8.heap.size, 0, none⟩) 2 2 (Nat.le_refl _) (by have := HWs.out; omega) (HTW.out.ex hX)
    have HSa : Hid (∀ w', Ex W9 w' → Calls Tryd.prog 7 #[.agg #[.int .i64 k6, .int .i64 n6, .int .i64 p6, .int .i64 q6, .string S6, .slice A6 m6 c6'], .agg #[.int .i64 (opK i), .int .i64 0, .int .i64 0, .int .i64 0, .string ⟨#[]⟩, .slice (some ⟨W8.heap.size, 0, none⟩) 2 2]] w' (Ret w' (.bool true))) := fun w' hX => by
      have := same_c (wantT i x y).size (wantT i x y) (wantT i x y) _ _ w' k6 n6 p6 q6 (opK i) 0 0 0 S6 ⟨#[]⟩ A6 (some ⟨W8.heap.size, 0, none⟩) m6 2 c6' 2 (Nat.le_refl _) (by have := HWs.out; omega) (by have := HWs.out; omega) (HT69.out.ex hX) (HTW.out.ex hX)
      rw [same_eq] at this; exact this
    have z1 : decide (200 < (((wantT i x y).size : Nat) : Int)) = false := decide_eq_false (by have := HWq.out; omega)
    have z2 : decide (20 < (((wantT i x y).depth : Nat) : Int)) = false := decide_eq_false (by have := HWq.out; omega)
    generalize (wantT i x y).size = WS at *
    generalize (wantT i x y).depth = WD at *
    clear HTW
    go_wp2_with fail
    refine (HSz.out _ (Ex.refl _)).mono ?_
    rintro e w10 ⟨rfl, hx10⟩
    have b10 := BW9.out.ex hx10
    have lw10 := b10.lt
    have v0 := b10.cell 0
    have v1 := b10.cell 1
    have v2 := b10.cell 2
    have v3 := b10.cell 3
    have v4 := b10.cell 4
    have v5 := b10.cell 5
    simp only [List.getElem?_cons_zero, List.getElem?_cons_succ] at v0 v1 v2 v3 v4 v5
    have HX10 := Lib.hid hx10
    clear b10 hx10
    go_wp2_with fail
    refine (HDp.out _ HX10.out).mono ?_
    rintro e w11 ⟨rfl, hx11⟩
    have HX11 := Lib.hid (HX10.out.trans hx11)
    have b11 := BW9.out.ex HX11.out
    have lw11 := b11.lt
    have v0 := b11.cell 0
    have v1 := b11.cell 1
    have v2 := b11.cell 2
    have v3 := b11.cell 3
    have v4 := b11.cell 4
    have v5 := b11.cell 5
    simp only [List.getElem?_cons_zero, List.getElem?_cons_succ] at v0 v1 v2 v3 v4 v5
    have e11 := B69.out.ex HX11.out
    have le11 := e11.lt
    have y0 := e11.cell 0
    have y1 := e11.cell 1
    have y2 := e11.cell 2
    have y3 := e11.cell 3
    have y4 := e11.cell 4
    have y5 := e11.cell 5
    simp only [List.getElem?_cons_zero, List.getElem?_cons_succ] at y0 y1 y2 y3 y4 y5
    clear b11 e11 hx11
    go_wp2_with fail
    refine (HSa.out _ HX11.out).mono ?_
    rintro e w12 ⟨rfl, z12, rfl⟩
    go_wp2_with fail
    go_ret
    exact Ret.mk rfl ((HX9.out.trans HX11.out).ext _)
  · obtain ⟨W8, hW8⟩ : ∃ W8, W8 = ((W7.alloc (.cells #[.int .i64 (opK i), .int .i64 0, .int .i64 0, .int .i64 0, .string ⟨#[]⟩, .slice (some ⟨W7.heap.size + 1, 0, none⟩) 2 2] 25)).alloc (.cells #[.int .i64 k, .int .i64 n, .int .i64 p, .int .i64 q, .string S, .slice A m c, .int .i64 k', .int .i64 n', .int .i64 p', .int .i64 q', .string S', .slice A' m' c'] 25)).drew := ⟨_, rfl⟩
    rw [← hW8]
    have hx8 : Ex W7 W8 := by rw [hW8]; exact (((Ex.refl _).alloc _).alloc _).drew
    have hs8 : W8.heap.size = W7.heap.size + 1 + 1 := by rw [hW8]; simp [World.drew]
    have hbS : Blk W8 (W7.heap.size + 1) 25 [.int .i64 k, .int .i64 n, .int .i64 p, .int .i64 q, .string S, .slice A m c, .int .i64 k', .int .i64 n', .int .i64 p', .int .i64 q', .string S', .slice A' m' c'] := by rw [hW8]; exact Blk.drew (Blk.new' _ (by simp) _ _)
    have hbW : Blk W8 W7.heap.size 25 [.int .i64 (opK i), .int .i64 0, .int .i64 0, .int .i64 0, .string ⟨#[]⟩, .slice (some ⟨W7.heap.size + 1, 0, none⟩) 2 2] := by rw [hW8]; exact Blk.drew ((Blk.new W7 _ _).alloc _)
    clear hW8
    generalize hSB : (W7.heap.size + 1) = SB at hbS hbW ⊢
    generalize hWB : W7.heap.size = WB at hbW ⊢
    have hlw : W7.heap.size ≤ WB := by omega
    have BS := Lib.hid hbS
    have BW := Lib.hid hbW
    have B1 := Lib.hid (B1'.out.ex hx8)
    have B2' := Lib.hid (B2.out.ex hx8)
    have B6' := Lib.hid (B6.out.ex hx8)
    have HT1' := Lib.hid (HT1.out.ex hx8)
    have HT2' := Lib.hid (HT2.out.ex hx8)
    have HT6 := Lib.hid (HT6'.out.ex hx8)
    have HX8 := Lib.hid (HX7.out.trans hx8)
    have HL8 : Hid (W7.heap.size ≤ WB ∧ w6.heap.size < W7.heap.size ∧ w.heap.size ≤ W7.heap.size) := ⟨hlw, l6, HX7.out.below.size⟩
    clear hx8 hbS hbW B1' B2 B6 HT1 HT2 l1 l2 l6 ln cn r0 r1 r2 r3 r4 r5 s0 s1 s2 s3 s4 s5 hs8 hlw hSB hWB
    have hb1 := B1.out
    have l1 := hb1.lt
    have r0 := hb1.cell 0
    have r1 := hb1.cell 1
    have r2 := hb1.cell 2
    have r3 := hb1.cell 3
    have r4 := hb1.cell 4
    have r5 := hb1.cell 5
    simp only [List.getElem?_cons_zero, List.getElem?_cons_succ] at r0 r1 r2 r3 r4 r5
    have hb2 := B2'.out
    have l2 := hb2.lt
    have s0 := hb2.cell 0
    have s1 := hb2.cell 1
    have s2 := hb2.cell 2
    have s3 := hb2.cell 3
    have s4 := hb2.cell 4
    have s5 := hb2.cell 5
    simp only [List.getElem?_cons_zero, List.getElem?_cons_succ] at s0 s1 s2 s3 s4 s5
    have hw := BW.out
    have lw := hw.lt
    have v5 := hw.cell 5
    simp only [List.getElem?_cons_zero, List.getElem?_cons_succ] at v5
    have g5 := hw.frozen 5
    clear hb1 hb2 hw
    go_upto_region 19 with fail
    obtain ⟨W9, hW9⟩ : ∃ W9, W9 = (W8.setCell ⟨WB, 5, none⟩ (.slice (some ⟨W8.heap.size, 0, none⟩) 2 2)).alloc (.cells #[.int .i64 k', .int .i64 n', .int .i64 p', .int .i64 q', .string S', .slice A' m' c', .int .i64 k, .int .i64 n, .int .i64 p, .int .i64 q, .string S, .slice A m c] 25) := ⟨_, rfl⟩
    rw [← hW9]
    have hsz : (W8.setCell ⟨WB, 5, none⟩ (.slice (some ⟨W8.heap.size, 0, none⟩) 2 2)).heap.size = W8.heap.size := by simp [World.setCell]
    have BS9 : Blk W9 W8.heap.size 25 [.int .i64 k', .int .i64 n', .int .i64 p', .int .i64 q', .string S', .slice A' m' c', .int .i64 k, .int .i64 n, .int .i64 p, .int .i64 q, .string S, .slice A m c] := by rw [hW9]; exact Blk.new' _ hsz.symm _ _
    have BW9 : Hid (Blk W9 WB 25 [.int .i64 (opK i), .int .i64 0, .int .i64 0, .int .i64 0, .string ⟨#[]⟩, .slice (some ⟨W8.heap.size, 0, none⟩) 2 2]) := by rw [hW9]; exact (BW.out.set_ 5 _).alloc _
    have B69 : Hid (Blk W9 w6.heap.size 25 (c6 k6 n6 p6 q6 S6 A6 m6 c6')) := by rw [hW9]; exact (B6'.out.far (by show w6.heap.size ≠ WB; have := HL8.out; omega) _).alloc _
    have HX9 : Hid (Ex w W9) := by rw [hW9]; exact (HX8.out.setCell (by show w.heap.size ≤ WB; have := HL8.out; omega) _).alloc _
    have hq : ∀ {t : Tr} {cs : List Value}, TrC (fun b => b < W7.heap.size) W8 t cs → TrC (fun _ => True) W9 t cs := fun {t cs} h => by
      rw [hW9]
      exact ((h.far (fun b hb => by show b ≠ WB; have hb' : b < W7.heap.size := hb; have := HL8.out; omega) _).ex ((Ex.refl _).alloc _)).imp (fun _ _ _ => trivial)
    have HT69 := Lib.hid (hq HT6.out)
    have HTW : Hid (TrC (fun _ => True) W9 (wantT i x y) (c6 (opK i) 0 0 0 ⟨#[]⟩ (some ⟨W8.heap.size, 0, none⟩) 2 2)) := by
      unfold wantT
      rw [if_pos (by have := HI8.out; omega)]
      exact TrC.two (hq HT2'.out) (hq HT1'.out) (opK i) BS9 trivial
    clear hW9 hsz BS9 hq l1 l2 lw v5 g5 r0 r1 r2 r3 r4 r5 s0 s1 s2 s3 s4 s5 HT1' HT2' BW BS B1 B2' B6'
    have hw := BW9.out
    have lw := hw.lt
    have v0 := hw.cell 0
    have v1 := hw.cell 1
    have v2 := hw.cell 2
    have v3 := hw.cell 3
    have v4 := hw.cell 4
    have v5 := hw.cell 5
    simp only [List.getElem?_cons_zero, List.getElem?_cons_succ] at v0 v1 v2 v3 v4 v5
    have d6 := B69.out
    have l6 := d6.lt
    have y0 := d6.cell 0
    have y1 := d6.cell 1
    have y2 := d6.cell 2
    have y3 := d6.cell 3
    have y4 := d6.cell 4
    have y5 := d6.cell 5
    simp only [List.getElem?_cons_zero, List.getElem?_cons_succ] at y0 y1 y2 y3 y4 y5
    clear hw d6
    have HSz : Hid (∀ w', Ex W9 w' → Calls Tryd.prog 8 #[.agg #[.int .i64 (opK i), .int .i64 0, .int .i64 0, .int .i64 0, .string ⟨#[]⟩, .slice (some ⟨W8.heap.size, 0, none⟩) 2 2]] w' (Ret w' (.int .i64 ((wantT i x y).size : Nat)))) := fun w' hX => rSize_c (wantT i x y).size (wantT i x y) _ w' (opK i) 0 0 0 ⟨#[]⟩ (some ⟨W8.heap.size, 0, none⟩) 2 2 (Nat.le_refl _) (by have := HWs.out; omega) (HTW.out.ex hX)
    have HDp : Hid (∀ w', Ex W9 w' → Calls Tryd.prog 9 #[.agg #[.int .i64 (opK i), .int .i64 0, .int .i64 0, .int .i64 0, .string ⟨#[]⟩, .slice (some ⟨W8.heap.size, 0, none⟩) 2 2]] w' (Ret w' (.int .i64 ((wantT i x y).depth : Nat)))) := fun w' hX => rDepth_c (wantT i x y).size (wantT i x y) _ w' (opK i) 0 0 0 ⟨#[]⟩ (some ⟨W8.heap.size, 0, none⟩) 2 2 (Nat.le_refl _) (by have := HWs.out; omega) (HTW.out.ex hX)
    have HSa : Hid (∀ w', Ex W9 w' → Calls Tryd.prog 7 #[.agg #[.int .i64 k6, .int .i64 n6, .int .i64 p6, .int .i64 q6, .string S6, .slice A6 m6 c6'], .agg #[.int .i64 (opK i), .int .i64 0, .int .i64 0, .int .i64 0, .string ⟨#[]⟩, .slice (some ⟨W8.heap.size, 0, none⟩) 2 2]] w' (Ret w' (.bool true))) := fun w' hX => by
      have := same_c (wantT i x y).size (wantT i x y) (wantT i x y) _ _ w' k6 n6 p6 q6 (opK i) 0 0 0 S6 ⟨#[]⟩ A6 (some ⟨W8.heap.size, 0, none⟩) m6 2 c6' 2 (Nat.le_refl _) (by have := HWs.out; omega) (by have := HWs.out; omega) (HT69.out.ex hX) (HTW.out.ex hX)
      rw [same_eq] at this; exact this
    have z1 : decide (200 < (((wantT i x y).size : Nat) : Int)) = false := decide_eq_false (by have := HWq.out; omega)
    have z2 : decide (20 < (((wantT i x y).depth : Nat) : Int)) = false := decide_eq_false (by have := HWq.out; omega)
    generalize (wantT i x y).size = WS at *
    generalize (wantT i x y).depth = WD at *
    clear HTW
    go_wp2_with fail
    refine (HSz.out _ (Ex.refl _)).mono ?_
    rintro e w10 ⟨rfl, hx10⟩
    have b10 := BW9.out.ex hx10
    have lw10 := b10.lt
    have v0 := b10.cell 0
    have v1 := b10.cell 1
    have v2 := b10.cell 2
    have v3 := b10.cell 3
    have v4 := b10.cell 4
    have v5 := b10.cell 5
    simp only [List.getElem?_cons_zero, List.getElem?_cons_succ] at v0 v1 v2 v3 v4 v5
    have HX10 := Lib.hid hx10
    clear b10 hx10
    go_wp2_with fail
    refine (HDp.out _ HX10.out).mono ?_
    rintro e w11 ⟨rfl, hx11⟩
    have HX11 := Lib.hid (HX10.out.trans hx11)
    have b11 := BW9.out.ex HX11.out
    have lw11 := b11.lt
    have v0 := b11.cell 0
    have v1 := b11.cell 1
    have v2 := b11.cell 2
    have v3 := b11.cell 3
    have v4 := b11.cell 4
    have v5 := b11.cell 5
    simp only [List.getElem?_cons_zero, List.getElem?_cons_succ] at v0 v1 v2 v3 v4 v5
    have e11 := B69.out.ex HX11.out
    have le11 := e11.lt
    have y0 := e11.cell 0
    have y1 := e11.cell 1
    have y2 := e11.cell 2
    have y3 := e11.cell 3
    have y4 := e11.cell 4
    have y5 := e11.cell 5
    simp only [List.getElem?_cons_zero, List.getElem?_cons_succ] at y0 y1 y2 y3 y4 y5
    clear b11 e11 hx11
    go_wp2_with fail
    refine (HSa.out _ HX11.out).mono ?_
    rintro e w12 ⟨rfl, z12, rfl⟩
    go_wp2_with fail
    go_ret
    exact Ret.mk rfl ((HX9.out.trans HX11.out).ext _)
set_option maxRecDepth 100000 in
set_option maxHeartbeats 8000000 in
theorem parens_goodF1 (s t : ByteArray) (u : Int) (i : Nat) (w : World) (hE : Envw w) (hs : s.size ≤ 400) (ht : t.size ≤ 400) (hu0 : 0 ≤ u) (hu1 : u ≤ 255) (hi : u % 11 = (i : Int)) (hi1 : i < 11) (x y : Tr) (hx : parseO s.data.toList = .tree x) (hy : parseO t.data.toList = .tree y) (hsm : smallB (wantT i x y) = false) (h8 : i ≤ 8) :
    Calls Tryd.prog 3 #[.string s, .string t, .int .u8 u] w (Ret w (.bool true)) := by
  have HA := Lib.hid (awake_c w hE)
  have H1 : Hid (∀ w', Ex w w' → Calls Tryd.prog 6 #[.string s] w' (ParseR w' (.tree x))) := fun w' hX => by
    have := parse_c s w' (hE.ex hX).1
    rw [hx] at this; exact this
  have H2 : Hid (∀ w', Ex w w' → Calls Tryd.prog 6 #[.string t] w' (ParseR w' (.tree y))) := fun w' hX => by
    have := parse_c t w' (hE.ex hX).1
    rw [hy] at this; exact this
  obtain ⟨J1, hJ1⟩ : ∃ J : ByteArray, J = (⟨#[10, 40, 32, 40]⟩ : ByteArray) ++ s := ⟨_, rfl⟩
  obtain ⟨J2, hJ2⟩ : ∃ J : ByteArray, J = J1 ++ (⟨#[41, 32, 41, 9]⟩ : ByteArray) := ⟨_, rfl⟩
  have a1 := add_ok hJ1 (by show 4 + s.size ≤ _; omega)
  have j1 : J1.size = 4 + s.size := by rw [hJ1, ByteArray.size_append]; rfl
  have a2 := add_ok hJ2 (by show J1.size + 4 ≤ _; omega)
  have hJ : J2.data.toList = [10, 40, 32, 40] ++ s.data.toList ++ [41, 32, 41, 9] := by rw [hJ2, hJ1]; simp
  have H3 : Hid (∀ w', Ex w w' → Calls Tryd.prog 6 #[.string J2] w' (ParseR w' (.tree x))) := fun w' hX => by
    have := parse_c J2 w' (hE.ex hX).1
    rw [hJ, parens_law (by rw [← size_data]; omega) hx] at this; exact this
  obtain ⟨OP, hOP⟩ : ∃ J : ByteArray, J = ⟨(opS i).toArray⟩ := ⟨_, rfl⟩
  have hOl : OP.size ≤ 3 := by
    rw [hOP, size_data]
    rcases op_cases hi1 with rfl | rfl | rfl | rfl | rfl | rfl | rfl | rfl | rfl | rfl | rfl <;> decide
  obtain ⟨K1, hK1⟩ : ∃ J : ByteArray, J = (⟨#[40]⟩ : ByteArray) ++ s := ⟨_, rfl⟩
  obtain ⟨K2, hK2⟩ : ∃ J : ByteArray, J = K1 ++ (⟨#[41]⟩ : ByteArray) := ⟨_, rfl⟩
  obtain ⟨K3, hK3⟩ : ∃ J : ByteArray, J = K2 ++ OP := ⟨_, rfl⟩
  obtain ⟨K4, hK4⟩ : ∃ J : ByteArray, J = K3 ++ (⟨#[40]⟩ : ByteArray) := ⟨_, rfl⟩
  obtain ⟨K5, hK5⟩ : ∃ J : ByteArray, J = K4 ++ t := ⟨_, rfl⟩
  obtain ⟨K6, hK6⟩ : ∃ J : ByteArray, J = K5 ++ (⟨#[41]⟩ : ByteArray) := ⟨_, rfl⟩
  have k1 : K1.size = 1 + s.size := by rw [hK1, ByteArray.size_append]; rfl
  have k2 : K2.size = K1.size + 1 := by rw [hK2, ByteArray.size_append]; rfl
  have k3 : K3.size = K2.size + OP.size := by rw [hK3, ByteArray.size_append]
  have k4 : K4.size = K3.size + 1 := by rw [hK4, ByteArray.size_append]; rfl
  have k5 : K5.size = K4.size + t.size := by rw [hK5, ByteArray.size_append]
  have b1 := add_ok hK1 (by show 1 + s.size ≤ _; omega)
  have b2 := add_ok hK2 (by show K1.size + 1 ≤ _; omega)
  have b3 := add_ok hK3 (by omega)
  have b4 := add_ok hK4 (by show K3.size + 1 ≤ _; omega)
  have b5 := add_ok hK5 (by omega)
  have b6 := add_ok hK6 (by show K5.size + 1 ≤ _; omega)
  have hK : K6.data.toList = [40] ++ s.data.toList ++ [41] ++ opS i ++ [40] ++ t.data.toList ++ [41] := by rw [hK6, hK5, hK4, hK3, hK2, hK1, hOP]; simp
  have H4 : Hid (∀ w', Ex w w' → Calls Tryd.prog 6 #[.string K6] w' (ParseR w' (if smallB (wantT i x y) then .tree (wantT i x y) else .err (0, 0) 5))) := fun w' hX => by
    have := parse_c K6 w' (hE.ex hX).1
    rw [hK, both_law hi1 (by rw [← size_data]; omega) (by rw [← size_data]; omega) hx hy] at this; exact this
  obtain ⟨_, _, _, hsx⟩ := parseO_tree hx
  obtain ⟨_, _, _, hsy⟩ := parseO_tree hy
  have hzx := small_size hsx
  have hzy := small_size hsy
  have HSm : Hid (∀ (w' : World) (Q Q' : Nat → Prop) k n p q k' n' p' q' s s' A A' m m' c c', TrC Q w' x (c6 k n p q s A m c) → TrC Q' w' x (c6 k' n' p' q' s' A' m' c') → Calls Tryd.prog 7 #[.agg #[.int .i64 k, .int .i64 n, .int .i64 p, .int .i64 q, .string s, .slice A m c], .agg #[.int .i64 k', .int .i64 n', .int .i64 p', .int .i64 q', .string s', .slice A' m' c']] w' (Ret w' (.bool true))) := fun w' Q Q' k n p q k' n' p' q' s s' A A' m m' c c' h h' => by
    have := same_c x.size x x Q Q' w' k n p q k' n' p' q' s s' A A' m m' c c' (Nat.le_refl _) (by omega) (by omega) h h'
    rw [same_eq] at this; exact this
  have m1 : decide (400 < (s.size : Int)) = false := decide_eq_false (by omega)
  have m2 : decide (400 < (t.size : Int)) = false := decide_eq_false (by omega)
  have HO := Lib.hid (ops_at hi1)
  rw [← hOP] at HO
  have HE := Lib.hid hE
  have HI := Lib.hid (And.intro hi1 (And.intro hzx hzy))
  have hi0 : (0 : Int) ≤ (i : Int) := by omega
  have hi11 : (i : Int) < 11 := by omega
  rw [hsm, if_neg (by simp)] at H4
  unfold ParseR at H1 H2 H3 H4
  dsimp only at H1 H2 H3 H4
  have HWs : Hid ((wantT i x y).size ≤ 401) := by
    show _ ≤ _
    unfold wantT
    split <;> (rw [nd_size2]; omega)
  have HWq : Hid (200 < (wantT i x y).size ∨ ((wantT i x y).size ≤ 200 ∧ 20 < (wantT i x y).depth)) := by
    unfold smallB at hsm
    simp only [Bool.and_eq_false_iff, decide_eq_false_iff_not] at hsm
    show _ ∨ _
    omega
  have HI8 := Lib.hid h8
  have q1 : decide (8 < u % 11) = false := decide_eq_false (by omega)
  have q2 : decide (8 < (i : Int)) = false := decide_eq_false (by omega)
  clear h8 hsm
  clear hE hs ht hx hy hsx hsy hzx hzy hJ hJ1 hJ2 hK hK1 hK2 hK3 hK4 hK5 hK6 hOP hOl j1 k1 k2 k3 k4 k5
  go_enter Tryd.func3, Tryd.ntmps3
  go_wp2_with fail
  refine HA.out.mono ?_
  rintro e w0 ⟨rfl, hx0⟩
  have HX0 := Lib.hid hx0
  clear hx0
  go_wp2_with fail
  refine (H1.out _ HX0.out).mono ?_
  rintro e w1 ⟨k, n, p, q, S, A, m, c, rfl, ht1, hx1⟩
  have HT1 := Lib.hid ht1
  have HX1 : Hid (Ex w w1) := HX0.out.trans hx1
  clear ht1 hx1
  go_wp2_with fail
  refine (H2.out _ ((HX1.out.alloc _).alloc _)).mono ?_
  rintro e w2 ⟨k', n', p', q', S', A', m', c', rfl, ht2, hx2⟩
  have B1 : Hid (Blk w2 w1.heap.size 25 (c6 k n p q S A m c)) := ((Blk.new w1 _ _).alloc _).ex hx2
  have HT1' := Lib.hid (((HT1.out.ex ((Ex.refl _).alloc _)).ex ((Ex.refl _).alloc _)).ex hx2)
  have HT2 := Lib.hid ht2
  have HX2 : Hid (Ex w w2) := ((HX1.out.alloc _).alloc _).trans hx2
  clear ht2 hx2
  go_wp2_with fail
  refine (H3.out _ ((HX2.out.alloc _).alloc _)).mono ?_
  rintro e w3 ⟨k3, n3, p3, q3, S3, A3, m3, c3, rfl, ht3, hx3⟩
  have B1' := Lib.hid (((B1.out.alloc _).alloc _).ex hx3)
  have B2 : Hid (Blk w3 w2.heap.size 25 (c6 k' n' p' q' S' A' m' c')) := ((Blk.new w2 _ _).alloc _).ex hx3
  have HT1 := Lib.hid (((HT1'.out.ex ((Ex.refl _).alloc _)).ex ((Ex.refl _).alloc _)).ex hx3)
  have HT2 := Lib.hid (((HT2.out.ex ((Ex.refl _).alloc _)).ex ((Ex.refl _).alloc _)).ex hx3)
  have HT3 := Lib.hid ht3
  have HX3 : Hid (Ex w w3) := ((HX2.out.alloc _).alloc _).trans hx3
  have l1 := B1'.out.lt
  have r0 := B1'.out.cell 0
  have r1 := B1'.out.cell 1
  have r2 := B1'.out.cell 2
  have r3 := B1'.out.cell 3
  have r4 := B1'.out.cell 4
  have r5 := B1'.out.cell 5
  simp only [List.getElem?_cons_zero, List.getElem?_cons_succ] at r0 r1 r2 r3 r4 r5
  clear ht3 hx3 B1
  go_wp2_with fail
  refine (HSm.out _ _ _ k n p q k3 n3 p3 q3 S S3 A A3 m m3 c c3 ((HT1.out.ex ((Ex.refl _).alloc _)).ex ((Ex.refl _).alloc _)) ((HT3.out.ex ((Ex.refl _).alloc _)).ex ((Ex.refl _).alloc _))).mono ?_
  rintro e w4 ⟨rfl, hx4⟩
  have B1 := Lib.hid (((B1'.out.alloc _).alloc _).ex hx4)
  have B2' := Lib.hid (((B2.out.alloc _).alloc _).ex hx4)
  have HT1' := Lib.hid (((HT1.out.ex ((Ex.refl _).alloc _)).ex ((Ex.refl _).alloc _)).ex hx4)
  have HT2' := Lib.hid (((HT2.out.ex ((Ex.refl _).alloc _)).ex ((Ex.refl _).alloc _)).ex hx4)
  have HX4 : Hid (Ex w w4) := ((HX3.out.alloc _).alloc _).trans hx4
  clear hx4 B1' B2 HT1 HT2 HT3 l1 r0 r1 r2 r3 r4 r5
  go_upto_region 15 with fail
  obtain ⟨W5, hW5⟩ : ∃ W5, W5 = (w4.alloc (.cells #[.string ⟨#[43]⟩, .string ⟨#[45]⟩, .string ⟨#[42]⟩, .string ⟨#[61]⟩, .string ⟨#[33, 61]⟩, .string ⟨#[60]⟩, .string ⟨#[60, 61]⟩, .string ⟨#[97, 110, 100]⟩, .string ⟨#[111, 114]⟩, .string ⟨#[62]⟩, .string ⟨#[62, 61]⟩] 9)).alloc (.cells #[.int .i64 6, .int .i64 7, .int .i64 8, .int .i64 9, .int .i64 10, .int .i64 11, .int .i64 12, .int .i64 16, .int .i64 17, .int .i64 11, .int .i64 12] 3) := ⟨_, rfl⟩
  rw [← hW5]
  have O5 : Hid (Blk W5 w4.heap.size 9 opsV) := by rw [hW5]; exact (Blk.new w4 _ _).alloc _
  have N5 : Hid (Blk W5 (w4.heap.size + 1) 3 kindsV) := by rw [hW5]; exact Blk.new' _ (by simp) _ _
  have hx5 : Ex w4 W5 := by rw [hW5]; exact ((Ex.refl _).alloc _).alloc _
  have B1' := Lib.hid (B1.out.ex hx5)
  have B2 := Lib.hid (B2'.out.ex hx5)
  have HT1 := Lib.hid (HT1'.out.ex hx5)
  have HT2 := Lib.hid (HT2'.out.ex hx5)
  have HX5 := Lib.hid (HX4.out.trans hx5)
  have lo := O5.out.lt
  have co : W5.cell? ⟨w4.heap.size, i, none⟩ = some (.string OP) := (O5.out.cell i).trans HO.out.1
  clear hW5 hx5 B1 B2' HT1' HT2'
  go_wp2_with fail
  refine (H4.out _ HX5.out).mono ?_
  rintro e w6 ⟨rfl, hx6⟩
  have B1 := Lib.hid (B1'.out.ex hx6)
  have B2' := Lib.hid (B2.out.ex hx6)
  have N6 := Lib.hid (N5.out.ex hx6)
  have HT1' := Lib.hid (HT1.out.ex hx6)
  have HT2' := Lib.hid (HT2.out.ex hx6)
  have HX6 : Hid (Ex w w6) := HX5.out.trans hx6
  clear hx6 B1' B2 HT1 HT2 lo co
  go_upto_region 16 with fail
  generalize w4.heap.size + 1 = nb at *
  obtain ⟨W7, hW7⟩ : ∃ W7, W7 = (w6.alloc (.cells #[.int .i64 0, .int .i64 0, .int .i64 0, .int .i64 0, .string ⟨#[]⟩, .slice none 0 0] 25)).alloc (.cells #[.int .i64 0, .int .i64 0] 27) := ⟨_, rfl⟩
  rw [← hW7]
  have hx7 : Ex w6 W7 := by rw [hW7]; exact ((Ex.refl _).alloc _).alloc _
  have B6 : Hid (Blk W7 w6.heap.size 25 (c6 0 0 0 0 ⟨#[]⟩ none 0 0)) := by rw [hW7]; exact (Blk.new w6 _ _).alloc _
  have B1' := Lib.hid (B1.out.ex hx7)
  have B2 := Lib.hid (B2'.out.ex hx7)
  have N7 := Lib.hid (N6.out.ex hx7)
  have HT1 : Hid (TrC (fun b => b < W7.heap.size) W7 x (c6 k n p q S A m c)) := (HT1'.out.ex hx7).imp (fun b h _ => h)
  have HT2 : Hid (TrC (fun b => b < W7.heap.size) W7 y (c6 k' n' p' q' S' A' m' c')) := (HT2'.out.ex hx7).imp (fun b h _ => h)
  have HX7 := Lib.hid (HX6.out.trans hx7)
  have l6 := B6.out.lt
  have l1 := B1'.out.lt
  have l2 := B2.out.lt
  have ln := N7.out.lt
  have cn : W7.cell? ⟨nb, i, none⟩ = some (.int .i64 (opK i)) := (N7.out.cell i).trans HO.out.2
  have r0 := B1'.out.cell 0
  have r1 := B1'.out.cell 1
  have r2 := B1'.out.cell 2
  have r3 := B1'.out.cell 3
  have r4 := B1'.out.cell 4
  have r5 := B1'.out.cell 5
  simp only [List.getElem?_cons_zero, List.getElem?_cons_succ] at r0 r1 r2 r3 r4 r5
  have s0 := B2.out.cell 0
  have s1 := B2.out.cell 1
  have s2 := B2.out.cell 2
  have s3 := B2.out.cell 3
  have s4 := B2.out.cell 4
  have s5 := B2.out.cell 5
  simp only [List.getElem?_cons_zero, List.getElem?_cons_succ] at s0 s1 s2 s3 s4 s5
  clear hW7 hx7 B1 B2' HT1' HT2' 
  go_region
  · obtain ⟨W8, hW8⟩ : ∃ W8, W8 = ((W7.alloc (.cells #[.int .i64 k, .int .i64 n, .int .i64 p, .int .i64 q, .string S, .slice A m c, .int .i64 k', .int .i64 n', .int .i64 p', .int .i64 q', .string S', .slice A' m' c'] 25)).alloc (.cells #[.int .i64 (opK i), .int .i64 0, .int .i64 0, .int .i64 0, .string ⟨#[]⟩, .slice (some ⟨W7.heap.size, 0, none⟩) 2 2] 25)).drew := ⟨_, rfl⟩
    rw [← hW8]
    have hx8 : Ex W7 W8 := by rw [hW8]; exact (((Ex.refl _).alloc _).alloc _).drew
    have hs8 : W8.heap.size = W7.heap.size + 1 + 1 := by rw [hW8]; simp [World.drew]
    have hbS : Blk W8 W7.heap.size 25 [.int .i64 k, .int .i64 n, .int .i64 p, .int .i64 q, .string S, .slice A m c, .int .i64 k', .int .i64 n', .int .i64 p', .int .i64 q', .string S', .slice A' m' c'] := by rw [hW8]; exact Blk.drew ((Blk.new W7 _ _).alloc _)
    have hbW : Blk W8 (W7.heap.size + 1) 25 [.int .i64 (opK i), .int .i64 0, .int .i64 0, .int .i64 0, .string ⟨#[]⟩, .slice (some ⟨W7.heap.size, 0, none⟩) 2 2] := by rw [hW8]; exact Blk.drew (Blk.new' _ (by simp) _ _)
    clear hW8
    generalize hWB : (W7.heap.size + 1) = WB at hbW ⊢
    generalize hSB : W7.heap.size = SB at hbS hbW ⊢
    have hlw : W7.heap.size ≤ WB := by omega
    have BS := Lib.hid hbS
    have BW := Lib.hid hbW
    have B1 := Lib.hid (B1'.out.ex hx8)
    have B2' := Lib.hid (B2.out.ex hx8)
    have B6' := Lib.hid (B6.out.ex hx8)
    have HT1' := Lib.hid (HT1.out.ex hx8)
    have HT2' := Lib.hid (HT2.out.ex hx8)
    have HX8 := Lib.hid (HX7.out.trans hx8)
    have HL8 : Hid (W7.heap.size ≤ WB ∧ w6.heap.size < W7.heap.size ∧ w.heap.size ≤ W7.heap.size) := ⟨hlw, l6, HX7.out.below.size⟩
    clear hx8 hbS hbW B1' B2 B6 HT1 HT2 l1 l2 l6 ln cn r0 r1 r2 r3 r4 r5 s0 s1 s2 s3 s4 s5 hs8 hlw hSB hWB
    have BW9 := BW
    have B69 := B6'
    have HX9 := HX8
    have HTW : Hid (TrC (fun _ => True) W8 (wantT i x y) (c6 (opK i) 0 0 0 ⟨#[]⟩ (some ⟨SB, 0, none⟩) 2 2)) := by
      unfold wantT
      rw [if_neg (by have := HI8.out; omega)]
      exact TrC.two (HT1'.out.imp (fun _ _ _ => trivial)) (HT2'.out.imp (fun _ _ _ => trivial)) (opK i) BS.out trivial
    have hw := BW9.out
    have lw := hw.lt
    have v0 := hw.cell 0
    have v1 := hw.cell 1
    have v2 := hw.cell 2
    have v3 := hw.cell 3
    have v4 := hw.cell 4
    have v5 := hw.cell 5
    simp only [List.getElem?_cons_zero, List.getElem?_cons_succ] at v0 v1 v2 v3 v4 v5
    have d6 := B69.out
    have l6 := d6.lt
    have y0 := d6.cell 0
    have y1 := d6.cell 1
    have y2 := d6.cell 2
    have y3 := d6.cell 3
    have y4 := d6.cell 4
    have y5 := d6.cell 5
    simp only [List.getElem?_cons_zero, List.getElem?_cons_succ] at y0 y1 y2 y3 y4 y5
    clear hw d6
    have HSz : Hid (∀ w', Ex W8 w' → Calls Tryd.prog 8 #[.agg #[.int .i64 (opK i), .int .i64 0, .int .i64 0, .int .i64 0, .string ⟨#[]⟩, .slice (some ⟨SB, 0, none⟩) 2 2]] w' (Ret w' (.int .i64 ((wantT i x y).size : Nat)))) := fun w' hX => rSize_c (wantT i x y).size (wantT i x y) _ w' (opK i) 0 0 0 ⟨#[]⟩ (some ⟨SB, 0, none⟩) 2 2 (Nat.le_refl _) (by have := HWs.out; omega) (HTW.out.ex hX)
    have HDp : Hid (∀ w', Ex W8 w' → Calls Tryd.prog 9 #[.agg #[.int .i64 (opK i), .int .i64 0, .int .i64 0, .int .i64 0, .string ⟨#[]⟩, .slice (some ⟨SB, 0, none⟩) 2 2]] w' (Ret w' (.int .i64 ((wantT i x y).depth : Nat)))) := fun w' hX => rDepth_c (wantT i x y).size (wantT i x y) _ w' (opK i) 0 0 0 ⟨#[]⟩ (some ⟨SB, 0, none⟩) 2 2 (Nat.le_refl _) (by have := HWs.out; omega) (HTW.out.ex hX)
    have HZe : Hid (∀ w', Calls Tryd.prog 10 #[.agg #[.int .i64 0, .int .i64 0, .int .i64 0, .int .i64 0, .string ⟨#[]⟩, .slice none 0 0]] w' (Ret w' (.bool true))) := fun w' => by
      have := zero_c (nd 0 []) (fun _ => True) w' 0 0 0 0 ⟨#[]⟩ none 0 0 (by rw [nd_size0]; omega) (.leaf 0 0 0 0 ⟨#[]⟩ none 0)
      rw [same_eq] at this; exact this
    rcases HWq.out with hq1 | hq1
    · have z1 : decide (200 < (((wantT i x y).size : Nat) : Int)) = true := decide_eq_true (by omega)
      generalize (wantT i x y).size = WS at *
      generalize (wantT i x y).depth = WD at *
      clear HTW hq1
      go_wp2_with fail
      refine (HSz.out _ (Ex.refl _)).mono ?_
      rintro e w10 ⟨rfl, hx10⟩
      have e10 := B69.out.ex hx10
      have le10 := e10.lt
      have y0 := e10.cell 0
      have y1 := e10.cell 1
      have y2 := e10.cell 2
      have y3 := e10.cell 3
      have y4 := e10.cell 4
      have y5 := e10.cell 5
      simp only [List.getElem?_cons_zero, List.getElem?_cons_succ] at y0 y1 y2 y3 y4 y5
      have HX10 := Lib.hid hx10
      clear e10 hx10
      go_wp2_with fail
      refine (HZe.out _).mono ?_
      rintro e w12 ⟨rfl, z12, rfl⟩
      go_wp2_with fail
      go_ret
      exact Ret.mk rfl ((HX9.out.trans HX10.out).ext _)
    · have z1 : decide (200 < (((wantT i x y).size : Nat) : Int)) = false := decide_eq_false (by omega)
      have z2 : decide (20 < (((wantT i x y).depth : Nat) : Int)) = true := decide_eq_true (by omega)
      generalize (wantT i x y).size = WS at *
      generalize (wantT i x y).depth = WD at *
      clear HTW hq1
      go_wp2_with fail
      refine (HSz.out _ (Ex.refl _)).mono ?_
      rintro e w10 ⟨rfl, hx10⟩
      have b10 := BW9.out.ex hx10
      have lw10 := b10.lt
      have v0 := b10.cell 0
      have v1 := b10.cell 1
      have v2 := b10.cell 2
      have v3 := b10.cell 3
      have v4 := b10.cell 4
      have v5 := b10.cell 5
      simp only [List.getElem?_cons_zero, List.getElem?_cons_succ] at v0 v1 v2 v3 v4 v5
      have HX10 := Lib.hid hx10
      clear b10 hx10
      go_wp2_with fail
      refine (HDp.out _ HX10.out).mono ?_
      rintro e w11 ⟨rfl, hx11⟩
      have HX11 := Lib.hid (HX10.out.trans hx11)
      have e11 := B69.out.ex HX11.out
      have le11 := e11.lt
      have y0 := e11.cell 0
      have y1 := e11.cell 1
      have y2 := e11.cell 2
      have y3 := e11.cell 3
      have y4 := e11.cell 4
      have y5 := e11.cell 5
      simp only [List.getElem?_cons_zero, List.getElem?_cons_succ] at y0 y1 y2 y3 y4 y5
      clear e11 hx11
      go_wp2_with fail
      refine (HZe.out _).mono ?_
      rintro e w12 ⟨rfl, z12, rfl⟩
      go_wp2_with fail
      go_ret
      exact Ret.mk rfl ((HX9.out.trans HX11.out).ext _)
  · obtain ⟨W8, hW8⟩ : ∃ W8, W8 = ((W7.alloc (.cells #[.int .i64 (opK i), .int .i64 0, .int .i64 0, .int .i64 0, .string ⟨#[]⟩, .slice (some ⟨W7.heap.size + 1, 0, none⟩) 2 2] 25)).alloc (.cells #[.int .i64 k, .int .i64 n, .int .i64 p, .int .i64 q, .string S, .slice A m c, .int .i64 k', .int .i64 n', .int .i64 p', .int .i64 q', .string S', .slice A' m' c'] 25)).drew := ⟨_, rfl⟩
    rw [← hW8]
    have hx8 : Ex W7 W8 := by rw [hW8]; exact (((Ex.refl _).alloc _).alloc _).drew
    have hs8 : W8.heap.size = W7.heap.size + 1 + 1 := by rw [hW8]; simp [World.drew]
    have hbS : Blk W8 (W7.heap.size + 1) 25 [.int .i64 k, .int .i64 n, .int .i64 p, .int .i64 q, .string S, .slice A m c, .int .i64 k', .int .i64 n', .int .i64 p', .int .i64 q', .string S', .slice A' m' c'] := by rw [hW8]; exact Blk.drew (Blk.new' _ (by simp) _ _)
    have hbW : Blk W8 W7.heap.size 25 [.int .i64 (opK i), .int .i64 0, .int .i64 0, .int .i64 0, .string ⟨#[]⟩, .slice (some ⟨W7.heap.size + 1, 0, none⟩) 2 2] := by rw [hW8]; exact Blk.drew ((Blk.new W7 _ _).alloc _)
    clear hW8
    generalize hSB : (W7.heap.size + 1) = SB at hbS hbW ⊢
    generalize hWB : W7.heap.size = WB at hbW ⊢
    have hlw : W7.heap.size ≤ WB := by omega
    have BS := Lib.hid hbS
    have BW := Lib.hid hbW
    have B1 := Lib.hid (B1'.out.ex hx8)
    have B2' := Lib.hid (B2.out.ex hx8)
    have B6' := Lib.hid (B6.out.ex hx8)
    have HT1' := Lib.hid (HT1.out.ex hx8)
    have HT2' := Lib.hid (HT2.out.ex hx8)
    have HX8 := Lib.hid (HX7.out.trans hx8)
    have HL8 : Hid (W7.heap.size ≤ WB ∧ w6.heap.size < W7.heap.size ∧ w.heap.size ≤ W7.heap.size) := ⟨hlw, l6, HX7.out.below.size⟩
    clear hx8 hbS hbW B1' B2 B6 HT1 HT2 l1 l2 l6 ln cn r0 r1 r2 r3 r4 r5 s0 s1 s2 s3 s4 s5 hs8 hlw hSB hWB
    have BW9 := BW
    have B69 := B6'
    have HX9 := HX8
    have HTW : Hid (TrC (fun _ => True) W8 (wantT i x y) (c6 (opK i) 0 0 0 ⟨#[]⟩ (some ⟨SB, 0, none⟩) 2 2)) := by
      unfold wantT
      rw [if_neg (by have := HI8.out; omega)]
      exact TrC.two (HT1'.out.imp (fun _ _ _ => trivial)) (HT2'.out.imp (fun _ _ _ => trivial)) (opK i) BS.out trivial
    have hw := BW9.out
    have lw := hw.lt
    have v0 := hw.cell 0
    have v1 := hw.cell 1
    have v2 := hw.cell 2
    have v3 := hw.cell 3
    have v4 := hw.cell 4
    have v5 := hw.cell 5
    simp only [List.getElem?_cons_zero, List.getElem?_cons_succ] at v0 v1 v2 v3 v4 v5
    have d6 := B69.out
    have l6 := d6.lt
    have y0 := d6.cell 0
    have y1 := d6.cell 1
    have y2 := d6.cell 2
    have y3 := d6.cell 3
    have y4 := d6.cell 4
    have y5 := d6.cell 5
    simp only [List.getElem?_cons_zero, List.getElem?_cons_succ] at y0 y1 y2 y3 y4 y5
    clear hw d6
    have HSz : Hid (∀ w', Ex W8 w' → Calls Tryd.prog 8 #[.agg #[.int .i64 (opK i), .int .i64 0, .int .i64 0, .int .i64 0, .string ⟨#[]⟩, .slice (some ⟨SB, 0, none⟩) 2 2]] w' (Ret w' (.int .i64 ((wantT i x y).size : Nat)))) := fun w' hX => rSize_c (wantT i x y).size (wantT i x y) _ w' (opK i) 0 0 0 ⟨#[]⟩ (some ⟨SB, 0, none⟩) 2 2 (Nat.le_refl _) (by have := HWs.out; omega) (HTW.out.ex hX)
    have HDp : Hid (∀ w', Ex W8 w' → Calls Tryd.prog 9 #[.agg #[.int .i64 (opK i), .int .i64 0, .int .i64 0, .int .i64 0, .string ⟨#[]⟩, .slice (some ⟨SB, 0, none⟩) 2 2]] w' (Ret w' (.int .i64 ((wantT i x y).depth : Nat)))) := fun w' hX => rDepth_c (wantT i x y).size (wantT i x y) _ w' (opK i) 0 0 0 ⟨#[]⟩ (some ⟨SB, 0, none⟩) 2 2 (Nat.le_refl _) (by have := HWs.out; omega) (HTW.out.ex hX)
    have HZe : Hid (∀ w', Calls Tryd.prog 10 #[.agg #[.int .i64 0, .int .i64 0, .int .i64 0, .int .i64 0, .string ⟨#[]⟩, .slice none 0 0]] w' (Ret w' (.bool true))) := fun w' => by
      have := zero_c (nd 0 []) (fun _ => True) w' 0 0 0 0 ⟨#[]⟩ none 0 0 (by rw [nd_size0]; omega) (.leaf 0 0 0 0 ⟨#[]⟩ none 0)
      rw [same_eq] at this; exact this
    rcases HWq.out with hq1 | hq1
    · have z1 : decide (200 < (((wantT i x y).size : Nat) : Int)) = true := decide_eq_true (by omega)
      generalize (wantT i x y).size = WS at *
      generalize (wantT i x y).depth = WD at *
      clear HTW hq1
      go_wp2_with fail
      refine (HSz.out _ (Ex.refl _)).mono ?_
      rintro e w10 ⟨rfl, hx10⟩
      have e10 := B69.out.ex hx10
      have le10 := e10.lt
      have y0 := e10.cell 0
      have y1 := e10.cell 1
      have y2 := e10.cell 2
      have y3 := e10.cell 3
      have y4 := e10.cell 4
      have y5 := e10.cell 5
      simp only [List.getElem?_cons_zero, List.getElem?_cons_succ] at y0 y1 y2 y3 y4 y5
      have HX10 := Lib.hid hx10
      clear e10 hx10
      go_wp2_with fail
      refine (HZe.out _).mono ?_
      rintro e w12 ⟨rfl, z12, rfl⟩
      go_wp2_with fail
      go_ret
      exact Ret.mk rfl ((HX9.out.trans HX10.out).ext _)
    · have z1 : decide (200 < (((wantT i x y).size : Nat) : Int)) = false := decide_eq_false (by omega)
      have z2 : decide (20 < (((wantT i x y).depth : Nat) : Int)) = true := decide_eq_true (by omega)
      generalize (wantT i x y).size = WS at *
      generalize (wantT i x y).depth = WD at *
      clear HTW hq1
      go_wp2_with fail
      refine (HSz.out _ (Ex.refl _)).mono ?_
      rintro e w10 ⟨rfl, hx10⟩
      have b10 := BW9.out.ex hx10
      have lw10 := b10.lt
      have v0 := b10.cell 0
      have v1 := b10.cell 1
      have v2 := b10.cell 2
      have v3 := b10.cell 3
      have v4 := b10.cell 4
      have v5 := b10.cell 5
      simp only [List.getElem?_cons_zero, List.getElem?_cons_succ] at v0 v1 v2 v3 v4 v5
      have HX10 := Lib.hid hx10
      clear b10 hx10
      go_wp2_with fail
      refine (HDp.out _ HX10.out).mono ?_
      rintro e w11 ⟨rfl, hx11⟩
      have HX11 := Lib.hid (HX10.out.trans hx11)
      have e11 := B69.out.ex HX11.out
      have le11 := e11.lt
      have y0 := e11.cell 0
      have y1 := e11.cell 1
      have y2 := e11.cell 2
      have y3 := e11.cell 3
      have y4 := e11.cell 4
      have y5 := e11.cell 5
      simp only [List.getElem?_cons_zero, List.getElem?_cons_succ] at y0 y1 y2 y3 y4 y5
      clear e11 hx11
      go_wp2_with fail
      refine (HZe.out _).mono ?_
      rintro e w12 ⟨rfl, z12, rfl⟩
      go_wp2_with fail
      go_ret
      exact Ret.mk rfl ((HX9.out.trans HX11.out).ext _)
set_option maxRecDepth 100000 in
set_option maxHeartbeats 8000000 in
theorem parens_goodF2 (s t : ByteArray) (u : Int) (i : Nat) (w : World) (hE : Envw w) (hs : s.size ≤ 400) (ht : t.size ≤ 400) (hu0 : 0 ≤ u) (hu1 : u ≤ 255) (hi : u % 11 = (i : Int)) (hi1 : i < 11) (x y : Tr) (hx : parseO s.data.toList = .tree x) (hy : parseO t.data.toList = .tree y) (hsm : smallB (wantT i x y) = false) (h8 : 8 < i) :
    Calls Tryd.prog 3 #[.string s, .string t, .int .u8 u] w (Ret w (.bool true)) := by
  have HA := Lib.hid (awake_c w hE)
  have H1 : Hid (∀ w', Ex w w' → Calls Tryd.prog 6 #[.string s] w' (ParseR w' (.tree x))) := fun w' hX => by
    have := parse_c s w' (hE.ex hX).1
    rw [hx] at this; exact this
  have H2 : Hid (∀ w', Ex w w' → Calls Tryd.prog 6 #[.string t] w' (ParseR w' (.tree y))) := fun w' hX => by
    have := parse_c t w' (hE.ex hX).1
    rw [hy] at this; exact this
  obtain ⟨J1, hJ1⟩ : ∃ J : ByteArray, J = (⟨#[10, 40, 32, 40]⟩ : ByteArray) ++ s := ⟨_, rfl⟩
  obtain ⟨J2, hJ2⟩ : ∃ J : ByteArray, J = J1 ++ (⟨#[41, 32, 41, 9]⟩ : ByteArray) := ⟨_, rfl⟩
  have a1 := add_ok hJ1 (by show 4 + s.size ≤ _; omega)
  have j1 : J1.size = 4 + s.size := by rw [hJ1, ByteArray.size_append]; rfl
  have a2 := add_ok hJ2 (by show J1.size + 4 ≤ _; omega)
  have hJ : J2.data.toList = [10, 40, 32, 40] ++ s.data.toList ++ [41, 32, 41, 9] := by rw [hJ2, hJ1]; simp
  have H3 : Hid (∀ w', Ex w w' → Calls Tryd.prog 6 #[.string J2] w' (ParseR w' (.tree x))) := fun w' hX => by
    have := parse_c J2 w' (hE.ex hX).1
    rw [hJ, parens_law (by rw [← size_data]; omega) hx] at this; exact this
  obtain ⟨OP, hOP⟩ : ∃ J : ByteArray, J = ⟨(opS i).toArray⟩ := ⟨_, rfl⟩
  have hOl : OP.size ≤ 3 := by
    rw [hOP, size_data]
    rcases op_cases hi1 with rfl | rfl | rfl | rfl | rfl | rfl | rfl | rfl | rfl | rfl | rfl <;> decide
  obtain ⟨K1, hK1⟩ : ∃ J : ByteArray, J = (⟨#[40]⟩ : ByteArray) ++ s := ⟨_, rfl⟩
  obtain ⟨K2, hK2⟩ : ∃ J : ByteArray, J = K1 ++ (⟨#[41]⟩ : ByteArray) := ⟨_, rfl⟩
  obtain ⟨K3, hK3⟩ : ∃ J : ByteArray, J = K2 ++ OP := ⟨_, rfl⟩
  obtain ⟨K4, hK4⟩ : ∃ J : ByteArray, J = K3 ++ (⟨#[40]⟩ : ByteArray) := ⟨_, rfl⟩
  obtain ⟨K5, hK5⟩ : ∃ J : ByteArray, J = K4 ++ t := ⟨_, rfl⟩
  obtain ⟨K6, hK6⟩ : ∃ J : ByteArray, J = K5 ++ (⟨#[41]⟩ : ByteArray) := ⟨_, rfl⟩
  have k1 : K1.size = 1 + s.size := by rw [hK1, ByteArray.size_append]; rfl
  have k2 : K2.size = K1.size + 1 := by rw [hK2, ByteArray.size_append]; rfl
  have k3 : K3.size = K2.size + OP.size := by rw [hK3, ByteArray.size_append]
  have k4 : K4.size = K3.size + 1 := by rw [hK4, ByteArray.size_append]; rfl
  have k5 : K5.size = K4.size + t.size := by rw [hK5, ByteArray.size_append]
  have b1 := add_ok hK1 (by show 1 + s.size ≤ _; omega)
  have b2 := add_ok hK2 (by show K1.size + 1 ≤ _; omega)
  have b3 := add_ok hK3 (by omega)
  have b4 := add_ok hK4 (by show K3.size + 1 ≤ _; omega)
  have b5 := add_ok hK5 (by omega)
  have b6 := add_ok hK6 (by show K5.size + 1 ≤ _; omega)
  have hK : K6.data.toList = [40] ++ s.data.toList ++ [41] ++ opS i ++ [40] ++ t.data.toList ++ [41] := by rw [hK6, hK5, hK4, hK3, hK2, hK1, hOP]; simp
  have H4 : Hid (∀ w', Ex w w' → Calls Tryd.prog 6 #[.string K6] w' (ParseR w' (if smallB (wantT i x y) then .tree (wantT i x y) else .err (0, 0) 5))) := fun w' hX => by
    have := parse_c K6 w' (hE.ex hX).1
    rw [hK, both_law hi1 (by rw [← size_data]; omega) (by rw [← size_data]; omega) hx hy] at this; exact this
  obtain ⟨_, _, _, hsx⟩ := parseO_tree hx
  obtain ⟨_, _, _, hsy⟩ := parseO_tree hy
  have hzx := small_size hsx
  have hzy := small_size hsy
  have HSm : Hid (∀ (w' : World) (Q Q' : Nat → Prop) k n p q k' n' p' q' s s' A A' m m' c c', TrC Q w' x (c6 k n p q s A m c) → TrC Q' w' x (c6 k' n' p' q' s' A' m' c') → Calls Tryd.prog 7 #[.agg #[.int .i64 k, .int .i64 n, .int .i64 p, .int .i64 q, .string s, .slice A m c], .agg #[.int .i64 k', .int .i64 n', .int .i64 p', .int .i64 q', .string s', .slice A' m' c']] w' (Ret w' (.bool true))) := fun w' Q Q' k n p q k' n' p' q' s s' A A' m m' c c' h h' => by
    have := same_c x.size x x Q Q' w' k n p q k' n' p' q' s s' A A' m m' c c' (Nat.le_refl _) (by omega) (by omega) h h'
    rw [same_eq] at this; exact this
  have m1 : decide (400 < (s.size : Int)) = false := decide_eq_false (by omega)
  have m2 : decide (400 < (t.size : Int)) = false := decide_eq_false (by omega)
  have HO := Lib.hid (ops_at hi1)
  rw [← hOP] at HO
  have HE := Lib.hid hE
  have HI := Lib.hid (And.intro hi1 (And.intro hzx hzy))
  have hi0 : (0 : Int) ≤ (i : Int) := by omega
  have hi11 : (i : Int) < 11 := by omega
  rw [hsm, if_neg (by simp)] at H4
  unfold ParseR at H1 H2 H3 H4
  dsimp only at H1 H2 H3 H4
  have HWs : Hid ((wantT i x y).size ≤ 401) := by
    show _ ≤ _
    unfold wantT
    split <;> (rw [nd_size2]; omega)
  have HWq : Hid (200 < (wantT i x y).size ∨ ((wantT i x y).size ≤ 200 ∧ 20 < (wantT i x y).depth)) := by
    unfold smallB at hsm
    simp only [Bool.and_eq_false_iff, decide_eq_false_iff_not] at hsm
    show _ ∨ _
    omega
  have HI8 := Lib.hid h8
  have q1 : decide (8 < u % 11) = true := decide_eq_true (by omega)
  have q2 : decide (8 < (i : Int)) = true := decide_eq_true (by omega)
  clear h8 hsm
  clear hE hs ht hx hy hsx hsy hzx hzy hJ hJ1 hJ2 hK hK1 hK2 hK3 hK4 hK5 hK6 hOP hOl j1 k1 k2 k3 k4 k5
  go_enter Tryd.func3, Tryd.ntmps3
  go_wp2_with fail
  refine HA.out.mono ?_
  rintro e w0 ⟨rfl, hx0⟩
  have HX0 := Lib.hid hx0
  clear hx0
  go_wp2_with fail
  refine (H1.out _ HX0.out).mono ?_
  rintro e w1 ⟨k, n, p, q, S, A, m, c, rfl, ht1, hx1⟩
  have HT1 := Lib.hid ht1
  have HX1 : Hid (Ex w w1) := HX0.out.trans hx1
  clear ht1 hx1
  go_wp2_with fail
  refine (H2.out _ ((HX1.out.alloc _).alloc _)).mono ?_
  rintro e w2 ⟨k', n', p', q', S', A', m', c', rfl, ht2, hx2⟩
  have B1 : Hid (Blk w2 w1.heap.size 25 (c6 k n p q S A m c)) := ((Blk.new w1 _ _).alloc _).ex hx2
  have HT1' := Lib.hid (((HT1.out.ex ((Ex.refl _).alloc _)).ex ((Ex.refl _).alloc _)).ex hx2)
  have HT2 := Lib.hid ht2
  have HX2 : Hid (Ex w w2) := ((HX1.out.alloc _).alloc _).trans hx2
  clear ht2 hx2
  go_wp2_with fail
  refine (H3.out _ ((HX2.out.alloc _).alloc _)).mono ?_
  rintro e w3 ⟨k3, n3, p3, q3, S3, A3, m3, c3, rfl, ht3, hx3⟩
  have B1' := Lib.hid (((B1.out.alloc _).alloc _).ex hx3)
  have B2 : Hid (Blk w3 w2.heap.size 25 (c6 k' n' p' q' S' A' m' c')) := ((Blk.new w2 _ _).alloc _).ex hx3
  have HT1 := Lib.hid (((HT1'.out.ex ((Ex.refl _).alloc _)).ex ((Ex.refl _).alloc _)).ex hx3)
  have HT2 := Lib.hid (((HT2.out.ex ((Ex.refl _).alloc _)).ex ((Ex.refl _).alloc _)).ex hx3)
  have HT3 := Lib.hid ht3
  have HX3 : Hid (Ex w w3) := ((HX2.out.alloc _).alloc _).trans hx3
  have l1 := B1'.out.lt
  have r0 := B1'.out.cell 0
  have r1 := B1'.out.cell 1
  have r2 := B1'.out.cell 2
  have r3 := B1'.out.cell 3
  have r4 := B1'.out.cell 4
  have r5 := B1'.out.cell 5
  simp only [List.getElem?_cons_zero, List.getElem?_cons_succ] at r0 r1 r2 r3 r4 r5
  clear ht3 hx3 B1
  go_wp2_with fail
  refine (HSm.out _ _ _ k n p q k3 n3 p3 q3 S S3 A A3 m m3 c c3 ((HT1.out.ex ((Ex.refl _).alloc _)).ex ((Ex.refl _).alloc _)) ((HT3.out.ex ((Ex.refl _).alloc _)).ex ((Ex.refl _).alloc _))).mono ?_
  rintro e w4 ⟨rfl, hx4⟩
  have B1 := Lib.hid (((B1'.out.alloc _).alloc _).ex hx4)
  have B2' := Lib.hid (((B2.out.alloc _).alloc _).ex hx4)
  have HT1' := Lib.hid (((HT1.out.ex ((Ex.refl _).alloc _)).ex ((Ex.refl _).alloc _)).ex hx4)
  have HT2' := Lib.hid (((HT2.out.ex ((Ex.refl _).alloc _)).ex ((Ex.refl _).alloc _)).ex hx4)
  have HX4 : Hid (Ex w w4) := ((HX3.out.alloc _).alloc _).trans hx4
  clear hx4 B1' B2 HT1 HT2 HT3 l1 r0 r1 r2 r3 r4 r5
  go_upto_region 15 with fail
  obtain ⟨W5, hW5⟩ : ∃ W5, W5 = (w4.alloc (.cells #[.string ⟨#[43]⟩, .string ⟨#[45]⟩, .string ⟨#[42]⟩, .string ⟨#[61]⟩, .string ⟨#[33, 61]⟩, .string ⟨#[60]⟩, .string ⟨#[60, 61]⟩, .string ⟨#[97, 110, 100]⟩, .string ⟨#[111, 114]⟩, .string ⟨#[62]⟩, .string ⟨#[62, 61]⟩] 9)).alloc (.cells #[.int .i64 6, .int .i64 7, .int .i64 8, .int .i64 9, .int .i64 10, .int .i64 11, .int .i64 12, .int .i64 16, .int .i64 17, .int .i64 11, .int .i64 12] 3) := ⟨_, rfl⟩
  rw [← hW5]
  have O5 : Hid (Blk W5 w4.heap.size 9 opsV) := by rw [hW5]; exact (Blk.new w4 _ _).alloc _
  have N5 : Hid (Blk W5 (w4.heap.size + 1) 3 kindsV) := by rw [hW5]; exact Blk.new' _ (by simp) _ _
  have hx5 : Ex w4 W5 := by rw [hW5]; exact ((Ex.refl _).alloc _).alloc _
  have B1' := Lib.hid (B1.out.ex hx5)
  have B2 := Lib.hid (B2'.out.ex hx5)
  have HT1 := Lib.hid (HT1'.out.ex hx5)
  have HT2 := Lib.hid (HT2'.out.ex hx5)
  have HX5 := Lib.hid (HX4.out.trans hx5)
  have lo := O5.out.lt
  have co : W5.cell? ⟨w4.heap.size, i, none⟩ = some (.string OP) := (O5.out.cell i).trans HO.out.1
  clear hW5 hx5 B1 B2' HT1' HT2'
  go_wp2_with fail
  refine (H4.out _ HX5.out).mono ?_
  rintro e w6 ⟨rfl, hx6⟩
  have B1 := Lib.hid (B1'.out.ex hx6)
  have B2' := Lib.hid (B2.out.ex hx6)
  have N6 := Lib.hid (N5.out.ex hx6)
  have HT1' := Lib.hid (HT1.out.ex hx6)
  have HT2' := Lib.hid (HT2.out.ex hx6)
  have HX6 : Hid (Ex w w6) := HX5.out.trans hx6
  clear hx6 B1' B2 HT1 HT2 lo co
  go_upto_region 16 with fail
  generalize w4.heap.size + 1 = nb at *
  obtain ⟨W7, hW7⟩ : ∃ W7, W7 = (w6.alloc (.cells #[.int .i64 0, .int .i64 0, .int .i64 0, .int .i64 0, .string ⟨#[]⟩, .slice none 0 0] 25)).alloc (.cells #[.int .i64 0, .int .i64 0] 27) := ⟨_, rfl⟩
  rw [← hW7]
  have hx7 : Ex w6 W7 := by rw [hW7]; exact ((Ex.refl _).alloc _).alloc _
  have B6 : Hid (Blk W7 w6.heap.size 25 (c6 0 0 0 0 ⟨#[]⟩ none 0 0)) := by rw [hW7]; exact (Blk.new w6 _ _).alloc _
  have B1' := Lib.hid (B1.out.ex hx7)
  have B2 := Lib.hid (B2'.out.ex hx7)
  have N7 := Lib.hid (N6.out.ex hx7)
  have HT1 : Hid (TrC (fun b => b < W7.heap.size) W7 x (c6 k n p q S A m c)) := (HT1'.out.ex hx7).imp (fun b h _ => h)
  have HT2 : Hid (TrC (fun b => b < W7.heap.size) W7 y (c6 k' n' p' q' S' A' m' c')) := (HT2'.out.ex hx7).imp (fun b h _ => h)
  have HX7 := Lib.hid (HX6.out.trans hx7)
  have l6 := B6.out.lt
  have l1 := B1'.out.lt
  have l2 := B2.out.lt
  have ln := N7.out.lt
  have cn : W7.cell? ⟨nb, i, none⟩ = some (.int .i64 (opK i)) := (N7.out.cell i).trans HO.out.2
  have r0 := B1'.out.cell 0
  have r1 := B1'.out.cell 1
  have r2 := B1'.out.cell 2
  have r3 := B1'.out.cell 3
  have r4 := B1'.out.cell 4
  have r5 := B1'.out.cell 5
  simp only [List.getElem?_cons_zero, List.getElem?_cons_succ] at r0 r1 r2 r3 r4 r5
  have s0 := B2.out.cell 0
  have s1 := B2.out.cell 1
  have s2 := B2.out.cell 2
  have s3 := B2.out.cell 3
  have s4 := B2.out.cell 4
  have s5 := B2.out.cell 5
  simp only [List.getElem?_cons_zero, List.getElem?_cons_succ] at s0 s1 s2 s3 s4 s5
  clear hW7 hx7 B1 B2' HT1' HT2' 
  go_region
  · obtain ⟨W8, hW8⟩ : ∃ W8, W8 = ((W7.alloc (.cells #[.int .i64 k, .int .i64 n, .int .i64 p, .int .i64 q, .string S, .slice A m c, .int .i64 k', .int .i64 n', .int .i64 p', .int .i64 q', .string S', .slice A' m' c'] 25)).alloc (.cells #[.int .i64 (opK i), .int .i64 0, .int .i64 0, .int .i64 0, .string ⟨#[]⟩, .slice (some ⟨W7.heap.size, 0, none⟩) 2 2] 25)).drew := ⟨_, rfl⟩
    rw [← hW8]
    have hx8 : Ex W7 W8 := by rw [hW8]; exact (((Ex.refl _).alloc _).alloc _).drew
    have hs8 : W8.heap.size = W7.heap.size + 1 + 1 := by rw [hW8]; simp [World.drew]
    have hbS : Blk W8 W7.heap.size 25 [.int .i64 k, .int .i64 n, .int .i64 p, .int .i64 q, .string S, .slice A m c, .int .i64 k', .int .i64 n', .int .i64 p', .int .i64 q', .string S', .slice A' m' c'] := by rw [hW8]; exact Blk.drew ((Blk.new W7 _ _).alloc _)
    have hbW : Blk W8 (W7.heap.size + 1) 25 [.int .i64 (opK i), .int .i64 0, .int .i64 0, .int .i64 0, .string ⟨#[]⟩, .slice (some ⟨W7.heap.size, 0, none⟩) 2 2] := by rw [hW8]; exact Blk.drew (Blk.new' _ (by simp) _ _)
    clear hW8
    generalize hWB : (W7.heap.size + 1) = WB at hbW ⊢
    generalize hSB : W7.heap.size = SB at hbS hbW ⊢
    have hlw : W7.heap.size ≤ WB := by omega
    have BS := Lib.hid hbS
    have BW := Lib.hid hbW
    have B1 := Lib.hid (B1'.out.ex hx8)
    have B2' := Lib.hid (B2.out.ex hx8)
    have B6' := Lib.hid (B6.out.ex hx8)
    have HT1' := Lib.hid (HT1.out.ex hx8)
    have HT2' := Lib.hid (HT2.out.ex hx8)
    have HX8 := Lib.hid (HX7.out.trans hx8)
    have HL8 : Hid (W7.heap.size ≤ WB ∧ w6.heap.size < W7.heap.size ∧ w.heap.size ≤ W7.heap.size) := ⟨hlw, l6, HX7.out.below.size⟩
    clear hx8 hbS hbW B1' B2 B6 HT1 HT2 l1 l2 l6 ln cn r0 r1 r2 r3 r4 r5 s0 s1 s2 s3 s4 s5 hs8 hlw hSB hWB
    have hb1 := B1.out
    have l1 := hb1.lt
    have r0 := hb1.cell 0
    have r1 := hb1.cell 1
    have r2 := hb1.cell 2
    have r3 := hb1.cell 3
    have r4 := hb1.cell 4
    have r5 := hb1.cell 5
    simp only [List.getElem?_cons_zero, List.getElem?_cons_succ] at r0 r1 r2 r3 r4 r5
    have hb2 := B2'.out
    have l2 := hb2.lt
    have s0 := hb2.cell 0
    have s1 := hb2.cell 1
    have s2 := hb2.cell 2
    have s3 := hb2.cell 3
    have s4 := hb2.cell 4
    have s5 := hb2.cell 5
    simp only [List.getElem?_cons_zero, List.getElem?_cons_succ] at s0 s1 s2 s3 s4 s5
    have hw := BW.out
    have lw := hw.lt
    have v5 := hw.cell 5
    simp only [List.getElem?_cons_zero, List.getElem?_cons_succ] at v5
    have g5 := hw.frozen 5
    clear hb1 hb2 hw
    go_upto_region 19 with fail
    obtain ⟨W9, hW9⟩ : ∃ W9, W9 = (W8.setCell ⟨WB, 5, none⟩ (.slice (some ⟨W8.heap.size, 0, none⟩) 2 2)).alloc (.cells #[.int .i64 k', .int .i64 n', .int .i64 p', .int .i64 q', .string S', .slice A' m' c', .int .i64 k, .int .i64 n, .int .i64 p, .int .i64 q, .string S, .slice A m c] 25) := ⟨_, rfl⟩
    rw [← hW9]
    have hsz : (W8.setCell ⟨WB, 5, none⟩ (.slice (some ⟨W8.heap.size, 0, none⟩) 2 2)).heap.size = W8.heap.size := by simp [World.setCell]
    have BS9 : Blk W9 W8.heap.size 25 [.int .i64 k', .int .i64 n', .int .i64 p', .int .i64 q', .string S', .slice A' m' c', .int .i64 k, .int .i64 n, .int .i64 p, .int .i64 q, .string S, .slice A m c] := by rw [hW9]; exact Blk.new' _ hsz.symm _ _
    have BW9 : Hid (Blk W9 WB 25 [.int .i64 (opK i), .int .i64 0, .int .i64 0, .int .i64 0, .string ⟨#[]⟩, .slice (some ⟨W8.heap.size, 0, none⟩) 2 2]) := by rw [hW9]; exact (BW.out.set_ 5 _).alloc _
    have B69 : Hid (Blk W9 w6.heap.size 25 (c6 0 0 0 0 ⟨#[]⟩ none 0 0)) := by rw [hW9]; exact (B6'.out.far (by show w6.heap.size ≠ WB; have := HL8.out; omega) _).alloc _
    have HX9 : Hid (Ex w W9) := by rw [hW9]; exact (HX8.out.setCell (by show w.heap.size ≤ WB; have := HL8.out; omega) _).alloc _
    have hq : ∀ {t : Tr} {cs : List Value}, TrC (fun b => b < W7.heap.size) W8 t cs → TrC (fun _ => True) W9 t cs := fun {t cs} h => by
      rw [hW9]
      exact ((h.far (fun b hb => by show b ≠ WB; have hb' : b < W7.heap.size := hb; have := HL8.out; omega) _).ex ((Ex.refl _).alloc _)).imp (fun _ _ _ => trivial)
    have HTW : Hid (TrC (fun _ => True) W9 (wantT i x y) (c6 (opK i) 0 0 0 ⟨#[]⟩ (some ⟨W8.heap.size, 0, none⟩) 2 2)) := by
      unfold wantT
      rw [if_pos (by have := HI8.out; omega)]
      exact TrC.two (hq HT2'.out) (hq HT1'.out) (opK i) BS9 trivial
    clear hW9 hsz BS9 hq l1 l2 lw v5 g5 r0 r1 r2 r3 r4 r5 s0 s1 s2 s3 s4 s5 HT1' HT2' BW BS B1 B2' B6'
    have hw := BW9.out
    have lw := hw.lt
    have v0 := hw.cell 0
    have v1 := hw.cell 1
    have v2 := hw.cell 2
    have v3 := hw.cell 3
    have v4 := hw.cell 4
    have v5 := hw.cell 5
    simp only [List.getElem?_cons_zero, List.getElem?_cons_succ] at v0 v1 v2 v3 v4 v5
    have d6 := B69.out
    have l6 := d6.lt
    have y0 := d6.cell 0
    have y1 := d6.cell 1
    have y2 := d6.cell 2
    have y3 := d6.cell 3
    have y4 := d6.cell 4
    have y5 := d6.cell 5
    simp only [List.getElem?_cons_zero, List.getElem?_cons_succ] at y0 y1 y2 y3 y4 y5
    clear hw d6
    have HSz : Hid (∀ w', Ex W9 w' → Calls Tryd.prog 8 #[.agg #[.int .i64 (opK i), .int .i64 0, .int .i64 0, .int .i64 0, .string ⟨#[]⟩, .slice (some ⟨W8.heap.size, 0, none⟩) 2 2]] w' (Ret w' (.int .i64 ((wantT i x y).size : Nat)))) := fun w' hX => rSize_c (wantT i x y).size (wantT i x y) _ w' (opK i) 0 0 0 ⟨#[]⟩ (some ⟨W8.heap.size, 0, none⟩) 2 2 (Nat.le_refl _) (by have := HWs.out; omega) (HTW.out.ex hX)
    have HDp : Hid (∀ w', Ex W9 w' → Calls Tryd.prog 9 #[.agg #[.int .i64 (opK i), .int .i64 0, .int .i64 0, .int .i64 0, .string ⟨#[]⟩, .slice (some ⟨W8.heap.size, 0, none⟩) 2 2]] w' (Ret w' (.int .i64 ((wantT i x y).depth : Nat)))) := fun w' hX => rDepth_c (wantT i x y).size (wantT i x y) _ w' (opK i) 0 0 0 ⟨#[]⟩ (some ⟨W8.heap.size, 0, none⟩) 2 2 (Nat.le_refl _) (by have := HWs.out; omega) (HTW.out.ex hX)
    have HZe : Hid (∀ w', Calls Tryd.prog 10 #[.agg #[.int .i64 0, .int .i64 0, .int .i64 0, .int .i64 0, .string ⟨#[]⟩, .slice none 0 0]] w' (Ret w' (.bool true))) := fun w' => by
      have := zero_c (nd 0 []) (fun _ => True) w' 0 0 0 0 ⟨#[]⟩ none 0 0 (by rw [nd_size0]; omega) (.leaf 0 0 0 0 ⟨#[]⟩ none 0)
      rw [same_eq] at this; exact this
    rcases HWq.out with hq1 | hq1
    · have z1 : decide (200 < (((wantT i x y).size : Nat) : Int)) = true := decide_eq_true (by omega)
      generalize (wantT i x y).size = WS at *
      generalize (wantT i x y).depth = WD at *
      clear HTW hq1
      go_wp2_with fail
      refine (HSz.out _ (Ex.refl _)).mono ?_
      rintro e w10 ⟨rfl, hx10⟩
      have e10 := B69.out.ex hx10
      have le10 := e10.lt
      have y0 := e10.cell 0
      have y1 := e10.cell 1
      have y2 := e10.cell 2
      have y3 := e10.cell 3
      have y4 := e10.cell 4
      have y5 := e10.cell 5
      simp only [List.getElem?_cons_zero, List.getElem?_cons_succ] at y0 y1 y2 y3 y4 y5
      have HX10 := Lib.hid hx10
      clear e10 hx10
      go_wp2_with fail
      refine (HZe.out _).mono ?_
      rintro e w12 ⟨rfl, z12, rfl⟩
      go_wp2_with fail
      go_ret
      exact Ret.mk rfl ((HX9.out.trans HX10.out).ext _)
    · have z1 : decide (200 < (((wantT i x y).size : Nat) : Int)) = false := decide_eq_false (by omega)
      have z2 : decide (20 < (((wantT i x y).depth : Nat) : Int)) = true := decide_eq_true (by omega)
      generalize (wantT i x y).size = WS at *
      generalize (wantT i x y).depth = WD at *
      clear HTW hq1
      go_wp2_with fail
      refine (HSz.out _ (Ex.refl _)).mono ?_
      rintro e w10 ⟨rfl, hx10⟩
      have b10 := BW9.out.ex hx10
      have lw10 := b10.lt
      have v0 := b10.cell 0
      have v1 := b10.cell 1
      have v2 := b10.cell 2
      have v3 := b10.cell 3
      have v4 := b10.cell 4
      have v5 := b10.cell 5
      simp only [List.getElem?_cons_zero, List.getElem?_cons_succ] at v0 v1 v2 v3 v4 v5
      have HX10 := Lib.hid hx10
      clear b10 hx10
      go_wp2_with fail
      refine (HDp.out _ HX10.out).mono ?_
      rintro e w11 ⟨rfl, hx11⟩
      have HX11 := Lib.hid (HX10.out.trans hx11)
      have e11 := B69.out.ex HX11.out
      have le11 := e11.lt
      have y0 := e11.cell 0
      have y1 := e11.cell 1
      have y2 := e11.cell 2
      have y3 := e11.cell 3
      have y4 := e11.cell 4
      have y5 := e11.cell 5
      simp only [List.getElem?_cons_zero, List.getElem?_cons_succ] at y0 y1 y2 y3 y4 y5
      clear e11 hx11
      go_wp2_with fail
      refine (HZe.out _).mono ?_
      rintro e w12 ⟨rfl, z12, rfl⟩
      go_wp2_with fail
      go_ret
      exact Ret.mk rfl ((HX9.out.trans HX11.out).ext _)
  · obtain ⟨W8, hW8⟩ : ∃ W8, W8 = ((W7.alloc (.cells #[.int .i64 (opK i), .int .i64 0, .int .i64 0, .int .i64 0, .string ⟨#[]⟩, .slice (some ⟨W7.heap.size + 1, 0, none⟩) 2 2] 25)).alloc (.cells #[.int .i64 k, .int .i64 n, .int .i64 p, .int .i64 q, .string S, .slice A m c, .int .i64 k', .int .i64 n', .int .i64 p', .int .i64 q', .string S', .slice A' m' c'] 25)).drew := ⟨_, rfl⟩
    rw [← hW8]
    have hx8 : Ex W7 W8 := by rw [hW8]; exact (((Ex.refl _).alloc _).alloc _).drew
    have hs8 : W8.heap.size = W7.heap.size + 1 + 1 := by rw [hW8]; simp [World.drew]
    have hbS : Blk W8 (W7.heap.size + 1) 25 [.int .i64 k, .int .i64 n, .int .i64 p, .int .i64 q, .string S, .slice A m c, .int .i64 k', .int .i64 n', .int .i64 p', .int .i64 q', .string S', .slice A' m' c'] := by rw [hW8]; exact Blk.drew (Blk.new' _ (by simp) _ _)
    have hbW : Blk W8 W7.heap.size 25 [.int .i64 (opK i), .int .i64 0, .int .i64 0, .int .i64 0, .string ⟨#[]⟩, .slice (some ⟨W7.heap.size + 1, 0, none⟩) 2 2] := by rw [hW8]; exact Blk.drew ((Blk.new W7 _ _).alloc _)
    clear hW8
    generalize hSB : (W7.heap.size + 1) = SB at hbS hbW ⊢
    generalize hWB : W7.heap.size = WB at hbW ⊢
    have hlw : W7.heap.size ≤ WB := by omega
    have BS := Lib.hid hbS
    have BW := Lib.hid hbW
    have B1 := Lib.hid (B1'.out.ex hx8)
    have B2' := Lib.hid (B2.out.ex hx8)
    have B6' := Lib.hid (B6.out.ex hx8)
    have HT1' := Lib.hid (HT1.out.ex hx8)
    have HT2' := Lib.hid (HT2.out.ex hx8)
    have HX8 := Lib.hid (HX7.out.trans hx8)
    have HL8 : Hid (W7.heap.size ≤ WB ∧ w6.heap.size < W7.heap.size ∧ w.heap.size ≤ W7.heap.size) := ⟨hlw, l6, HX7.out.below.size⟩
    clear hx8 hbS hbW B1' B2 B6 HT1 HT2 l1 l2 l6 ln cn r0 r1 r2 r3 r4 r5 s0 s1 s2 s3 s4 s5 hs8 hlw hSB hWB
    have hb1 := B1.out
    have l1 := hb1.lt
    have r0 := hb1.cell 0
    have r1 := hb1.cell 1
    have r2 := hb1.cell 2
    have r3 := hb1.cell 3
    have r4 := hb1.cell 4
    have r5 := hb1.cell 5
    simp only [List.getElem?_cons_zero, List.getElem?_cons_succ] at r0 r1 r2 r3 r4 r5
    have hb2 := B2'.out
    have l2 := hb2.lt
    have s0 := hb2.cell 0
    have s1 := hb2.cell 1
    have s2 := hb2.cell 2
    have s3 := hb2.cell 3
    have s4 := hb2.cell 4
    have s5 := hb2.cell 5
    simp only [List.getElem?_cons_zero, List.getElem?_cons_succ] at s0 s1 s2 s3 s4 s5
    have hw := BW.out
    have lw := hw.lt
    have v5 := hw.cell 5
    simp only [List.getElem?_cons_zero, List.getElem?_cons_succ] at v5
    have g5 := hw.frozen 5
    clear hb1 hb2 hw
    go_upto_region 19 with fail
    obtain ⟨W9, hW9⟩ : ∃ W9, W9 = (W8.setCell ⟨WB, 5, none⟩ (.slice (some ⟨W8.heap.size, 0, none⟩) 2 2)).alloc (.cells #[.int .i64 k', .int .i64 n', .int .i64 p', .int .i64 q', .string S', .slice A' m' c', .int .i64 k, .int .i64 n, .int .i64 p, .int .i64 q, .string S, .slice A m c] 25) := ⟨_, rfl⟩
    rw [← hW9]
    have hsz : (W8.setCell ⟨WB, 5, none⟩ (.slice (some ⟨W8.heap.size, 0, none⟩) 2 2)).heap.size = W8.heap.size := by simp [World.setCell]
    have BS9 : Blk W9 W8.heap.size 25 [.int .i64 k', .int .i64 n', .int .i64 p', .int .i64 q', .string S', .slice A' m' c', .int .i64 k, .int .i64 n, .int .i64 p, .int .i64 q, .string S, .slice A m c] := by rw [hW9]; exact Blk.new' _ hsz.symm _ _
    have BW9 : Hid (Blk W9 WB 25 [.int .i64 (opK i), .int .i64 0, .int .i64 0, .int .i64 0, .string ⟨#[]⟩, .slice (some ⟨W8.heap.size, 0, none⟩) 2 2]) := by rw [hW9]; exact (BW.out.set_ 5 _).alloc _
    have B69 : Hid (Blk W9 w6.heap.size 25 (c6 0 0 0 0 ⟨#[]⟩ none 0 0)) := by rw [hW9]; exact (B6'.out.far (by show w6.heap.size ≠ WB; have := HL8.out; omega) _).alloc _
    have HX9 : Hid (Ex w W9) := by rw [hW9]; exact (HX8.out.setCell (by show w.heap.size ≤ WB; have := HL8.out; omega) _).alloc _
    have hq : ∀ {t : Tr} {cs : List Value}, TrC (fun b => b < W7.heap.size) W8 t cs → TrC (fun _ => True) W9 t cs := fun {t cs} h => by
      rw [hW9]
      exact ((h.far (fun b hb => by show b ≠ WB; have hb' : b < W7.heap.size := hb; have := HL8.out; omega) _).ex ((Ex.refl _).alloc _)).imp (fun _ _ _ => trivial)
    have HTW : Hid (TrC (fun _ => True) W9 (wantT i x y) (c6 (opK i) 0 0 0 ⟨#[]⟩ (some ⟨W8.heap.size, 0, none⟩) 2 2)) := by
      unfold wantT
      rw [if_pos (by have := HI8.out; omega)]
      exact TrC.two (hq HT2'.out) (hq HT1'.out) (opK i) BS9 trivial
    clear hW9 hsz BS9 hq l1 l2 lw v5 g5 r0 r1 r2 r3 r4 r5 s0 s1 s2 s3 s4 s5 HT1' HT2' BW BS B1 B2' B6'
    have hw := BW9.out
    have lw := hw.lt
    have v0 := hw.cell 0
    have v1 := hw.cell 1
    have v2 := hw.cell 2
    have v3 := hw.cell 3
    have v4 := hw.cell 4
    have v5 := hw.cell 5
    simp only [List.getElem?_cons_zero, List.getElem?_cons_succ] at v0 v1 v2 v3 v4 v5
    have d6 := B69.out
    have l6 := d6.lt
    have y0 := d6.cell 0
    have y1 := d6.cell 1
    have y2 := d6.cell 2
    have y3 := d6.cell 3
    have y4 := d6.cell 4
    have y5 := d6.cell 5
    simp only [List.getElem?_cons_zero, List.getElem?_cons_succ] at y0 y1 y2 y3 y4 y5
    clear hw d6
    have HSz : Hid (∀ w', Ex W9 w' → Calls Tryd.prog 8 #[.agg #[.int .i64 (opK i), .int .i64 0, .int .i64 0, .int .i64 0, .string ⟨#[]⟩, .slice (some ⟨W8.heap.size, 0, none⟩) 2 2]] w' (Ret w' (.int .i64 ((wantT i x y).size : Nat)))) := fun w' hX => rSize_c (wantT i x y).size (wantT i x y) _ w' (opK i) 0 0 0 ⟨#[]⟩ (some ⟨W8.heap.size, 0, none⟩) 2 2 (Nat.le_refl _) (by have := HWs.out; omega) (HTW.out.ex hX)
    have HDp : Hid (∀ w', Ex W9 w' → Calls Tryd.prog 9 #[.agg #[.int .i64 (opK i), .int .i64 0, .int .i64 0, .int .i64 0, .string ⟨#[]⟩, .slice (some ⟨W8.heap.size, 0, none⟩) 2 2]] w' (Ret w' (.int .i64 ((wantT i x y).depth : Nat)))) := fun w' hX => rDepth_c (wantT i x y).size (wantT i x y) _ w' (opK i) 0 0 0 ⟨#[]⟩ (some ⟨W8.heap.size, 0, none⟩) 2 2 (Nat.le_refl _) (by have := HWs.out; omega) (HTW.out.ex hX)
    have HZe : Hid (∀ w', Calls Tryd.prog 10 #[.agg #[.int .i64 0, .int .i64 0, .int .i64 0, .int .i64 0, .string ⟨#[]⟩, .slice none 0 0]] w' (Ret w' (.bool true))) := fun w' => by
      have := zero_c (nd 0 []) (fun _ => True) w' 0 0 0 0 ⟨#[]⟩ none 0 0 (by rw [nd_size0]; omega) (.leaf 0 0 0 0 ⟨#[]⟩ none 0)
      rw [same_eq] at this; exact this
    rcases HWq.out with hq1 | hq1
    · have z1 : decide (200 < (((wantT i x y).size : Nat) : Int)) = true := decide_eq_true (by omega)
      generalize (wantT i x y).size = WS at *
      generalize (wantT i x y).depth = WD at *
      clear HTW hq1
      go_wp2_with fail
      refine (HSz.out _ (Ex.refl _)).mono ?_
      rintro e w10 ⟨rfl, hx10⟩
      have e10 := B69.out.ex hx10
      have le10 := e10.lt
      have y0 := e10.cell 0
      have y1 := e10.cell 1
      have y2 := e10.cell 2
      have y3 := e10.cell 3
      have y4 := e10.cell 4
      have y5 := e10.cell 5
      simp only [List.getElem?_cons_zero, List.getElem?_cons_succ] at y0 y1 y2 y3 y4 y5
      have HX10 := Lib.hid hx10
      clear e10 hx10
      go_wp2_with fail
      refine (HZe.out _).mono ?_
      rintro e w12 ⟨rfl, z12, rfl⟩
      go_wp2_with fail
      go_ret
      exact Ret.mk rfl ((HX9.out.trans HX10.out).ext _)
    · have z1 : decide (200 < (((wantT i x y).size : Nat) : Int)) = false := decide_eq_false (by omega)
      have z2 : decide (20 < (((wantT i x y).depth : Nat) : Int)) = true := decide_eq_true (by omega)
      generalize (wantT i x y).size = WS at *
      generalize (wantT i x y).depth = WD at *
      clear HTW hq1
      go_wp2_with fail
      refine (HSz.out _ (Ex.refl _)).mono ?_
      rintro e w10 ⟨rfl, hx10⟩
      have b10 := BW9.out.ex hx10
      have lw10 := b10.lt
      have v0 := b10.cell 0
      have v1 := b10.cell 1
      have v2 := b10.cell 2
      have v3 := b10.cell 3
      have v4 := b10.cell 4
      have v5 := b10.cell 5
      simp only [List.getElem?_cons_zero, List.getElem?_cons_succ] at v0 v1 v2 v3 v4 v5
      have HX10 := Lib.hid hx10
      clear b10 hx10
      go_wp2_with fail
      refine (HDp.out _ HX10.out).mono ?_
      rintro e w11 ⟨rfl, hx11⟩
      have HX11 := Lib.hid (HX10.out.trans hx11)
      have e11 := B69.out.ex HX11.out
      have le11 := e11.lt
      have y0 := e11.cell 0
      have y1 := e11.cell 1
      have y2 := e11.cell 2
      have y3 := e11.cell 3
      have y4 := e11.cell 4
      have y5 := e11.cell 5
      simp only [List.getElem?_cons_zero, List.getElem?_cons_succ] at y0 y1 y2 y3 y4 y5
      clear e11 hx11
      go_wp2_with fail
      refine (HZe.out _).mono ?_
      rintro e w12 ⟨rfl, z12, rfl⟩
      go_wp2_with fail
      go_ret
      exact Ret.mk rfl ((HX9.out.trans HX11.out).ext _)
theorem parens_law_c (s t : ByteArray) (u : Int) (w : World) (hE : Envw w) (hu0 : 0 ≤ u) (hu1 : u ≤ 255) : Calls Tryd.prog 3 #[.string s, .string t, .int .u8 u] w (Ret w (.bool true)) := by
  by_cases h0 : 400 < s.size ∨ 400 < t.size
  · exact parens_long s t u w hE h0
  · cases hx : parseO s.data.toList with
    | err p n => exact parens_bad s t u w hE (by omega) (by omega) (.inl (by rw [hx]; rfl))
    | tree x =>
      cases hy : parseO t.data.toList with
      | err p n => exact parens_bad s t u w hE (by omega) (by omega) (.inr (by rw [hy]; rfl))
      | tree y =>
        obtain ⟨i, hi⟩ : ∃ i : Nat, u % 11 = (i : Int) := ⟨(u % 11).toNat, by omega⟩
        have hi1 : i < 11 := by omega
        by_cases h8 : 8 < i
        · cases hsm : smallB (wantT i x y) with
          | true => exact parens_goodS2 s t u i w hE (by omega) (by omega) hu0 hu1 hi hi1 x y hx hy hsm h8
          | false => exact parens_goodF2 s t u i w hE (by omega) (by omega) hu0 hu1 hi hi1 x y hx hy hsm h8
        · cases hsm : smallB (wantT i x y) with
          | true => exact parens_goodS1 s t u i w hE (by omega) (by omega) hu0 hu1 hi hi1 x y hx hy hsm (by omega)
          | false => exact parens_goodF1 s t u i w hE (by omega) (by omega) hu0 hu1 hi hi1 x y hx hy hsm (by omega)
end Go.Proofs.YthjalkonlcjhnaaDoor
