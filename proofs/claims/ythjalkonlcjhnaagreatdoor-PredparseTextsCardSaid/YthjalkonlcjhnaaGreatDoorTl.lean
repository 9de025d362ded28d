/-
  The reference's process, and its resolved at counts and channels, walked. Names, the reference's, for texts of any length that Go has. The reference's resolved at variables, walked. The reference's resolved at kinds without names, walked. The reference's resolved and Resolved: their contracts.
  Conditions: as each theorem says.
-/
import Derived.Test.YthjalkonlcjhnaaGreatDoorTg
import Derived.Test.YthjalkonlcjhnaaGreatDoorRb
namespace Go.Proofs.YthjalkonlcjhnaaGreatDoor
open Go.RowKit
def procB (n : Int) : Bool := decide (0 ≤ n) && decide (n < 8)
theorem process_c (n : Int) (w : World) : Calls Tryz.prog 64 #[.int .i64 n] w (Ret w (.bool (procB n))) := by
  unfold procB
  by_cases h1 : 0 ≤ n
  · by_cases h2 : n < 8
    · rw [decide_eq_true h1, decide_eq_true h2]
      have z1 : decide (0 ≤ n) = true := decide_eq_true h1
      have z2 : decide (n < 8) = true := decide_eq_true h2
      go_enter Tryz.func64, Tryz.ntmps64
      go_wp2_with fail
      go_ret
      exact Ret.mk rfl (Ex.refl _)
    · rw [decide_eq_true h1, decide_eq_false h2]
      have z2 : decide (n < 8) = false := decide_eq_false h2
      go_enter Tryz.func64, Tryz.ntmps64
      go_wp2_with fail
      go_ret
      exact Ret.mk rfl (Ex.refl _)
  · rw [decide_eq_false h1]
    have z1 : decide (0 ≤ n) = false := decide_eq_false h1
    go_enter Tryz.func64, Tryz.ntmps64
    go_wp2_with fail
    go_ret
    exact Ret.mk rfl (Ex.refl _)
set_option maxRecDepth 20000 in
set_option maxHeartbeats 1600000 in
theorem resolved_count (n p q : Int) (s : ByteArray) (A : Option Addr) (m c : Nat) (w : World) :
    Calls Tryz.prog 37 #[.agg #[.int .i64 3, .int .i64 n, .int .i64 p, .int .i64 q, .string s, .slice A m c]] w (Ret w (.bool (procB p && decide (q = 0) && decide (s.size = 0)))) := by
  have HP := Lib.hid (fun w => process_c p w)
  cases hp : procB p with
  | false =>
    rw [hp] at HP
    clear hp
    go_enter Tryz.func37, Tryz.ntmps37
    go_wp2_with fail
    refine (HP.out _).mono ?_
    rintro e w' ⟨rfl, z1, rfl⟩
    go_wp2_with fail
    go_ret
    exact Ret.mk rfl (((Ex.refl _).alloc _).ext _)
  | true =>
    rw [hp] at HP
    clear hp
    by_cases hq : q = 0
    · rw [decide_eq_true hq]
      subst hq
      by_cases hz : s.size = 0
      · rw [decide_eq_true hz]
        have hs9 := empty_of hz
        subst hs9
        go_enter Tryz.func37, Tryz.ntmps37
        go_wp2_with fail
        refine (HP.out _).mono ?_
        rintro e w' ⟨rfl, z1, rfl⟩
        go_wp2_with fail
        go_ret
        exact Ret.mk rfl (((Ex.refl _).alloc _).ext _)
      · rw [decide_eq_false hz]
        have g1 : s.toList.isEmpty = false := by rw [nonempty_iff, decide_eq_false hz]
        have g2 : (s.toList == []) = false := by rw [beq_eq_false_iff_ne]; intro h9; rw [h9] at g1; simp at g1
        have g3 : (s.toList != []) = true := by unfold bne; rw [g2]; rfl
        go_enter Tryz.func37, Tryz.ntmps37
        go_wp2_with fail
        refine (HP.out _).mono ?_
        rintro e w' ⟨rfl, z1, rfl⟩
        go_wp2_with fail
        go_ret
        exact Ret.mk rfl (((Ex.refl _).alloc _).ext _)
    · rw [decide_eq_false hq]
      have g1 : (q == 0) = false := beq_eq_false_iff_ne.2 hq
      have g1' : (q != 0) = true := by rw [bne_iff_ne]; exact hq
      go_enter Tryz.func37, Tryz.ntmps37
      go_wp2_with fail
      refine (HP.out _).mono ?_
      rintro e w' ⟨rfl, z1, rfl⟩
      go_wp2_with fail
      go_ret
      exact Ret.mk rfl (((Ex.refl _).alloc _).ext _)
set_option maxRecDepth 20000 in
set_option maxHeartbeats 1600000 in
theorem resolved_chan (n p q : Int) (s : ByteArray) (A : Option Addr) (m c : Nat) (w : World) :
    Calls Tryz.prog 37 #[.agg #[.int .i64 4, .int .i64 n, .int .i64 p, .int .i64 q, .string s, .slice A m c]] w (Ret w (.bool (procB p && procB q && !decide (p = q) && decide (s.size = 0)))) := by
  have HP := Lib.hid (fun w => process_c p w)
  have HQ := Lib.hid (fun w => process_c q w)
  cases hp : procB p with
  | false =>
    rw [hp] at HP
    clear hp
    go_enter Tryz.func37, Tryz.ntmps37
    go_wp2_with fail
    refine (HP.out _).mono ?_
    rintro e w' ⟨rfl, z1, rfl⟩
    go_wp2_with fail
    go_ret
    exact Ret.mk rfl (((Ex.refl _).alloc _).ext _)
  | true =>
    rw [hp] at HP
    clear hp
    cases hq : procB q with
    | false =>
      rw [hq] at HQ
      clear hq
      go_enter Tryz.func37, Tryz.ntmps37
      go_wp2_with fail
      refine (HP.out _).mono ?_
      rintro e w' ⟨rfl, z1, rfl⟩
      go_wp2_with fail
      refine (HQ.out _).mono ?_
      rintro e w' ⟨rfl, z2, rfl⟩
      go_wp2_with fail
      go_ret
      exact Ret.mk rfl ((((Ex.refl _).alloc _).ext _).ext _)
    | true =>
      rw [hq] at HQ
      clear hq
      by_cases hpq : p = q
      · rw [decide_eq_true hpq]
        subst hpq
        go_enter Tryz.func37, Tryz.ntmps37
        go_wp2_with fail
        refine (HP.out _).mono ?_
        rintro e w' ⟨rfl, z1, rfl⟩
        go_wp2_with fail
        refine (HQ.out _).mono ?_
        rintro e w' ⟨rfl, z2, rfl⟩
        go_wp2_with fail
        go_ret
        exact Ret.mk rfl ((((Ex.refl _).alloc _).ext _).ext _)
      · rw [decide_eq_false hpq]
        have g7 : (p == q) = false := beq_eq_false_iff_ne.2 hpq
        have g8 : (p != q) = true := by rw [bne_iff_ne]; exact hpq
        by_cases hz : s.size = 0
        · rw [decide_eq_true hz]
          have hs9 := empty_of hz
          subst hs9
          go_enter Tryz.func37, Tryz.ntmps37
          go_wp2_with fail
          refine (HP.out _).mono ?_
          rintro e w' ⟨rfl, z1, rfl⟩
          go_wp2_with fail
          refine (HQ.out _).mono ?_
          rintro e w' ⟨rfl, z2, rfl⟩
          go_wp2_with fail
          go_ret
          exact Ret.mk rfl ((((Ex.refl _).alloc _).ext _).ext _)
        · rw [decide_eq_false hz]
          have g1 : s.toList.isEmpty = false := by rw [nonempty_iff, decide_eq_false hz]
          have g2 : (s.toList == []) = false := by rw [beq_eq_false_iff_ne]; intro h9; rw [h9] at g1; simp at g1
          have g3 : (s.toList != []) = true := by unfold bne; rw [g2]; rfl
          go_enter Tryz.func37, Tryz.ntmps37
          go_wp2_with fail
          refine (HP.out _).mono ?_
          rintro e w' ⟨rfl, z1, rfl⟩
          go_wp2_with fail
          refine (HQ.out _).mono ?_
          rintro e w' ⟨rfl, z2, rfl⟩
          go_wp2_with fail
          go_ret
          exact Ret.mk rfl ((((Ex.refl _).alloc _).ext _).ext _)
set_option maxHeartbeats 1600000 in
theorem rNamesL_c (s : ByteArray) (w : World) (h : s.size ≤ maxLen) : Calls Tryz.prog 100 #[.string s] w (Ret w (.int .i64 (nameL s.data.toList : Nat))) := by
  unfold maxLen at h
  have HF := Lib.hid rLetter_c
  have HG := Lib.hid rDigit_c
  by_cases h0 : s.size = 0
  · rw [nameL_none s h0]
    have b1 : ((s.size : Int) == 0) = true := by simp [h0]
    clear h0
    go_enter Tryz.func100, Tryz.ntmps100
    go_wp2_with fail
    go_ret
    exact Ret.mk rfl (Ex.refl _)
  · have h1 : 0 < s.size := by omega
    have b1 : ((s.size : Int) == 0) = false := beq_eq_false_iff_ne.2 (by omega)
    rw [nameL_pos s h1]
    have HF0 := Lib.hid (HF.out s[0])
    cases hl : letB s[0]
    · rw [hl] at HF0
      clear hl h0
      go_enter Tryz.func100, Tryz.ntmps100
      go_wp2_with fail
      refine (HF0.out _).mono ?_
      rintro e w' ⟨rfl, z, rfl⟩
      go_wp2_with fail
      go_ret
      exact Ret.mk (by simp) ((Ex.refl _).ext _)
    · rw [hl] at HF0
      have hp0 := let_part hl
      rw [if_pos rfl]
      have HS := Lib.hid (span_stop partB s)
      have HA := Lib.hid (span_all partB s)
      have H0 : Hid (∀ j, (hj : j < s.size) → j < 1 → partB s[j] = true) := fun j hj hjk => by
        obtain rfl : j = 0 := by omega
        exact hp0
      clear hl hp0 h0
      generalize spanL partB s.data.toList = N at *
      go_enter Tryz.func100, Tryz.ntmps100
      go_wp2_with fail
      refine (HF0.out _).mono ?_
      rintro e w' ⟨rfl, z, rfl⟩
      go_wp2_with fail
      go_loopw [3] (fun n wr => ∃ k : Nat, n = .int .i64 k ∧ 1 ≤ k ∧ k ≤ s.size ∧ Hid (∀ j, (hj : j < s.size) → j < k → partB s[j] = true) ∧ Ex w wr) (fun n _ => s.size - (intOf n).toNat)
      case atStart => exact ⟨1, rfl, by omega, by omega, H0, (Ex.refl _).ext _⟩
      case round =>
        obtain ⟨k, rfl, hk1, hk, hall, hx⟩ := hrel
        have HX := Lib.hid hx
        clear hx
        by_cases hlt : k < s.size
        · have hki : (k : Int) < (s.size : Int) := by omega
          have HF' := Lib.hid (HF.out s[k])
          have HG' := Lib.hid (HG.out s[k])
          have hb : ((s[k].toNat : Int) == 95) = decide (s[k].toNat = 95) := eq_nat _ 95
          have hpart : partB s[k] = ((letB s[k] || digB s[k]) || decide (s[k].toNat = 95)) := rfl
          have HPt := Lib.hid hpart
          have HStop := Lib.hid (HS.out k hlt hall)
          clear hpart
          have HAll : Hid (partB s[k] = true → ∀ j, (hj : j < s.size) → j < k + 1 → partB s[j] = true) := fun hp j hj hjk => by
            by_cases h : j < k
            · exact hall j hj h
            · obtain rfl : j = k := by omega
              exact hp
          generalize letB s[k] = q1 at *
          generalize digB s[k] = q2 at *
          generalize partB s[k] = q3 at *
          generalize decide (s[k].toNat = 95) = q4 at *
          cases q1 <;> cases q2 <;> cases q4
          all_goals
            have hq := HPt.out
            subst hq
          · have e := HStop.out rfl
            subst e
            go_wp2_with (first | (go_at_call 121; refine (HF'.out _).mono ?_; rintro e w' ⟨rfl, z1, rfl⟩) | (go_at_call 122; refine (HG'.out _).mono ?_; rintro e w' ⟨rfl, z2, rfl⟩))
            go_ret
            exact Ret.mk rfl ((HX.out.ext _).ext _)
          all_goals
            have HAll' := Lib.hid (HAll.out rfl)
            go_wp2_with (first | (go_at_call 121; refine (HF'.out _).mono ?_; rintro e w' ⟨rfl, z1, rfl⟩) | (go_at_call 122; refine (HG'.out _).mono ?_; rintro e w' ⟨rfl, z2, rfl⟩))
            refine ⟨⟨k + 1, by go_num, by omega, by omega, HAll'.out, by first | exact HX.out.ext _ | exact (HX.out.ext _).ext _⟩, by simp [intOf]; omega⟩
        · obtain rfl : k = s.size := by omega
          have e := HA.out (fun j hj => hall j hj hj)
          subst e
          go_wp2_with fail
          go_ret
          exact Ret.mk rfl HX.out
set_option maxHeartbeats 1600000 in
theorem rIsNameL_c (s : ByteArray) (w : World) (h : s.size ≤ maxLen) : Calls Tryz.prog 65 #[.string s] w (Ret w (.bool (nmB s.data.toList))) := by
  have HN := Lib.hid (fun w => rNamesL_c s w h)
  unfold maxLen at h
  by_cases h0 : s.size = 0
  · rw [name_nil s h0]
    have f1 : s.toList.isEmpty = true := by rw [nonempty_iff]; exact decide_eq_true h0
    clear h0
    go_enter Tryz.func65, Tryz.ntmps65
    go_wp2
    go_ret
    exact Ret.mk rfl (Ex.refl _)
  have f1 : s.toList.isEmpty = false := by rw [nonempty_iff]; exact decide_eq_false h0
  have h1 : 0 < s.size := by omega
  have hE : nmB s.data.toList = (decide (nameL s.data.toList = s.size) && decide (s.size ≤ 16)) := by
    unfold nmB
    rw [← size_data]
    by_cases hq : nameL s.data.toList = s.size
    · rw [hq, show decide (0 < s.size) = true from decide_eq_true h1]; simp
    · rw [show decide (nameL s.data.toList = s.size) = false from decide_eq_false hq]; simp
  rw [hE]
  clear hE
  generalize nameL s.data.toList = N at *
  have b1 : ((N : Int) == (s.size : Int)) = decide (N = s.size) := eq_nat N s.size
  have b2 : decide ((s.size : Int) ≤ 16) = decide (s.size ≤ 16) := by rw [Bool.eq_iff_iff]; simp; omega
  clear h0
  cases hq : decide (N = s.size)
  all_goals
    rw [hq] at b1
    clear hq
    go_enter Tryz.func65, Tryz.ntmps65
    go_wp2_with (go_at_call 100; refine (HN.out _).mono ?_; rintro e w' ⟨rfl, z, rfl⟩)
    go_ret
    exact Ret.mk (by first | (simp; done) | simp [b2]) ((Ex.refl _).ext _)
set_option maxRecDepth 20000 in
set_option maxHeartbeats 1600000 in
theorem resolved_var (n p q : Int) (s : ByteArray) (A : Option Addr) (m c : Nat) (w : World) (hs : s.size ≤ maxLen) :
    Calls Tryz.prog 37 #[.agg #[.int .i64 2, .int .i64 n, .int .i64 p, .int .i64 q, .string s, .slice A m c]] w (Ret w (.bool (procB p && decide (q = 0) && nmB s.data.toList))) := by
  have HP := Lib.hid (fun w => process_c p w)
  have HI := Lib.hid (fun w => rIsNameL_c s w hs)
  clear hs
  cases hp : procB p with
  | false =>
    rw [hp] at HP
    clear hp
    go_enter Tryz.func37, Tryz.ntmps37
    go_wp2_with fail
    refine (HP.out _).mono ?_
    rintro e w' ⟨rfl, z1, rfl⟩
    go_wp2_with fail
    go_ret
    exact Ret.mk rfl (((Ex.refl _).alloc _).ext _)
  | true =>
    rw [hp] at HP
    clear hp
    by_cases hq : q = 0
    · rw [decide_eq_true hq]
      subst hq
      generalize nmB s.data.toList = b9 at *
      cases b9 with
      | false =>
        go_enter Tryz.func37, Tryz.ntmps37
        go_wp2_with fail
        refine (HP.out _).mono ?_
        rintro e w' ⟨rfl, z1, rfl⟩
        go_wp2_with fail
        refine (HI.out _).mono ?_
        rintro e w' ⟨rfl, z2, rfl⟩
        go_wp2_with fail
        go_ret
        exact Ret.mk rfl ((((Ex.refl _).alloc _).ext _).ext _)
      | true =>
        go_enter Tryz.func37, Tryz.ntmps37
        go_wp2_with fail
        refine (HP.out _).mono ?_
        rintro e w' ⟨rfl, z1, rfl⟩
        go_wp2_with fail
        refine (HI.out _).mono ?_
        rintro e w' ⟨rfl, z2, rfl⟩
        go_wp2_with fail
        go_ret
        exact Ret.mk rfl ((((Ex.refl _).alloc _).ext _).ext _)
    · rw [decide_eq_false hq]
      have g1 : (q == 0) = false := beq_eq_false_iff_ne.2 hq
      have g1' : (q != 0) = true := by rw [bne_iff_ne]; exact hq
      go_enter Tryz.func37, Tryz.ntmps37
      go_wp2_with fail
      refine (HP.out _).mono ?_
      rintro e w' ⟨rfl, z1, rfl⟩
      go_wp2_with fail
      go_ret
      exact Ret.mk rfl (((Ex.refl _).alloc _).ext _)
set_option maxRecDepth 20000 in
set_option maxHeartbeats 1600000 in
theorem resolved_rest (k n p q : Int) (s : ByteArray) (A : Option Addr) (l : List Tr) (c : Nat) (w : World) (b2 : (k == 2) = false) (b3 : (k == 3) = false) (b4 : (k == 4) = false) (Q : Nat → Prop) (N : Nat) (hl : l.length ≤ 1000000) (ht : TrC Q w (.node k n p q s l) (c6 k n p q s A l.length c)) (hN : ∀ (j : Nat) (x : Tr), l[j]? = some x → x.size ≤ N ∧ NmOk x) (g : Tr → Bool) (HC : Hid (∀ w' x k n p q s A m c, x.size ≤ N ∧ NmOk x → TrC Q w' x (c6 k n p q s A m c) → Calls Tryz.prog 37 #[.agg #[.int .i64 k, .int .i64 n, .int .i64 p, .int .i64 q, .string s, .slice A m c]] w' (Ret w' (.bool (g x))))) (RES : Bool) (HT : Hid ((∀ (i : Nat) (x : Tr), l[i]? = some x → g x = true) → RES = true)) (HF : Hid (∀ (i : Nat) (x : Tr), l[i]? = some x → g x = false → RES = false)) :
    Calls Tryz.prog 37 #[.agg #[.int .i64 k, .int .i64 n, .int .i64 p, .int .i64 q, .string s, .slice A l.length c]] w (Ret w (.bool RES)) := by
  obtain ⟨_, _, _, _, _, _, hk⟩ := ht.kids
  have HK := Lib.hid (fun w' (hx : Ex w w') j x (hj : l[j]? = some x) => (hk j x hj).ex hx)
  have HG : Hid (∀ j, j < l.length → ∃ x, l[j]? = some x) := fun j hj => ⟨_, List.getElem?_eq_getElem hj⟩
  have HI := Lib.hid hN
  clear hk ht hN
  have HZ : Hid (Blk ((w.alloc (.cells #[.int .i64 k, .int .i64 n, .int .i64 p, .int .i64 q, .string s, .slice A l.length c] 24)))  w.heap.size 24 (c6 k n p q s A l.length c)) := Blk.new w _ _
  have HX0 : Hid (Ex w ((w.alloc (.cells #[.int .i64 k, .int .i64 n, .int .i64 p, .int .i64 q, .string s, .slice A l.length c] 24))) ) := (Ex.refl w).alloc _
  obtain ⟨W0, hW0⟩ : ∃ W0, W0 = (w.alloc (.cells #[.int .i64 k, .int .i64 n, .int .i64 p, .int .i64 q, .string s, .slice A l.length c] 24)) := ⟨_, rfl⟩
  rw [← hW0] at HZ HX0
  have HW0 := Lib.hid hW0
  clear hW0
  go_enter Tryz.func37, Tryz.ntmps37
  go_wp2_with fail
  rw [← HW0.out]
  go_loopw [3] (fun i wr => ∃ j : Nat, i = .int .i64 j ∧ j ≤ l.length ∧ Hid ((∀ (i : Nat) (x : Tr), i < j → l[i]? = some x → g x = true) ∧ Ex W0 wr)) (fun i _ => l.length - (intOf i).toNat)
  case atStart => exact ⟨0, rfl, Nat.zero_le _, Lib.hid ⟨fun i x h => absurd h (by omega), Ex.refl _⟩⟩
  case round =>
    obtain ⟨j, rfl, hj, HH⟩ := hrel
    have hz := HZ.out.ex HH.out.2
    have lz := hz.lt
    have r5 : wr.cell? ⟨w.heap.size, 5, none⟩ = some (.slice A l.length c) := hz.cell 5
    clear hz
    by_cases hlt : j < l.length
    · have m1 : (j : Int) < (l.length : Int) := by omega
      have m0 : (0 : Int) ≤ (j : Int) := by omega
      obtain ⟨x, hx⟩ := HG.out j hlt
      obtain ⟨b, o, k2, n2, p2, q2, s2, B, m2, c2, rfl, hb, h0, h1, h2, h3, h4, h5, htx⟩ := HK.out _ (HX0.out.trans HH.out.2) j x hx
      have HCx := Lib.hid (fun w' (hy : Ex wr w') => HC.out w' x k2 n2 p2 q2 s2 B m2 c2 (HI.out j x hx) (htx.ex hy))
      obtain ⟨qq, hqq⟩ : ∃ qq, g x = qq := ⟨_, rfl⟩
      rw [hqq] at HCx
      have HXY := Lib.hid (And.intro hx hqq)
      clear htx hx hqq
      cases qq with
      | true =>
        go_wp2_with fail
        refine (HCx.out _ (Ex.refl _)).mono ?_
        rintro e w' ⟨rfl, z3, rfl⟩
        go_wp2_with fail
        refine ⟨⟨j + 1, by go_num, by omega, Lib.hid ⟨fun i y hi hy => ?_, HH.out.2.ext _⟩⟩, by simp [intOf]; omega⟩
        by_cases hij : i = j
        · subst hij
          have h9 := HXY.out.1
          rw [h9] at hy
          injection hy with hy
          rw [← hy]; exact HXY.out.2
        · exact HH.out.1 i y (by omega) hy
      | false =>
        go_wp2_with fail
        refine (HCx.out _ (Ex.refl _)).mono ?_
        rintro e w' ⟨rfl, z3, rfl⟩
        go_wp2_with fail
        go_ret
        exact Ret.mk (by rw [HF.out j x HXY.out.1 HXY.out.2]; rfl) (HX0.out.trans (HH.out.2.ext _))
    · have hjl : j = l.length := by omega
      subst hjl
      have m1 : decide (((l.length : Nat) : Int) < (l.length : Int)) = false := decide_eq_false (by omega)
      have HR := Lib.hid (HT.out (fun i x hi => HH.out.1 i x (by
        rcases Nat.lt_or_ge i l.length with h | h
        · exact h
        · rw [List.getElem?_eq_none h] at hi; cases hi) hi))
      have HE := Lib.hid HH.out.2
      clear hlt HH
      go_wp2_with fail
      go_ret
      exact Ret.mk (by rw [HR.out]; rfl) (HX0.out.trans HE.out)
/-- what a resolved node's names are -/
def nodeR (k p q : Int) (s : ByteArray) : Bool :=
  if k = 2 then procB p && decide (q = 0) && nmB s.data.toList
  else if k = 3 then procB p && decide (q = 0) && decide (s.size = 0)
  else if k = 4 then procB p && procB q && !decide (p = q) && decide (s.size = 0)
  else decide (p = 0) && decide (q = 0) && decide (s.size = 0)
def resB : Tr → Bool
  | .node k _ p q s l => if k = 2 ∨ k = 3 ∨ k = 4 then nodeR k p q s else (l.map resB).all id
theorem res_other {k n p q : Int} {s : ByteArray} {l : List Tr} (h2 : k ≠ 2) (h3 : k ≠ 3) (h4 : k ≠ 4) : resB (.node k n p q s l) = !(l.any (fun x => !resB x)) := by
  conv => lhs; unfold resB
  rw [if_neg (by omega), List.all_map, List.not_any_eq_all_not]
  simp [Function.comp_def]
theorem res_named {k n p q : Int} {s : ByteArray} {l : List Tr} (h : k = 2 ∨ k = 3 ∨ k = 4) : resB (.node k n p q s l) = nodeR k p q s := by
  conv => lhs; unfold resB
  rw [if_pos h]
set_option maxHeartbeats 1600000 in
theorem resolved_c : ∀ (N : Nat) (t : Tr) (Q : Nat → Prop) (w : World) (k n p q : Int) (s : ByteArray) (A : Option Addr) (m c : Nat), t.size ≤ N → N ≤ 1000000 → NmOk t → TrC Q w t (c6 k n p q s A m c) →
    Calls Tryz.prog 37 #[.agg #[.int .i64 k, .int .i64 n, .int .i64 p, .int .i64 q, .string s, .slice A m c]] w (Ret w (.bool (resB t))) := by
  intro N
  induction N with
  | zero => intro t Q w k n p q s A m c h; exact absurd h (by have := t.size_pos; omega)
  | succ N ih =>
    intro t Q w k n p q s A m c hs hN hm ht
    obtain ⟨k1, n1, p1, q1, s1, l⟩ := t
    have ht' := ht
    obtain ⟨rfl, rfl, rfl, rfl, rfl, rfl, -⟩ := ht.kids
    have hlen := Tr.len_le (l := l)
    rw [Tr.size_node] at hs
    by_cases h2 : k = 2
    · rw [res_named (.inl h2)]
      subst h2
      exact resolved_var n p q s A _ c w hm.size
    by_cases h3 : k = 3
    · rw [res_named (.inr (.inl h3))]
      subst h3
      exact resolved_count n p q s A _ c w
    by_cases h4 : k = 4
    · rw [res_named (.inr (.inr h4))]
      subst h4
      exact resolved_chan n p q s A _ c w
    refine resolved_rest k n p q s A l c w (beq_eq_false_iff_ne.2 h2) (beq_eq_false_iff_ne.2 h3) (beq_eq_false_iff_ne.2 h4) Q N (by omega) ht' (fun j x hj => ⟨?_, hm.kid x (List.mem_of_getElem? hj)⟩) resB (Lib.hid fun w' x k n p q s A m c h1 h => ih x Q w' k n p q s A m c h1.1 (by omega) h1.2 h) _ (Lib.hid fun h => ?_) (Lib.hid fun i x hi h => ?_)
    · have := mem_le_sum (l.map Tr.size) x.size (List.mem_map.2 ⟨x, List.mem_of_getElem? hj, rfl⟩)
      omega
    · rw [res_other h2 h3 h4, Bool.not_eq_true', List.any_eq_false]
      intro x hx
      obtain ⟨i, hi⟩ := List.mem_iff_getElem?.1 hx
      rw [h i x hi]; simp
    · rw [res_other h2 h3 h4, Bool.not_eq_false']
      exact List.any_eq_true.2 ⟨x, List.mem_of_getElem? hi, by rw [h]; rfl⟩
set_option maxHeartbeats 1600000 in
theorem rResolved_c (t : Tr) (Q : Nat → Prop) (w : World) (k n p q : Int) (s : ByteArray) (A : Option Addr) (m c : Nat) (hs : t.size ≤ 1000000) (hm : NmOk t) (ht : TrC Q w t (c6 k n p q s A m c)) :
    Calls Tryz.prog 16 #[.agg #[.int .i64 k, .int .i64 n, .int .i64 p, .int .i64 q, .string s, .slice A m c]] w (Ret w (.bool (smallB t && formedB plainB t && resB t))) := by
  have H1 := Lib.hid (fun w' (hx : Ex w w') => rFormed_c t Q w' k n p q s A m c hs (ht.ex hx))
  have H2 := Lib.hid (fun w' (hx : Ex w w') => resolved_c t.size t Q w' k n p q s A m c (Nat.le_refl _) hs hm (ht.ex hx))
  generalize (smallB t && formedB plainB t) = a at *
  generalize resB t = b at *
  clear ht hs hm
  cases a
  · go_enter Tryz.func16, Tryz.ntmps16
    go_wp2_with fail
    refine (H1.out _ ((Ex.refl _).alloc _)).mono ?_
    rintro e w' ⟨rfl, z, rfl⟩
    go_wp2_with fail
    go_ret
    exact Ret.mk rfl (((Ex.refl _).alloc _).ext _)
  · go_enter Tryz.func16, Tryz.ntmps16
    go_wp2_with fail
    refine (H1.out _ ((Ex.refl _).alloc _)).mono ?_
    rintro e w' ⟨rfl, z, rfl⟩
    go_wp2_with fail
    refine (H2.out _ (((Ex.refl _).alloc _).ext _)).mono ?_
    rintro e w' ⟨rfl, z2, rfl⟩
    go_wp2_with fail
    go_ret
    exact Ret.mk (by simp) ((((Ex.refl _).alloc _).ext _).ext _)
/-- well-formed and resolved: what the program asks of each node -/
theorem formed_res : ∀ (N : Nat) (t : Tr), t.size ≤ N → formedB nodeR t = (formedB plainB t && resB t) := by
  intro N
  induction N with
  | zero => intro t h; exact absurd h (by have := t.size_pos; omega)
  | succ N ih =>
    intro t hs
    obtain ⟨k, n, p, q, s, l⟩ := t
    rw [Tr.size_node] at hs
    have hI : ∀ x ∈ l, formedB nodeR x = (formedB plainB x && resB x) := fun x hx => ih x (by
      have := mem_le_sum (l.map Tr.size) x.size (List.mem_map.2 ⟨x, hx, rfl⟩)
      omega)
    rw [formed_node, formed_node]
    by_cases hk : k = 2 ∨ k = 3 ∨ k = 4
    · rw [res_named hk]
      have hp : partsI k = 0 := by rcases hk with h | h | h <;> rw [h] <;> rfl
      have hpl : plainB k p q s = true := by unfold plainB namesB; rcases hk with h | h | h <;> rw [h] <;> simp
      rw [hpl]
      cases hh : headB k n l.length with
      | false => simp
      | true =>
        have : l = [] := by
          unfold headB at hh
          simp only [Bool.and_eq_true, decide_eq_true_eq] at hh
          have := hh.1.1.1
          exact List.eq_nil_of_length_eq_zero (by omega)
        subst this
        simp
    · have h2 : k ≠ 2 := by omega
      have h3 : k ≠ 3 := by omega
      have h4 : k ≠ 4 := by omega
      rw [res_other h2 h3 h4]
      have hpl : plainB k p q s = nodeR k p q s := by
        unfold plainB namesB nodeR
        rw [decide_eq_false h2, decide_eq_false h3, decide_eq_false h4, if_neg h2, if_neg h3, if_neg h4]
        simp
      rw [hpl]
      have e : l.any (fun x => !formedB nodeR x) = (l.any (fun x => !formedB plainB x) || l.any (fun x => !resB x)) := by
        rw [Bool.eq_iff_iff]
        simp only [List.any_eq_true, Bool.or_eq_true, Bool.not_eq_true']
        constructor
        · rintro ⟨x, hx, h⟩
          rw [hI x hx] at h
          simp only [Bool.and_eq_false_iff] at h
          rcases h with h | h
          · exact .inl ⟨x, hx, h⟩
          · exact .inr ⟨x, hx, h⟩
        · rintro (⟨x, hx, h⟩ | ⟨x, hx, h⟩)
          · exact ⟨x, hx, by rw [hI x hx, h]; simp⟩
          · exact ⟨x, hx, by rw [hI x hx, h]; simp⟩
      rw [e]
      simp [Bool.and_assoc]
end Go.Proofs.YthjalkonlcjhnaaGreatDoor
