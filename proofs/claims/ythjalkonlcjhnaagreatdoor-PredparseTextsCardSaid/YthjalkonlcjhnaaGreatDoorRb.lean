/-
  Valid, walked.
  Conditions: as each theorem says.
-/
import Derived.Test.YthjalkonlcjhnaaGreatDoorRa
import Derived.Test.YthjalkonlcjhnaaGreatDoorQp
namespace Go.Proofs.YthjalkonlcjhnaaGreatDoor
open Go.RowKit
/-- all names are no longer than Go strings are -/
inductive NmOk : Tr → Prop where
  | node (k n p q : Int) (s : ByteArray) (l : List Tr) (hs : s.size ≤ maxLen) (hl : ∀ x ∈ l, NmOk x) : NmOk (.node k n p q s l)
theorem NmOk.size {k n p q : Int} {s : ByteArray} {l : List Tr} (h : NmOk (.node k n p q s l)) : s.size ≤ maxLen := by cases h with | node _ _ _ _ _ _ hs _ => exact hs
theorem NmOk.kid {k n p q : Int} {s : ByteArray} {l : List Tr} (h : NmOk (.node k n p q s l)) : ∀ x ∈ l, NmOk x := by cases h with | node _ _ _ _ _ _ _ hl => exact hl
/-- what Valid asks of a node's names -/
def nodeB (k p q : Int) (s : ByteArray) : Bool :=
  if p = 0 then if q = 0 then if k = 2 then twoB s 46 else if k = 3 then wordB s else if k = 4 then twoB s 44 else decide (s.size = 0) else false else false
set_option maxHeartbeats 800000 in
theorem valid1_c (k n p q : Int) (s : ByteArray) (A : Option Addr) (m c : Nat) (w : World) (h : s.size ≤ maxLen) : Calls Tryz.prog 41 #[.agg #[.int .i64 k, .int .i64 n, .int .i64 p, .int .i64 q, .string s, .slice A m c]] w (Ret w (.bool (nodeB k p q s))) := by
  have HT := Lib.hid (fun d w => two_c s d w h)
  have HW := Lib.hid (fun w => word_n s w h)
  have he := nonempty_iff s
  unfold nodeB
  by_cases hp : p = 0
  · by_cases hq : q = 0
    · rw [if_pos hp, if_pos hq]
      subst hp hq
      by_cases h2 : k = 2
      · rw [if_pos h2]
        subst h2
        clear h he
        go_enter Tryz.func41, Tryz.ntmps41
        go_wp2_with fail
        refine (HT.out 46 _).mono ?_
        rintro e w' ⟨rfl, z, rfl⟩
        go_wp2_with fail
        go_ret
        exact Ret.mk rfl (((Ex.refl _).alloc _).ext _)
      · rw [if_neg h2]
        by_cases h3 : k = 3
        · rw [if_pos h3]
          subst h3
          clear h he h2
          go_enter Tryz.func41, Tryz.ntmps41
          go_wp2_with fail
          refine (HW.out _).mono ?_
          rintro e w' ⟨rfl, z, rfl⟩
          go_wp2_with fail
          go_ret
          exact Ret.mk rfl (((Ex.refl _).alloc _).ext _)
        · rw [if_neg h3]
          by_cases h4 : k = 4
          · rw [if_pos h4]
            subst h4
            clear h he h2 h3
            go_enter Tryz.func41, Tryz.ntmps41
            go_wp2_with fail
            refine (HT.out 44 _).mono ?_
            rintro e w' ⟨rfl, z, rfl⟩
            go_wp2_with fail
            go_ret
            exact Ret.mk rfl (((Ex.refl _).alloc _).ext _)
          · rw [if_neg h4, ← he]
            have e2 : (k == 2) = false := beq_eq_false_iff_ne.2 h2
            have e3 : (k == 3) = false := beq_eq_false_iff_ne.2 h3
            have e4 : (k == 4) = false := beq_eq_false_iff_ne.2 h4
            clear h he h2 h3 h4
            go_enter Tryz.func41, Tryz.ntmps41
            go_wp2_with fail
            go_ret
            exact Ret.mk (by first | rfl | simp) ((Ex.refl _).alloc _)
    · rw [if_pos hp, if_neg hq]
      subst hp
      have e1 : (q != 0) = true := by rw [bne_iff_ne]; exact hq
      have e2 : (q == 0) = false := beq_eq_false_iff_ne.2 hq
      clear h he hq
      go_enter Tryz.func41, Tryz.ntmps41
      go_wp2_with fail
      go_ret
      exact Ret.mk rfl ((Ex.refl _).alloc _)
  · rw [if_neg hp]
    have e1 : (p != 0) = true := by rw [bne_iff_ne]; exact hp
    have e2 : (p == 0) = false := beq_eq_false_iff_ne.2 hp
    clear h he hp
    go_enter Tryz.func41, Tryz.ntmps41
    go_wp2_with fail
    go_ret
    exact Ret.mk rfl ((Ex.refl _).alloc _)
theorem inner_c (b : Bool) (g : Nat) (k n p q : Int) (s : ByteArray) (A : Option Addr) (m c : Nat) (w : World) (hg : w.cell? ⟨g, 0, none⟩ = some (.func (.func 41) #[] #[])) (hgl : g < w.heap.size)
    (H : ∀ w', Ex w w' → Calls Tryz.prog 31 #[.agg #[.int .i64 k, .int .i64 n, .int .i64 p, .int .i64 q, .string s, .slice A m c], .func (.func 41) #[] #[]] w' (Ret w' (.bool b))) :
    Calls Tryz.prog 56 #[.agg #[.int .i64 k, .int .i64 n, .int .i64 p, .int .i64 q, .string s, .slice A m c], .pointer (some ⟨g, 0, none⟩)] w (Ret w (.bool (!b))) := by
  have H' := Lib.hid H
  clear H
  go_enter Tryz.func56, Tryz.ntmps56
  go_wp2_with fail
  refine (H'.out _ ((Ex.refl _).alloc _)).mono ?_
  rintro e w' ⟨rfl, z, rfl⟩
  go_wp2_with fail
  go_ret
  exact Ret.mk rfl (((Ex.refl _).alloc _).ext _)
set_option maxHeartbeats 800000 in
theorem indexF_c (Q : Nat → Prop) (l : List Tr) (A : Option Addr) (c g : Nat) (w : World) (FB : Tr → Bool) (hl : l.length ≤ 1000000) (hk : ∀ w', Ex w w' → ∀ j x, l[j]? = some x → Kid Q w' A j x)
    (hi : ∀ w', Ex w w' → ∀ x k n p q s B m c, x ∈ l → TrC Q w' x (c6 k n p q s B m c) → Calls Tryz.prog 56 #[.agg #[.int .i64 k, .int .i64 n, .int .i64 p, .int .i64 q, .string s, .slice B m c], .pointer (some ⟨g, 0, none⟩)] w' (Ret w' (.bool (!FB x)))) :
    Calls Tryz.prog 86 #[.slice A l.length c, .func (.func 56) #[] #[.pointer (some ⟨g, 0, none⟩)]] w (fun e w' => ∃ v : Int, e = .returned (.int .i64 v) ∧ (decide (0 ≤ v) = l.any (fun x => !FB x)) ∧ Ex w w') := by
  have HK := Lib.hid hk
  have HI := Lib.hid hi
  have HG : Hid (∀ k, k < l.length → ∃ x, l[k]? = some x) := fun k hk => ⟨_, List.getElem?_eq_getElem hk⟩
  have HA : Hid (∀ k x, l[k]? = some x → FB x = false → l.any (fun x => !FB x) = true) := fun k x h hb => List.any_eq_true.2 ⟨x, List.mem_of_getElem? h, by rw [hb]; rfl⟩
  have HN : Hid ((∀ k x, l[k]? = some x → FB x = true) → l.any (fun x => !FB x) = false) := fun h => by
    rw [List.any_eq_false]
    intro x hx
    obtain ⟨k, hk⟩ := List.mem_iff_getElem?.1 hx
    rw [h k x hk]; simp
  have HM : Hid (∀ k x, l[k]? = some x → x ∈ l) := fun k x h => List.mem_of_getElem? h
  have HIx : Hid (∀ (k : Nat) (x : Tr), l[k]? = some x → k < l.length) := fun k x h => (List.getElem?_eq_some_iff.1 h).1
  clear hk hi
  go_enter Tryz.func86, Tryz.ntmps86
  go_wp2_with fail
  go_loopw [8] (fun i wr => ∃ k : Nat, i = .int .i64 k ∧ k ≤ l.length ∧ Hid (∀ (j : Nat) x, j < k → l[j]? = some x → FB x = true) ∧ Hid (Ex w wr)) (fun i _ => l.length - (intOf i).toNat)
  case atStart => exact ⟨0, rfl, by omega, Lib.hid (fun j x h => by omega), Lib.hid (Ex.refl _)⟩
  case round =>
    obtain ⟨j, rfl, hj, HP, HX⟩ := hrel
    by_cases hlt : j < l.length
    · have m1 : (j : Int) < (l.length : Int) := by omega
      have m0 : (0 : Int) ≤ (j : Int) := by omega
      obtain ⟨x, hxk⟩ := HG.out j hlt
      obtain ⟨b, o, k2, n2, p2, q2, s2, B, m2, c2, rfl, hb, h0, h1, h2, h3, h4, h5, htx⟩ := HK.out _ HX.out j x hxk
      have HC := Lib.hid (HI.out _ HX.out x k2 n2 p2 q2 s2 B m2 c2 (HM.out j x hxk) htx)
      have Hxk := Lib.hid hxk
      clear hxk htx
      obtain ⟨qq, hq⟩ : ∃ qq, FB x = qq := ⟨_, rfl⟩
      rw [hq] at HC
      have Hq := Lib.hid hq
      clear hq
      cases qq
      · go_wp2_with fail
        refine HC.out.mono ?_
        rintro e w' ⟨rfl, z, rfl⟩
        go_wp2_with fail
        go_ret
        exact ⟨j, rfl, by rw [HA.out j _ Hxk.out Hq.out]; simp, HX.out.ext _⟩
      · go_wp2_with fail
        refine HC.out.mono ?_
        rintro e w' ⟨rfl, z, rfl⟩
        go_wp2_with fail
        refine ⟨⟨j + 1, by go_num, by omega, Lib.hid (fun i y h hi => ?_), Lib.hid (HX.out.ext _)⟩, by simp [intOf]; omega⟩
        by_cases hij : i = j
        · subst hij
          rw [Hxk.out] at hi
          injection hi with hi
          rw [← hi]; exact Hq.out
        · exact HP.out i y (by omega) hi
    · have m1 : decide ((j : Int) < (l.length : Int)) = false := decide_eq_false (by omega)
      have m2 : decide (j < l.length) = false := decide_eq_false (by omega)
      have HQ : Hid (l.any (fun x => !FB x) = false) := HN.out (fun i x hi => HP.out i x (by have := HIx.out i x hi; omega) hi)
      clear hlt
      go_wp2_with fail
      go_ret
      exact ⟨-1, rfl, by rw [HQ.out]; simp, HX.out⟩
theorem containsF_c (Q : Nat → Prop) (l : List Tr) (A : Option Addr) (c g : Nat) (w : World) (FB : Tr → Bool) (hl : l.length ≤ 1000000) (hk : ∀ w', Ex w w' → ∀ j x, l[j]? = some x → Kid Q w' A j x)
    (hi : ∀ w', Ex w w' → ∀ x k n p q s B m c, x ∈ l → TrC Q w' x (c6 k n p q s B m c) → Calls Tryz.prog 56 #[.agg #[.int .i64 k, .int .i64 n, .int .i64 p, .int .i64 q, .string s, .slice B m c], .pointer (some ⟨g, 0, none⟩)] w' (Ret w' (.bool (!FB x)))) :
    Calls Tryz.prog 55 #[.slice A l.length c, .func (.func 56) #[] #[.pointer (some ⟨g, 0, none⟩)]] w (Ret w (.bool (l.any (fun x => !FB x)))) := by
  have H := Lib.hid (indexF_c Q l A c g w FB hl hk hi)
  obtain ⟨qq, hq⟩ : ∃ qq, l.any (fun x => !FB x) = qq := ⟨_, rfl⟩
  rw [hq] at H ⊢
  clear hq hk hi
  cases qq
  all_goals
    go_enter Tryz.func55, Tryz.ntmps55
    go_wp2_with fail
    refine H.out.mono ?_
    rintro e w' ⟨v, rfl, hv, z, rfl⟩
    go_wp2_with fail
    go_ret
    exact Ret.mk (by first | rfl | (rw [hv])) ((Ex.refl _).ext _)
/-- kind, number of parts and number of a node -/
def headB (k n : Int) (len : Nat) : Bool := decide (partsI k = (len : Int)) && (decide (n = 0) || decide (k = 1)) && decide (0 ≤ n) && decide (n ≤ 1125899906842624)
def formedB (T : Int → Int → Int → ByteArray → Bool) : Tr → Bool
  | .node k n p q s l => headB k n l.length && T k p q s && (l.map (formedB T)).all id
theorem formed_node (T : Int → Int → Int → ByteArray → Bool) (k n p q : Int) (s : ByteArray) (l : List Tr) : formedB T (.node k n p q s l) = (headB k n l.length && T k p q s && !(l.any (fun x => !formedB T x))) := by
  conv => lhs; unfold formedB
  congr 1
  rw [List.all_map, List.not_any_eq_all_not]
  simp [Function.comp_def]
set_option maxRecDepth 20000 in
set_option maxHeartbeats 1600000 in
theorem formed_A (k n p q : Int) (s : ByteArray) (A : Option Addr) (l : List Tr) (c : Nat) (w : World) (hs : s.size ≤ maxLen) (h0 : partsI k ≠ (l.length : Int)) :
    Calls Tryz.prog 31 #[.agg #[.int .i64 k, .int .i64 n, .int .i64 p, .int .i64 q, .string s, .slice A l.length c], .func (.func 41) #[] #[]] w (Ret w (.bool false)) := by
  have HP := Lib.hid (parts_k k)
  have HV := Lib.hid (fun w => valid1_c k n p q s A l.length c w hs)
  generalize nodeB k p q s = v at *
  generalize hL : l.length = L at *
  have e0 : (partsI k != (L : Int)) = true := by rw [bne_iff_ne]; exact h0
  have e0' : (partsI k == (L : Int)) = false := beq_eq_false_iff_ne.2 h0
  clear h0
  clear hs hL
  try generalize partsI k = pI at *
  go_enter Tryz.func31, Tryz.ntmps31
  go_wp2_with fail
  refine wp_region_ext (by kernel_rfl) (by kernel_rfl) ?_
  repeat (go_big_quiet_step (first | (go_at_call 54; exact quiet_ext (HP.out _)) | (go_at_call 41; exact quiet_ext (HV.out _))))
  refine wpQuiet_end (fun z => ?_)
  go_wp2_with fail
  go_ret
  exact Ret.mk rfl ((((Ex.refl _).alloc _).alloc _).ext _)
set_option maxRecDepth 20000 in
set_option maxHeartbeats 1600000 in
theorem formed_B (k n p q : Int) (s : ByteArray) (A : Option Addr) (l : List Tr) (c : Nat) (w : World) (hs : s.size ≤ maxLen) (h0 : partsI k = (l.length : Int)) (h1 : n ≠ 0) (h2 : k ≠ 1) :
    Calls Tryz.prog 31 #[.agg #[.int .i64 k, .int .i64 n, .int .i64 p, .int .i64 q, .string s, .slice A l.length c], .func (.func 41) #[] #[]] w (Ret w (.bool false)) := by
  have HP := Lib.hid (parts_k k)
  have HV := Lib.hid (fun w => valid1_c k n p q s A l.length c w hs)
  generalize nodeB k p q s = v at *
  generalize hL : l.length = L at *
  have e0 : (partsI k != (L : Int)) = false := by unfold bne; rw [beq_iff_eq.2 h0]; rfl
  have e1 : (n != 0) = true := by rw [bne_iff_ne]; exact h1
  have e1' : (n == 0) = false := beq_eq_false_iff_ne.2 h1
  have e2 : (k != 1) = true := by rw [bne_iff_ne]; exact h2
  have e2' : (k == 1) = false := beq_eq_false_iff_ne.2 h2
  rw [h0] at HP
  clear h0 e0 h1 h2
  clear hs hL
  try generalize partsI k = pI at *
  go_enter Tryz.func31, Tryz.ntmps31
  go_wp2_with fail
  refine wp_region_ext (by kernel_rfl) (by kernel_rfl) ?_
  repeat (go_big_quiet_step (first | (go_at_call 54; exact quiet_ext (HP.out _)) | (go_at_call 41; exact quiet_ext (HV.out _))))
  refine wpQuiet_end (fun z => ?_)
  go_wp2_with fail
  go_ret
  exact Ret.mk rfl ((((Ex.refl _).alloc _).alloc _).ext _)
set_option maxRecDepth 20000 in
set_option maxHeartbeats 1600000 in
theorem formed_C (k n p q : Int) (s : ByteArray) (A : Option Addr) (l : List Tr) (c : Nat) (w : World) (hs : s.size ≤ maxLen) (h0 : partsI k = (l.length : Int)) (h1 : n < 0) (h2 : k = 1) :
    Calls Tryz.prog 31 #[.agg #[.int .i64 k, .int .i64 n, .int .i64 p, .int .i64 q, .string s, .slice A l.length c], .func (.func 41) #[] #[]] w (Ret w (.bool false)) := by
  have HP := Lib.hid (parts_k k)
  have HV := Lib.hid (fun w => valid1_c k n p q s A l.length c w hs)
  generalize nodeB k p q s = v at *
  generalize hL : l.length = L at *
  have e1 : (n != 0) = true := by rw [bne_iff_ne]; omega
  have e1' : (n == 0) = false := beq_eq_false_iff_ne.2 (by omega)
  have e3 : decide (n < 0) = true := decide_eq_true h1
  subst h2
  rw [h0] at HP
  clear h0
  clear hs hL
  try generalize partsI k = pI at *
  go_enter Tryz.func31, Tryz.ntmps31
  go_wp2_with fail
  refine wp_region_ext (by kernel_rfl) (by kernel_rfl) ?_
  repeat (go_big_quiet_step (first | (go_at_call 54; exact quiet_ext (HP.out _)) | (go_at_call 41; exact quiet_ext (HV.out _))))
  refine wpQuiet_end (fun z => ?_)
  go_wp2_with fail
  go_ret
  exact Ret.mk rfl ((((Ex.refl _).alloc _).alloc _).ext _)
set_option maxRecDepth 20000 in
set_option maxHeartbeats 1600000 in
theorem formed_D (k n p q : Int) (s : ByteArray) (A : Option Addr) (l : List Tr) (c : Nat) (w : World) (hs : s.size ≤ maxLen) (h0 : partsI k = (l.length : Int)) (h1 : 1125899906842624 < n) (h2 : k = 1) :
    Calls Tryz.prog 31 #[.agg #[.int .i64 k, .int .i64 n, .int .i64 p, .int .i64 q, .string s, .slice A l.length c], .func (.func 41) #[] #[]] w (Ret w (.bool false)) := by
  have HP := Lib.hid (parts_k k)
  have HV := Lib.hid (fun w => valid1_c k n p q s A l.length c w hs)
  generalize nodeB k p q s = v at *
  generalize hL : l.length = L at *
  have e1 : (n != 0) = true := by rw [bne_iff_ne]; omega
  have e1' : (n == 0) = false := beq_eq_false_iff_ne.2 (by omega)
  have e3 : decide (n < 0) = false := decide_eq_false (by omega)
  have e4 : decide (1125899906842624 < n) = true := decide_eq_true h1
  subst h2
  rw [h0] at HP
  clear h0
  clear hs hL
  try generalize partsI k = pI at *
  go_enter Tryz.func31, Tryz.ntmps31
  go_wp2_with fail
  refine wp_region_ext (by kernel_rfl) (by kernel_rfl) ?_
  repeat (go_big_quiet_step (first | (go_at_call 54; exact quiet_ext (HP.out _)) | (go_at_call 41; exact quiet_ext (HV.out _))))
  refine wpQuiet_end (fun z => ?_)
  go_wp2_with fail
  go_ret
  exact Ret.mk rfl ((((Ex.refl _).alloc _).alloc _).ext _)
set_option maxRecDepth 20000 in
set_option maxHeartbeats 1600000 in
theorem formed_F0 (k n p q : Int) (s : ByteArray) (A : Option Addr) (l : List Tr) (c : Nat) (w : World) (hs : s.size ≤ maxLen) (h0 : partsI k = (l.length : Int)) (h1 : 0 ≤ n) (h2 : n ≤ 1125899906842624) (h3 : n = 0) (hv : nodeB k p q s = false) :
    Calls Tryz.prog 31 #[.agg #[.int .i64 k, .int .i64 n, .int .i64 p, .int .i64 q, .string s, .slice A l.length c], .func (.func 41) #[] #[]] w (Ret w (.bool false)) := by
  have HP := Lib.hid (parts_k k)
  have HV := Lib.hid (fun w => valid1_c k n p q s A l.length c w hs)
  rw [hv] at HV
  rw [h0] at HP
  generalize hL : l.length = L at *
  subst h3
  clear hs hL h0 hv
  go_enter Tryz.func31, Tryz.ntmps31
  go_wp2_with fail
  refine wp_region_ext (by kernel_rfl) (by kernel_rfl) ?_
  repeat (go_big_quiet_step (first | (go_at_call 54; exact quiet_ext (HP.out _)) | (go_at_call 41; exact quiet_ext (HV.out _))))
  refine wpQuiet_end (fun z => ?_)
  go_wp2_with fail
  go_ret
  exact Ret.mk rfl ((((Ex.refl _).alloc _).alloc _).ext _)
set_option maxRecDepth 20000 in
set_option maxHeartbeats 1600000 in
theorem formed_F1 (k n p q : Int) (s : ByteArray) (A : Option Addr) (l : List Tr) (c : Nat) (w : World) (hs : s.size ≤ maxLen) (h0 : partsI k = (l.length : Int)) (h1 : 0 ≤ n) (h2 : n ≤ 1125899906842624) (h3 : n ≠ 0) (h4 : k = 1) (hv : nodeB k p q s = false) :
    Calls Tryz.prog 31 #[.agg #[.int .i64 k, .int .i64 n, .int .i64 p, .int .i64 q, .string s, .slice A l.length c], .func (.func 41) #[] #[]] w (Ret w (.bool false)) := by
  have HP := Lib.hid (parts_k k)
  have HV := Lib.hid (fun w => valid1_c k n p q s A l.length c w hs)
  rw [hv] at HV
  rw [h0] at HP
  generalize hL : l.length = L at *
  have e1 : (n != 0) = true := by rw [bne_iff_ne]; exact h3
  have e1' : (n == 0) = false := beq_eq_false_iff_ne.2 h3
  have e3 : decide (n < 0) = false := decide_eq_false (by omega)
  have e4 : decide (1125899906842624 < n) = false := decide_eq_false (by omega)
  subst h4
  clear hs hL h0 hv
  go_enter Tryz.func31, Tryz.ntmps31
  go_wp2_with fail
  refine wp_region_ext (by kernel_rfl) (by kernel_rfl) ?_
  repeat (go_big_quiet_step (first | (go_at_call 54; exact quiet_ext (HP.out _)) | (go_at_call 41; exact quiet_ext (HV.out _))))
  refine wpQuiet_end (fun z => ?_)
  go_wp2_with fail
  go_ret
  exact Ret.mk rfl ((((Ex.refl _).alloc _).alloc _).ext _)
set_option maxRecDepth 20000 in
set_option maxHeartbeats 1600000 in
theorem formed_T0 (k n p q : Int) (s : ByteArray) (A : Option Addr) (l : List Tr) (c : Nat) (w : World) (hs : s.size ≤ maxLen) (h0 : partsI k = (l.length : Int)) (h1 : 0 ≤ n) (h2 : n ≤ 1125899906842624) (h3 : n = 0) (hv : nodeB k p q s = true) (bb : Bool) (hc : ∀ w' g, Ex w w' → w'.cell? ⟨g, 0, none⟩ = some (.func (.func 41) #[] #[]) → g < w'.heap.size → Calls Tryz.prog 55 #[.slice A l.length c, .func (.func 56) #[] #[.pointer (some ⟨g, 0, none⟩)]] w' (Ret w' (.bool bb))) :
    Calls Tryz.prog 31 #[.agg #[.int .i64 k, .int .i64 n, .int .i64 p, .int .i64 q, .string s, .slice A l.length c], .func (.func 41) #[] #[]] w (Ret w (.bool (!bb))) := by
  have HP := Lib.hid (parts_k k)
  have HV := Lib.hid (fun w => valid1_c k n p q s A l.length c w hs)
  rw [hv] at HV
  have HC := Lib.hid hc
  clear hc
  rw [h0] at HP
  generalize hL : l.length = L at *
  subst h3
  clear hs hL h0 hv
  go_enter Tryz.func31, Tryz.ntmps31
  go_wp2_with fail
  refine wp_region_ext (by kernel_rfl) (by kernel_rfl) ?_
  repeat (go_big_quiet_step (first | (go_at_call 54; exact quiet_ext (HP.out _)) | (go_at_call 41; exact quiet_ext (HV.out _))))
  refine wpQuiet_end (fun z => ?_)
  go_wp2_with fail
  refine (HC.out _ (w.heap.size + 1) ((((Ex.refl _).alloc _).alloc _).ext _) ?_ ?_).mono ?_
  · rw [ext_cell _ _ _ (by rw [World.size_alloc, World.size_alloc]; show w.heap.size + 1 < _; omega)]
    have hb := Blk.new' (w.alloc (.cells #[.int .i64 k, .int .i64 0, .int .i64 p, .int .i64 q, .string s, .slice A L c] 24)) (show w.heap.size + 1 = _ by simp) 26 [.func (.func 41) #[] #[]]
    exact hb.cell 0
  · exact lt_ext _ (by rw [World.size_alloc, World.size_alloc]; omega)
  rintro e w' ⟨rfl, z2, rfl⟩
  go_wp2_with fail
  go_ret
  exact Ret.mk rfl (((((Ex.refl _).alloc _).alloc _).ext _).ext _)
set_option maxRecDepth 20000 in
set_option maxHeartbeats 1600000 in
theorem formed_T1 (k n p q : Int) (s : ByteArray) (A : Option Addr) (l : List Tr) (c : Nat) (w : World) (hs : s.size ≤ maxLen) (h0 : partsI k = (l.length : Int)) (h1 : 0 ≤ n) (h2 : n ≤ 1125899906842624) (h3 : n ≠ 0) (h4 : k = 1) (hv : nodeB k p q s = true) (bb : Bool) (hc : ∀ w' g, Ex w w' → w'.cell? ⟨g, 0, none⟩ = some (.func (.func 41) #[] #[]) → g < w'.heap.size → Calls Tryz.prog 55 #[.slice A l.length c, .func (.func 56) #[] #[.pointer (some ⟨g, 0, none⟩)]] w' (Ret w' (.bool bb))) :
    Calls Tryz.prog 31 #[.agg #[.int .i64 k, .int .i64 n, .int .i64 p, .int .i64 q, .string s, .slice A l.length c], .func (.func 41) #[] #[]] w (Ret w (.bool (!bb))) := by
  have HP := Lib.hid (parts_k k)
  have HV := Lib.hid (fun w => valid1_c k n p q s A l.length c w hs)
  rw [hv] at HV
  have HC := Lib.hid hc
  clear hc
  rw [h0] at HP
  generalize hL : l.length = L at *
  have e1 : (n != 0) = true := by rw [bne_iff_ne]; exact h3
  have e1' : (n == 0) = false := beq_eq_false_iff_ne.2 h3
  have e3 : decide (n < 0) = false := decide_eq_false (by omega)
  have e4 : decide (1125899906842624 < n) = false := decide_eq_false (by omega)
  subst h4
  clear hs hL h0 hv
  go_enter Tryz.func31, Tryz.ntmps31
  go_wp2_with fail
  refine wp_region_ext (by kernel_rfl) (by kernel_rfl) ?_
  repeat (go_big_quiet_step (first | (go_at_call 54; exact quiet_ext (HP.out _)) | (go_at_call 41; exact quiet_ext (HV.out _))))
  refine wpQuiet_end (fun z => ?_)
  go_wp2_with fail
  refine (HC.out _ (w.heap.size + 1) ((((Ex.refl _).alloc _).alloc _).ext _) ?_ ?_).mono ?_
  · rw [ext_cell _ _ _ (by rw [World.size_alloc, World.size_alloc]; show w.heap.size + 1 < _; omega)]
    have hb := Blk.new' (w.alloc (.cells #[.int .i64 1, .int .i64 n, .int .i64 p, .int .i64 q, .string s, .slice A L c] 24)) (show w.heap.size + 1 = _ by simp) 26 [.func (.func 41) #[] #[]]
    exact hb.cell 0
  · exact lt_ext _ (by rw [World.size_alloc, World.size_alloc]; omega)
  rintro e w' ⟨rfl, z2, rfl⟩
  go_wp2_with fail
  go_ret
  exact Ret.mk rfl (((((Ex.refl _).alloc _).alloc _).ext _).ext _)
theorem formed_c : ∀ (N : Nat) (t : Tr) (Q : Nat → Prop) (w : World) (k n p q : Int) (s : ByteArray) (A : Option Addr) (m c : Nat), t.size ≤ N → N ≤ 1000000 → NmOk t → TrC Q w t (c6 k n p q s A m c) →
    Calls Tryz.prog 31 #[.agg #[.int .i64 k, .int .i64 n, .int .i64 p, .int .i64 q, .string s, .slice A m c], .func (.func 41) #[] #[]] w (Ret w (.bool (formedB nodeB t))) := by
  intro N
  induction N with
  | zero => intro t Q w k n p q s A m c h; exact absurd h (by have := t.size_pos; omega)
  | succ N ih =>
    intro t Q w k n p q s A m c hs hN hm ht
    obtain ⟨k1, n1, p1, q1, s1, l⟩ := t
    obtain ⟨rfl, rfl, rfl, rfl, rfl, rfl, hk⟩ := ht.kids
    have hlen := Tr.len_le (l := l)
    rw [Tr.size_node] at hs
    have hsz := hm.size
    rw [formed_node]
    unfold headB
    by_cases h0 : partsI k = (l.length : Int)
    · rw [decide_eq_true h0]
      by_cases h3 : n = 0
      · have e : (true && (decide (n = 0) || decide (k = 1)) && decide (0 ≤ n) && decide (n ≤ 1125899906842624)) = true := by simp [h3]
        rw [e]
        cases hv : nodeB k p q s with
        | false => exact formed_F0 k n p q s A l c w hsz h0 (by omega) (by omega) h3 hv
        | true =>
          refine formed_T0 k n p q s A l c w hsz h0 (by omega) (by omega) h3 hv _ (fun w' g hx hg hgl => ?_)
          refine containsF_c Q l A c g w' (formedB nodeB) (by omega) (fun w2 hx2 j x hj => ((hk j x hj).ex hx).ex hx2) (fun w2 hx2 x k n p q s B m c hxl htx => ?_)
          refine inner_c (formedB nodeB x) g k n p q s B m c w2 ((hx2.below.cell (p := ⟨g, 0, none⟩) hgl).trans hg) (Nat.lt_of_lt_of_le hgl hx2.below.size) (fun w3 hx3 => ?_)
          exact ih x Q w3 k n p q s B m c (by have := mem_le_sum (l.map Tr.size) x.size (List.mem_map.2 ⟨x, hxl, rfl⟩); omega) (by omega) (hm.kid x hxl) (htx.ex hx3)
      · by_cases h4 : k = 1
        · by_cases h5 : n < 0
          · have e : (true && (decide (n = 0) || decide (k = 1)) && decide (0 ≤ n) && decide (n ≤ 1125899906842624)) = false := by rw [decide_eq_false (show ¬ 0 ≤ n by omega)]; simp
            rw [e]
            exact formed_C k n p q s A l c w hsz h0 h5 h4
          · by_cases h6 : 1125899906842624 < n
            · have e : (true && (decide (n = 0) || decide (k = 1)) && decide (0 ≤ n) && decide (n ≤ 1125899906842624)) = false := by rw [decide_eq_false (show ¬ n ≤ 1125899906842624 by omega)]; simp
              rw [e]
              exact formed_D k n p q s A l c w hsz h0 h6 h4
            · have e : (true && (decide (n = 0) || decide (k = 1)) && decide (0 ≤ n) && decide (n ≤ 1125899906842624)) = true := by rw [decide_eq_true h4, decide_eq_true (show 0 ≤ n by omega), decide_eq_true (show n ≤ 1125899906842624 by omega)]; simp
              rw [e]
              cases hv : nodeB k p q s with
              | false => exact formed_F1 k n p q s A l c w hsz h0 (by omega) (by omega) h3 h4 hv
              | true =>
                refine formed_T1 k n p q s A l c w hsz h0 (by omega) (by omega) h3 h4 hv _ (fun w' g hx hg hgl => ?_)
                refine containsF_c Q l A c g w' (formedB nodeB) (by omega) (fun w2 hx2 j x hj => ((hk j x hj).ex hx).ex hx2) (fun w2 hx2 x k n p q s B m c hxl htx => ?_)
                refine inner_c (formedB nodeB x) g k n p q s B m c w2 ((hx2.below.cell (p := ⟨g, 0, none⟩) hgl).trans hg) (Nat.lt_of_lt_of_le hgl hx2.below.size) (fun w3 hx3 => ?_)
                exact ih x Q w3 k n p q s B m c (by have := mem_le_sum (l.map Tr.size) x.size (List.mem_map.2 ⟨x, hxl, rfl⟩); omega) (by omega) (hm.kid x hxl) (htx.ex hx3)
        · have e : (true && (decide (n = 0) || decide (k = 1)) && decide (0 ≤ n) && decide (n ≤ 1125899906842624)) = false := by rw [decide_eq_false h3, decide_eq_false h4]; simp
          rw [e]
          exact formed_B k n p q s A l c w hsz h0 h3 h4
    · rw [decide_eq_false h0]
      simp only [Bool.false_and]
      exact formed_A k n p q s A l c w hsz h0
/-- a tree is written -/
def validB (t : Tr) : Bool := smallB t && formedB nodeB t
set_option maxHeartbeats 800000 in
theorem valid_c (t : Tr) (Q : Nat → Prop) (w : World) (k n p q : Int) (s : ByteArray) (A : Option Addr) (m c : Nat) (hs : t.size ≤ 1000000) (hm : NmOk t) (ht : TrC Q w t (c6 k n p q s A m c)) :
    Calls Tryz.prog 21 #[.agg #[.int .i64 k, .int .i64 n, .int .i64 p, .int .i64 q, .string s, .slice A m c]] w (Ret w (.bool (validB t))) := by
  have H1 := Lib.hid (fun w' (hx : Ex w w') => small_t t Q w' k n p q s A m c hs (ht.ex hx))
  have H2 := Lib.hid (fun w' (hx : Ex w w') => formed_c t.size t Q w' k n p q s A m c (Nat.le_refl _) hs hm (ht.ex hx))
  unfold validB
  generalize smallB t = a at *
  generalize formedB nodeB t = b at *
  clear ht hs hm
  cases a
  · go_enter Tryz.func21, Tryz.ntmps21
    go_wp2_with fail
    refine (H1.out _ ((Ex.refl _).alloc _)).mono ?_
    rintro e w' ⟨rfl, z, rfl⟩
    go_wp2_with fail
    go_ret
    exact Ret.mk rfl (((Ex.refl _).alloc _).ext _)
  · go_enter Tryz.func21, Tryz.ntmps21
    go_wp2_with fail
    refine (H1.out _ ((Ex.refl _).alloc _)).mono ?_
    rintro e w' ⟨rfl, z, rfl⟩
    go_wp2_with fail
    refine (H2.out _ (((Ex.refl _).alloc _).ext _)).mono ?_
    rintro e w' ⟨rfl, z2, rfl⟩
    go_wp2_with fail
    go_ret
    exact Ret.mk (by simp) ((((Ex.refl _).alloc _).ext _).ext _)
end Go.Proofs.YthjalkonlcjhnaaGreatDoor
