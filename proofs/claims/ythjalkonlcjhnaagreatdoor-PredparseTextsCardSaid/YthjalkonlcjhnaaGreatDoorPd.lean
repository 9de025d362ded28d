/-
  Names, key words and numbers.
  Conditions: texts of at most 20000 bytes; the world's tables are as laid (Env).
-/
import Derived.Test.YthjalkonlcjhnaaGreatDoorPc
import Derived.WalkSmall
import Derived.Lib.SmallJoins
import Derived.Lib.AtoiAll
namespace Go.Proofs.YthjalkonlcjhnaaGreatDoor
open Go.RowKit
def nmB (l : List UInt8) : Bool := decide (0 < nameL l) && decide (nameL l = l.length) && decide (l.length ≤ 16)
theorem nonempty_iff (s : ByteArray) : s.toList.isEmpty = decide (s.size = 0) := by
  rw [Lib.toList_data, Bool.eq_iff_iff, List.isEmpty_iff, decide_eq_true_eq, size_data, List.length_eq_zero_iff]
theorem name_nil (s : ByteArray) (h : s.size = 0) : nmB s.data.toList = false := by
  unfold nmB
  rw [nameL_none s h]
  rfl
theorem name_long (s : ByteArray) (h : 16 < s.size) : nmB s.data.toList = false := by
  unfold nmB
  rw [← size_data, show decide (s.size ≤ 16) = false from decide_eq_false (by omega), Bool.and_false]
theorem name_first (s : ByteArray) (h : 0 < s.size) (hl : letB s[0] = false) : nmB s.data.toList = false := by
  unfold nmB
  rw [nameL_pos s h, hl]
  rfl
theorem span_pos (s : ByteArray) (p : UInt8 → Bool) (h : 0 < s.size) (hp : p s[0] = true) : 0 < spanL p s.data.toList := by
  have h0 := get_idx h
  cases hx : s.data.toList with
  | nil => rw [hx] at h0; simp at h0
  | cons c r =>
    rw [hx] at h0
    have e : s[0] = c := by simpa using h0.symm
    unfold spanL
    rw [List.takeWhile_cons, ← e, hp]
    simp
theorem name_span (s : ByteArray) (h : 0 < s.size) (h16 : s.size ≤ 16) (hl : letB s[0] = true) : nmB s.data.toList = decide (spanL partB s.data.toList = s.size) := by
  unfold nmB
  have h1 := span_pos s partB h (let_part hl)
  rw [nameL_pos s h, hl, if_pos rfl, ← size_data, show decide (s.size ≤ 16) = true from decide_eq_true h16, Bool.and_true, show decide (0 < spanL partB s.data.toList) = true from decide_eq_true h1, Bool.true_and]
theorem isName_c (s : ByteArray) (w : World) (h : s.size ≤ 20000) : Calls Tryz.prog 33 #[.string s] w (Ret w (.bool (nmB s.data.toList))) := by
  have HL := Lib.hid letter_c
  have HP := Lib.hid (fun w => span_part s w h)
  by_cases h0 : s.size = 0
  · rw [name_nil s h0]
    have f1 : s.toList.isEmpty = true := by rw [nonempty_iff]; exact decide_eq_true h0
    clear h0
    go_enter Tryz.func33, Tryz.ntmps33
    go_wp2
    go_ret
    exact Ret.mk rfl (Ex.refl _)
  have f1 : s.toList.isEmpty = false := by rw [nonempty_iff]; exact decide_eq_false h0
  by_cases h16 : 16 < s.size
  · rw [name_long s h16]
    have f2 : decide ((s.size : Int) ≤ 16) = false := decide_eq_false (by omega)
    clear h0
    go_enter Tryz.func33, Tryz.ntmps33
    go_wp2
    go_ret
    exact Ret.mk rfl (Ex.refl _)
  have f2 : decide ((s.size : Int) ≤ 16) = true := decide_eq_true (by omega)
  have h1 : 0 < s.size := by omega
  have HL0 := Lib.hid (HL.out s[0])
  cases hl : letB s[0]
  · rw [name_first s h1 hl]
    rw [hl] at HL0
    clear h0 hl
    go_enter Tryz.func33, Tryz.ntmps33
    go_wp2_with (go_at_call 57; refine (HL0.out _).mono ?_; rintro e w' ⟨rfl, z, rfl⟩)
    go_ret
    exact Ret.mk rfl ((Ex.refl _).ext _)
  · rw [name_span s h1 (by omega) hl]
    rw [hl] at HL0
    clear h0 hl
    generalize spanL partB s.data.toList = N at *
    have b1 : ((N : Int) == (s.size : Int)) = decide (N = s.size) := eq_nat N s.size
    go_enter Tryz.func33, Tryz.ntmps33
    go_wp2_with (first | (go_at_call 57; refine (HL0.out _).mono ?_; rintro e w' ⟨rfl, z, rfl⟩) | (go_at_call 58; refine (HP.out _).mono ?_; rintro e w' ⟨rfl, z2, rfl⟩))
    go_ret
    exact Ret.mk (by simp) (((Ex.refl _).ext _).ext _)
theorem rIsName_c (s : ByteArray) (w : World) (h : s.size ≤ 20000) : Calls Tryz.prog 65 #[.string s] w (Ret w (.bool (nmB s.data.toList))) := by
  have HN := Lib.hid (fun w => rNames_c s w h)
  by_cases h0 : s.size = 0
  · rw [name_nil s h0]
    have f1 : s.toList.isEmpty = true := by rw [nonempty_iff]; exact decide_eq_true h0
    clear h0
    go_enter Tryz.func65, Tryz.ntmps65
    go_wp2
    go_ret
    exact Ret.mk rfl (Ex.refl _)
  have f1 : s.toList.isEmpty = false := by rw [nonempty_iff]; exact decide_eq_false h0
  have h1 : 0 < s.size := by omega
  have hE : nmB s.data.toList = (decide (nameL s.data.toList = s.size) && decide (s.size ≤ 16)) := by
    unfold nmB
    rw [← size_data]
    by_cases hq : nameL s.data.toList = s.size
    · rw [hq, show decide (0 < s.size) = true from decide_eq_true h1]; simp
    · rw [show decide (nameL s.data.toList = s.size) = false from decide_eq_false hq]; simp
  rw [hE]
  clear hE
  generalize nameL s.data.toList = N at *
  have b1 : ((N : Int) == (s.size : Int)) = decide (N = s.size) := eq_nat N s.size
  have b2 : decide ((s.size : Int) ≤ 16) = decide (s.size ≤ 16) := by rw [Bool.eq_iff_iff]; simp; omega
  clear h0
  cases hq : decide (N = s.size)
  all_goals
    rw [hq] at b1
    clear hq
    go_enter Tryz.func65, Tryz.ntmps65
    go_wp2_with (go_at_call 100; refine (HN.out _).mono ?_; rintro e w' ⟨rfl, z, rfl⟩)
    go_ret
    exact Ret.mk (by first | (simp; done) | simp [b2]) ((Ex.refl _).ext _)
def keyB (s : ByteArray) : Bool := Lib.containsS keys s
theorem key_at {s : ByteArray} {k : Nat} (h : keys[k]? = some s) : keyB s = true := (Lib.containsS_iff _ _).2 (List.mem_of_getElem? h)
theorem key_none {s : ByteArray} (h : ∀ j x, j < 11 → keys[j]? = some x → x ≠ s) : keyB s = false := by
  cases hk : keyB s
  · rfl
  · obtain ⟨j, hj, e⟩ := List.mem_iff_getElem.1 ((Lib.containsS_iff _ _).1 hk)
    exact absurd e (h j _ hj (List.getElem?_eq_getElem hj))
theorem isKey_c (s : ByteArray) (w : World) : Calls Tryz.prog 74 #[.string s] w (Ret w (.bool (keyB s))) := by
  have hB : Blk (w.alloc (.cells #[.string ⟨#[116, 114, 117, 101]⟩, .string ⟨#[102, 97, 108, 115, 101]⟩, .string ⟨#[110, 111, 116]⟩, .string ⟨#[97, 110, 100]⟩, .string ⟨#[111, 114]⟩, .string ⟨#[69, 70]⟩, .string ⟨#[65, 70]⟩, .string ⟨#[69, 71]⟩, .string ⟨#[65, 71]⟩, .string ⟨#[99, 111, 117, 110, 116]⟩, .string ⟨#[99, 104, 97, 110, 110, 101, 108]⟩] 9)) w.heap.size 9 (strsV keys) := Blk.new w 9 (strsV keys)
  have HK : Hid (∀ W, Blk W w.heap.size 9 (strsV keys) → Calls Tryz.prog 104 #[.slice (some ⟨w.heap.size, 0, none⟩) 11 11, .string s] W (Ret W (.bool (keyB s)))) := fun W hW => by
    refine (Tryz.slices_Contains_string w.heap.size 0 11 11 keys s W (by decide) (by decide) (fun j hj => ?_)).mono ?_
    · rw [Nat.zero_add, hW.cell j, List.getD_eq_getElem?_getD, List.getElem?_eq_getElem hj]
      exact strs_get (List.getElem?_eq_getElem hj)
    · rintro e w' ⟨rfl, rfl⟩
      rw [show List.take 11 keys = keys from rfl]
      exact ⟨rfl, Ex.refl _⟩
  have HB := Lib.hid hB
  clear hB
  go_enter Tryz.func74, Tryz.ntmps74
  go_wp2_with fail
  refine (HK.out _ HB.out).mono ?_
  rintro e w' ⟨rfl, z, rfl⟩
  go_wp2_with fail
  go_ret
  exact Ret.mk rfl (((Ex.refl _).alloc _).ext _)
theorem bytes_ne {t s : ByteArray} (h : (t.toList == s.toList) = false) : t ≠ s := fun e => by
  subst e
  simp at h
theorem bytes_eq {t s : ByteArray} (h : (t.toList == s.toList) = true) : t = s := by
  have h1 := beq_iff_eq.1 h
  rw [Lib.toList_data, Lib.toList_data] at h1
  cases t; cases s
  congr 1
  exact Array.toList_inj.1 h1
set_option maxHeartbeats 800000 in
theorem rIsKey_c (s : ByteArray) (w : World) : Calls Tryz.prog 102 #[.string s] w (Ret w (.bool (keyB s))) := by
  have HS : Hid (∀ (k : Nat) (t : ByteArray), keys[k]? = some t → (t.toList == s.toList) = true → keyB s = true) := fun k t h1 h2 => by rw [bytes_eq h2] at h1; exact key_at h1
  have HA : Hid ((∀ j x, j < 11 → keys[j]? = some x → x ≠ s) → keyB s = false) := fun h1 => key_none h1
  have HG := Lib.hid keys_get
  have HK := Lib.hid rKeys_c
  generalize keyB s = R at *
  go_enter Tryz.func102, Tryz.ntmps102
  go_wp2_with fail
  refine (HK.out _).mono ?_
  rintro e w1 ⟨g, rfl, hB, hX0⟩
  have HB := Lib.hid hB
  have HX0 := Lib.hid hX0
  clear hB hX0
  go_wp2_with fail
  go_loopw [4] (fun i wr => ∃ k : Nat, i = .int .i64 k ∧ k ≤ 11 ∧ Hid (∀ j x, j < k → keys[j]? = some x → x ≠ s) ∧ Blk wr g 9 (strsV keys) ∧ Ex w wr) (fun i _ => 11 - (intOf i).toNat)
  case atStart => exact ⟨0, rfl, by omega, (fun j _ hj => absurd hj (by omega)), HB.out, HX0.out⟩
  case round =>
    obtain ⟨k, rfl, hk, hall, hb, hx⟩ := hrel
    have HX := Lib.hid hx
    have HBk := Lib.hid hb
    by_cases hlt : k < 11
    · obtain ⟨t, ht⟩ := HG.out k hlt
      have lg := hb.lt
      have hc : wr.cell? ⟨g, k, none⟩ = some (.string t) := (hb.cell k).trans (strs_get ht)
      have HS' := Lib.hid (HS.out k t ht)
      have HAll : Hid ((t.toList == s.toList) = false → ∀ j x, j < k + 1 → keys[j]? = some x → x ≠ s) := fun h0 j x hj hjx => by
        by_cases h : j < k
        · exact hall j x h hjx
        · obtain rfl : j = k := by omega
          rw [ht] at hjx
          injection hjx with hjx
          rw [← hjx]; exact bytes_ne h0
      have hki : (k : Int) < 11 := by omega
      clear hx hb ht
      cases hq : (t.toList == s.toList)
      · have HAll' := Lib.hid (HAll.out hq)
        go_wp2_with fail
        refine ⟨⟨k + 1, by go_num, by omega, HAll'.out, HBk.out, HX.out⟩, by simp [intOf]; omega⟩
      · have e := HS'.out hq
        subst e
        go_wp2_with fail
        go_ret
        exact Ret.mk rfl HX.out
    · obtain rfl : k = 11 := by omega
      have e := HA.out hall
      subst e
      clear hx hb
      go_wp2_with fail
      go_ret
      exact Ret.mk rfl HX.out
/-- what the library's numbers ask of the world -/
def Env (w : World) : Prop := 3 < w.heap.size ∧ ∃ ev, w.cell? ⟨3, 0, none⟩ = some ev ∧ (ev = .nilIface ∨ ∃ te pe, ev = .iface te pe)
theorem Env.ex {w w' : World} (h : Env w) (hx : Ex w w') : Env w' := by
  obtain ⟨h0, ev, h2, h3⟩ := h
  have hb := hx.below
  exact ⟨Nat.le_trans h0 hb.size, ev, (hb.cell (p := ⟨3, 0, none⟩) (by show 3 < _; omega)).trans h2, h3⟩
/-- the value of digits, behind a value -/
def valF : Nat → List UInt8 → Nat
  | a, [] => a
  | a, c :: r => valF (a * 10 + (c.toNat - 48)) r
theorem valF_ge (l : List UInt8) : ∀ a : Nat, a ≤ valF a l := by
  induction l with
  | nil => exact fun _ => Nat.le_refl _
  | cons _ r ih => exact fun _ => Nat.le_trans (by omega) (ih _)
theorem valF_append : ∀ (l m : List UInt8) (a : Nat), valF a (l ++ m) = valF (valF a l) m
  | [], _, _ => rfl
  | _ :: r, m, _ => valF_append r m _
theorem digB_iff (c : UInt8) : digB c = true ↔ 48 ≤ c.toNat ∧ c.toNat ≤ 57 := by simp [digB]
theorem parse_digits : ∀ (l : List UInt8) (a : Nat), a < 18446744073709551616 → l.all digB = true →
    Lib.parseUint10 a l = if valF a l < 18446744073709551616 then .ok (valF a l) else .range
  | [], a, ha, _ => by
    show Lib.NumEnd.ok a = if a < 18446744073709551616 then .ok a else .range
    rw [if_pos ha]
  | c :: r, a, ha, h => by
    rw [List.all_cons, Bool.and_eq_true, digB_iff] at h
    obtain ⟨hc, hr⟩ := h
    unfold Lib.parseUint10
    rw [if_pos hc]
    have hge := valF_ge r (a * 10 + (c.toNat - 48))
    by_cases h1 : 1844674407370955162 ≤ a
    · rw [if_pos h1, if_neg]
      show ¬ valF (a * 10 + (c.toNat - 48)) r < _
      omega
    · rw [if_neg h1]
      by_cases h2 : 18446744073709551616 ≤ a * 10 + (c.toNat - 48)
      · rw [if_pos h2, if_neg]
        show ¬ valF (a * 10 + (c.toNat - 48)) r < _
        omega
      · rw [if_neg h2, parse_digits r _ (by omega) hr]
        rfl
theorem atoi_dig : ∀ l : List UInt8, l ≠ [] → l.all digB = true → (Lib.atoiAll l = .range ∧ 1125899906842624 < valF 0 l) ∨ Lib.atoiAll l = .ok (valF 0 l)
  | c :: r, _, h2 => by
    have hd : 48 ≤ c.toNat ∧ c.toNat ≤ 57 := by
      rw [List.all_cons, Bool.and_eq_true, digB_iff] at h2
      exact h2.1
    have hp : Lib.parseMag (c :: r) = if valF 0 (c :: r) < 18446744073709551616 then .ok (valF 0 (c :: r)) else .range := by
      unfold Lib.parseMag
      rw [if_neg (by simp), parse_digits (c :: r) 0 (by decide) h2]
    have n43 : ¬ c.toNat = 43 := by omega
    have n45 : ¬ c.toNat = 45 := by omega
    unfold Lib.atoiAll
    dsimp only
    simp only [n43, n45, or_self, if_false]
    rw [hp]
    by_cases hv : valF 0 (c :: r) < 18446744073709551616
    · rw [if_pos hv]
      by_cases hv2 : 9223372036854775808 ≤ valF 0 (c :: r)
      · left
        refine ⟨?_, by omega⟩
        simp [hv2]
      · right
        simp [hv2]
    · left
      rw [if_neg hv]
      exact ⟨rfl, by omega⟩
def AtoiR (w : World) (l : List UInt8) (e : Ending) (w' : World) : Prop :=
  (e = .returned (.tuple #[.int .i64 (valF 0 l : Nat), .nilIface]) ∧ Ex w w') ∨ (1125899906842624 < valF 0 l ∧ ∃ v N, e = .returned (.tuple #[.int .i64 v, .iface 151 (.pointer (some ⟨N, 0, none⟩))]) ∧ Ex w w')
theorem atoi_c (s : ByteArray) (w : World) (hE : Env w) (hs : s.size ≤ 20000) (h0 : 0 < s.size) (h : s.data.toList.all digB = true) : Calls Tryz.prog 129 #[.string s] w (AtoiR w s.data.toList) := by
  have hne : s.data.toList ≠ [] := fun e => by rw [size_data, e] at h0; simp at h0
  rcases atoi_dig _ hne h with ⟨h1, h2⟩ | h1
  · obtain ⟨-, ev, hv, hev⟩ := hE
    refine (Tryz.strconv_Atoi_range s (by omega) h1 ev w hv hev).mono ?_
    rintro e w' ⟨N, rfl, -, -, hb⟩
    exact .inr ⟨h2, _, N, rfl, Ex.of hb⟩
  · refine (Tryz.strconv_Atoi_ok s (by omega) _ h1 w).mono ?_
    rintro e w' ⟨rfl, hw⟩
    refine .inl ⟨rfl, ?_⟩
    rcases hw with rfl | ⟨t, rfl⟩
    · exact Ex.refl _
    · exact Ex.of (Joins.below_bytesWorld _ w 5 t (Nat.le_refl _))
/-- the error of digits -/
def numE (l : List UInt8) : Nat := if decide (1 < l.length) && decide (l.head? = some 48) then 3 else if valF 0 l ≤ 1125899906842624 then 0 else 9
theorem head_get (s : ByteArray) (h : 0 < s.size) : s.data.toList.head? = some s[0] := by
  rw [List.head?_eq_getElem?]; exact get_idx h
theorem zero_iff (s : ByteArray) (h : 0 < s.size) : decide (s.data.toList.head? = some 48) = ((s[0].toNat : Int) == 48) := by
  rw [head_get s h, Bool.eq_iff_iff, decide_eq_true_eq, beq_iff_eq]
  constructor
  · intro e; injection e with e; rw [e]; rfl
  · intro e
    congr 1
    apply UInt8.toNat_inj.1
    show s[0].toNat = 48
    omega
theorem num_zero (s : ByteArray) (h1 : 1 < s.size) (h2 : ((s[0].toNat : Int) == 48) = true) : numE s.data.toList = 3 := by
  unfold numE
  rw [zero_iff s (by omega), h2, ← size_data, decide_eq_true h1]
  rfl
theorem num_one (s : ByteArray) (h0 : 0 < s.size) (h1 : ¬ 1 < s.size ∨ ((s[0].toNat : Int) == 48) = false) : numE s.data.toList = if valF 0 s.data.toList ≤ 1125899906842624 then 0 else 9 := by
  unfold numE
  rw [zero_iff s h0, ← size_data]
  rcases h1 with h1 | h1
  · rw [decide_eq_false h1]; rfl
  · rw [h1, Bool.and_false]; rfl
set_option maxHeartbeats 800000 in
theorem number_c (s : ByteArray) (w : World) (hE : Env w) (hs : s.size ≤ 20000) (h0 : 0 < s.size) (h : s.data.toList.all digB = true) : Calls Tryz.prog 106 #[.string s] w (Ret w (.int .i64 (numE s.data.toList : Nat))) := by
  have HA := Lib.hid (atoi_c s w hE hs h0 h)
  clear hE h
  by_cases h1 : 1 < s.size ∧ ((s[0].toNat : Int) == 48) = true
  · rw [num_zero s h1.1 h1.2]
    have f1 : decide (1 < (s.size : Int)) = true := decide_eq_true (by omega)
    have f2 := h1.2
    clear h1
    go_enter Tryz.func106, Tryz.ntmps106
    go_wp2_with fail
    go_ret
    exact Ret.mk rfl (Ex.refl _)
  · have h2 : ¬ 1 < s.size ∨ ((s[0].toNat : Int) == 48) = false := by
      by_cases h3 : 1 < s.size
      · right
        cases hq : ((s[0].toNat : Int) == 48)
        · rfl
        · exact absurd ⟨h3, hq⟩ h1
      · exact .inl h3
    rw [num_one s h0 h2]
    have f12 : (decide (1 < (s.size : Int)) = true ∧ ((s[0].toNat : Int) == 48) = false) ∨ decide (1 < (s.size : Int)) = false := by
      rcases h2 with h2 | h2
      · exact .inr (decide_eq_false (by omega))
      · by_cases h3 : 1 < s.size
        · exact .inl ⟨decide_eq_true (by omega), h2⟩
        · exact .inr (decide_eq_false (by omega))
    unfold AtoiR at HA
    generalize valF 0 s.data.toList = V at *
    clear h1 h2
    by_cases hv : V ≤ 1125899906842624
    · rw [if_pos hv]
      have f3 : decide (1125899906842624 < (V : Int)) = false := decide_eq_false (by omega)
      rcases f12 with ⟨f1, f2⟩ | f1
      all_goals
        go_enter Tryz.func106, Tryz.ntmps106
        go_wp2_with fail
        refine (HA.out).mono ?_
        rintro e w' (⟨rfl, z, rfl⟩ | ⟨hbad, -⟩)
        · go_wp2_with fail
          go_ret
          exact Ret.mk rfl ((Ex.refl _).ext _)
        · exact absurd hv (by omega)
    · rw [if_neg hv]
      have f3 : decide (1125899906842624 < (V : Int)) = true := decide_eq_true (by omega)
      rcases f12 with ⟨f1, f2⟩ | f1
      all_goals
        go_enter Tryz.func106, Tryz.ntmps106
        go_wp2_with fail
        refine (HA.out).mono ?_
        rintro e w' (⟨rfl, z, rfl⟩ | ⟨-, v, N, rfl, z, rfl⟩)
        all_goals
          go_wp2_with fail
          go_ret
          exact Ret.mk rfl ((Ex.refl _).ext _)
end Go.Proofs.YthjalkonlcjhnaaGreatDoor
