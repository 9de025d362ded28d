/-
  Letters, digits, names and ranges, walked in the program and in the reference. Equality of names of events. The reference's Find and At, walked. The reference's At, walked.
  Conditions: as each theorem says.
-/
import Derived.Test.YtpmponafjhnegaaGreatDoorYa
import Derived.IntWalk
import Derived.RegionTactic
import Derived.ChangeAlike
import Derived.Lib.SmallJoins
import Derived.Laws.StructEq
import Derived.BigRegion
namespace Go.Proofs.YtpmponafjhnegaaGreatDoor
section
open Go.RowKit
theorem eq_nat (x k : Nat) : ((x : Int) == (k : Int)) = decide (x = k) := by rw [Bool.eq_iff_iff]; simp; omega
theorem letter_c (c : UInt8) (w : World) : Calls Tryz.prog 137 #[.int .u8 (c.toNat : Int)] w (Ret w (.bool (letB c))) := by
  unfold letB
  generalize c.toNat = x
  by_cases a1 : 65 ≤ x <;> by_cases a2 : x ≤ 90 <;> by_cases a3 : 97 ≤ x <;> by_cases a4 : x ≤ 122
  all_goals
    go_enter Tryz.func137, Tryz.ntmps137
    go_wp2
    all_goals
      go_ret
      exact Ret.mk (by first | (simp [*]; done) | (simp [*]; omega)) (Ex.refl _)
theorem rLetter_c (c : UInt8) (w : World) : Calls Tryz.prog 102 #[.int .u8 (c.toNat : Int)] w (Ret w (.bool (letB c))) := by
  unfold letB
  generalize c.toNat = x
  by_cases a1 : 65 ≤ x <;> by_cases a2 : x ≤ 90 <;> by_cases a3 : 97 ≤ x <;> by_cases a4 : x ≤ 122
  all_goals
    go_enter Tryz.func102, Tryz.ntmps102
    go_wp2
    all_goals
      go_ret
      exact Ret.mk (by first | (simp [*]; done) | (simp [*]; omega)) (Ex.refl _)
theorem digit_c (c : UInt8) (w : World) : Calls Tryz.prog 138 #[.int .u8 (c.toNat : Int)] w (Ret w (.bool (digB c))) := by
  unfold digB
  generalize c.toNat = x
  by_cases a1 : 48 ≤ x <;> by_cases a2 : x ≤ 57
  all_goals
    go_enter Tryz.func138, Tryz.ntmps138
    go_wp2
    all_goals
      go_ret
      exact Ret.mk (by first | (simp [*]; done) | (simp [*]; omega)) (Ex.refl _)
theorem rDigit_c (c : UInt8) (w : World) : Calls Tryz.prog 103 #[.int .u8 (c.toNat : Int)] w (Ret w (.bool (digB c))) := by
  unfold digB
  generalize c.toNat = x
  by_cases a1 : 48 ≤ x <;> by_cases a2 : x ≤ 57
  all_goals
    go_enter Tryz.func103, Tryz.ntmps103
    go_wp2
    all_goals
      go_ret
      exact Ret.mk (by first | (simp [*]; done) | (simp [*]; omega)) (Ex.refl _)
def inB (x a b : Int) : Bool := decide (a ≤ x) && decide (x ≤ b)
theorem in_c (x a b : Int) (w : World) : Calls Tryz.prog 87 #[.int .i64 x, .int .i64 a, .int .i64 b] w (Ret w (.bool (inB x a b))) := by
  unfold inB
  by_cases h1 : a ≤ x <;> by_cases h2 : x ≤ b
  all_goals
    go_enter Tryz.func87, Tryz.ntmps87
    go_wp2
    all_goals
      go_ret
      exact Ret.mk (by first | (simp [*]; done) | (simp [*]; omega)) (Ex.refl _)
theorem rValue_c (x : Int) (w : World) : Calls Tryz.prog 104 #[.int .i64 x] w (Ret w (.bool (valB x))) := by
  unfold valB
  by_cases h1 : -1073741824 ≤ x <;> by_cases h2 : x ≤ 1073741824
  all_goals
    go_enter Tryz.func104, Tryz.ntmps104
    go_wp2
    all_goals
      go_ret
      exact Ret.mk (by first | (simp [*]; done) | (simp [*]; omega)) (Ex.refl _)
theorem get_idx {s : ByteArray} {k : Nat} (h : k < s.size) : s.data.toList[k]? = some s[k] := by
  rw [Array.getElem?_toList]
  exact Array.getElem?_eq_getElem h
theorem size_data (s : ByteArray) : s.size = s.data.toList.length := rfl
theorem nonempty_iff (s : ByteArray) : s.toList.isEmpty = decide (s.size = 0) := by
  rw [Lib.toList_data, Bool.eq_iff_iff, List.isEmpty_iff, decide_eq_true_eq, size_data, List.length_eq_zero_iff]
theorem name_nil {s : ByteArray} (h : s.size = 0) : nameB s = false := by
  unfold nameB
  rw [decide_eq_false (by omega : ¬ 1 ≤ s.size)]
  rfl
theorem name_long {s : ByteArray} (h : 16 < s.size) : nameB s = false := by
  unfold nameB
  rw [decide_eq_false (by omega : ¬ s.size ≤ 16)]
  simp
theorem head_idx {s : ByteArray} (h : 0 < s.size) : s.data.toList.head? = some s[0] := by
  rw [List.head?_eq_getElem?]
  exact get_idx h
theorem name_head {s : ByteArray} (h : 0 < s.size) (hl : letB s[0] = false) : nameB s = false := by
  unfold nameB
  rw [head_idx h]
  simp [hl]
theorem name_bad {s : ByteArray} {k : Nat} (h : k < s.size) (hl : prtB s[k] = false) : nameB s = false := by
  have : s.data.toList.all prtB = false := by
    rw [List.all_eq_false]
    exact ⟨s[k], List.mem_of_getElem? (get_idx h), by rw [hl]; decide⟩
  unfold nameB
  rw [this]
  simp
theorem name_good {s : ByteArray} (h : 0 < s.size) (h16 : s.size ≤ 16) (hl : letB s[0] = true) (ha : ∀ j, (hj : j < s.size) → prtB s[j] = true) : nameB s = true := by
  have : s.data.toList.all prtB = true := by
    rw [List.all_eq_true]
    intro x hx
    obtain ⟨i, hi, rfl⟩ := List.getElem_of_mem hx
    have h1 := ha i hi
    have h2 := get_idx (s := s) hi
    rw [List.getElem?_eq_getElem hi] at h2
    rw [Option.some.inj h2]
    exact h1
  unfold nameB
  rw [this, head_idx h, decide_eq_true (by omega : 1 ≤ s.size), decide_eq_true h16]
  simpa using hl
theorem let_prt {c : UInt8} (h : letB c = true) : prtB c = true := by unfold prtB; rw [h]; rfl
set_option maxHeartbeats 1600000 in
theorem isName_c (s : ByteArray) (w : World) (h : s.size ≤ maxLen) : Calls Tryz.prog 113 #[.string s] w (Ret w (.bool (nameB s))) := by
  have HL := Lib.hid (fun c w => letter_c c w)
  have HD := Lib.hid (fun c w => digit_c c w)
  unfold maxLen at h
  by_cases h0 : s.size = 0
  · rw [name_nil h0]
    have f1 : s.toList.isEmpty = true := by rw [nonempty_iff]; exact decide_eq_true h0
    have f2 : decide ((s.size : Int) < 1) = true := decide_eq_true (by omega)
    clear h0
    go_enter Tryz.func113, Tryz.ntmps113
    go_wp2
    go_ret
    exact Ret.mk rfl (Ex.refl _)
  have f1 : s.toList.isEmpty = false := by rw [nonempty_iff]; exact decide_eq_false h0
  have f0 : decide ((s.size : Int) < 1) = false := decide_eq_false (by omega)
  by_cases h16 : 16 < s.size
  · rw [name_long h16]
    have f2 : decide (16 < (s.size : Int)) = true := decide_eq_true (by omega)
    clear h0
    go_enter Tryz.func113, Tryz.ntmps113
    go_wp2
    go_ret
    exact Ret.mk rfl (Ex.refl _)
  have f2 : decide (16 < (s.size : Int)) = false := decide_eq_false (by omega)
  have h1 : 0 < s.size := by omega
  have HL0 := Lib.hid (HL.out s[0])
  cases hl : letB s[0]
  · rw [name_head h1 hl]
    rw [hl] at HL0
    clear h0 hl
    go_enter Tryz.func113, Tryz.ntmps113
    go_wp2_with (go_at_call 137; refine (HL0.out _).mono ?_; rintro e w' ⟨rfl, z, rfl⟩)
    go_ret
    exact Ret.mk rfl ((Ex.refl _).ext _)
  · have HP0 := Lib.hid (let_prt hl)
    have HG : Hid ((∀ j, (hj : j < s.size) → prtB s[j] = true) → nameB s = true) := fun ha => name_good h1 (by omega) hl ha
    have HB : Hid (∀ k, (hk : k < s.size) → prtB s[k] = false → nameB s = false) := fun k hk hb => name_bad hk hb
    rw [hl] at HL0
    clear h0 hl
    generalize nameB s = B at *
    go_enter Tryz.func113, Tryz.ntmps113
    go_wp2_with (go_at_call 137; refine (HL0.out _).mono ?_; rintro e w' ⟨rfl, z, rfl⟩)
    go_loopw [3, 19] (fun _ n wr => ∃ k : Nat, n = .int .i64 k ∧ k ≤ s.size ∧ Hid (∀ j, (hj : j < s.size) → j < k → prtB s[j] = true) ∧ Ex w wr) (fun _ n _ => s.size - (intOf n).toNat)
    case atStart => exact ⟨0, rfl, by omega, fun j hj hjk => by first | omega | (have hj0 : j = 0 := (by omega); subst hj0; exact HP0.out), (Ex.refl _).ext _⟩
    case round =>
      obtain ⟨k, rfl, hk, HA, hx⟩ := hrel
      have HX := Lib.hid hx
      clear hx
      by_cases hlt : k < s.size
      · have hki : (k : Int) < (s.size : Int) := by omega
        have HL' := Lib.hid (HL.out s[k])
        have HD' := Lib.hid (HD.out s[k])
        have hb : ((s[k].toNat : Int) == 95) = decide (s[k].toNat = 95) := eq_nat _ 95
        have hpart : prtB s[k] = (letB s[k] || digB s[k] || decide (s[k].toNat = 95)) := rfl
        have HPt := Lib.hid hpart
        have HStop := Lib.hid (HB.out k hlt)
        clear hpart
        have HAll : Hid (prtB s[k] = true → ∀ j, (hj : j < s.size) → j < k + 1 → prtB s[j] = true) := fun hp j hj hjk => by
          by_cases h : j < k
          · exact HA.out j hj h
          · obtain rfl : j = k := by omega
            exact hp
        generalize letB s[k] = q1 at *
        generalize digB s[k] = q2 at *
        generalize prtB s[k] = q3 at *
        generalize decide (s[k].toNat = 95) = q4 at *
        cases q1 <;> cases q2 <;> cases q4
        all_goals
          have hq := HPt.out
          subst hq
        · have e := HStop.out rfl
          subst e
          go_wp2_with (first | (go_at_call 137; refine (HL'.out _).mono ?_; rintro e w' ⟨rfl, z1, rfl⟩) | (go_at_call 138; refine (HD'.out _).mono ?_; rintro e w' ⟨rfl, z2, rfl⟩))
          go_ret
          exact Ret.mk rfl ((HX.out.ext _).ext _)
        all_goals
          have HAll' := Lib.hid (HAll.out rfl)
          go_wp2_with (first | (go_at_call 137; refine (HL'.out _).mono ?_; rintro e w' ⟨rfl, z1, rfl⟩) | (go_at_call 138; refine (HD'.out _).mono ?_; rintro e w' ⟨rfl, z2, rfl⟩))
          refine ⟨⟨k + 1, by go_num, by omega, HAll'.out, by first | exact HX.out.ext _ | exact (HX.out.ext _).ext _⟩, by simp [intOf]; omega⟩
      · obtain rfl : k = s.size := by omega
        have e := HG.out (fun j hj => HA.out j hj hj)
        subst e
        go_wp2_with fail
        go_ret
        exact Ret.mk rfl HX.out
set_option maxHeartbeats 1600000 in
theorem rName_c (s : ByteArray) (w : World) (h : s.size ≤ maxLen) : Calls Tryz.prog 69 #[.string s] w (Ret w (.bool (nameB s))) := by
  have HL := Lib.hid (fun c w => rLetter_c c w)
  have HD := Lib.hid (fun c w => rDigit_c c w)
  unfold maxLen at h
  by_cases h0 : s.size = 0
  · rw [name_nil h0]
    have f1 : s.toList.isEmpty = true := by rw [nonempty_iff]; exact decide_eq_true h0
    have f2 : decide ((s.size : Int) < 1) = true := decide_eq_true (by omega)
    clear h0
    go_enter Tryz.func69, Tryz.ntmps69
    go_wp2
    go_ret
    exact Ret.mk rfl (Ex.refl _)
  have f1 : s.toList.isEmpty = false := by rw [nonempty_iff]; exact decide_eq_false h0
  have f0 : decide ((s.size : Int) < 1) = false := decide_eq_false (by omega)
  by_cases h16 : 16 < s.size
  · rw [name_long h16]
    have f2 : decide (16 < (s.size : Int)) = true := decide_eq_true (by omega)
    clear h0
    go_enter Tryz.func69, Tryz.ntmps69
    go_wp2
    go_ret
    exact Ret.mk rfl (Ex.refl _)
  have f2 : decide (16 < (s.size : Int)) = false := decide_eq_false (by omega)
  have h1 : 0 < s.size := by omega
  have HL0 := Lib.hid (HL.out s[0])
  cases hl : letB s[0]
  · rw [name_head h1 hl]
    rw [hl] at HL0
    clear h0 hl
    go_enter Tryz.func69, Tryz.ntmps69
    go_wp2_with (go_at_call 102; refine (HL0.out _).mono ?_; rintro e w' ⟨rfl, z, rfl⟩)
    go_ret
    exact Ret.mk rfl ((Ex.refl _).ext _)
  · have HP0 := Lib.hid (let_prt hl)
    have HG : Hid ((∀ j, (hj : j < s.size) → prtB s[j] = true) → nameB s = true) := fun ha => name_good h1 (by omega) hl ha
    have HB : Hid (∀ k, (hk : k < s.size) → prtB s[k] = false → nameB s = false) := fun k hk hb => name_bad hk hb
    rw [hl] at HL0
    clear h0 hl
    generalize nameB s = B at *
    go_enter Tryz.func69, Tryz.ntmps69
    go_wp2_with (go_at_call 102; refine (HL0.out _).mono ?_; rintro e w' ⟨rfl, z, rfl⟩)
    go_loopw [3] (fun n wr => ∃ k : Nat, n = .int .i64 k ∧ 1 ≤ k ∧ k ≤ s.size ∧ Hid (∀ j, (hj : j < s.size) → j < k → prtB s[j] = true) ∧ Ex w wr) (fun n _ => s.size - (intOf n).toNat)
    case atStart => exact ⟨1, rfl, by omega, by omega, fun j hj hjk => by first | omega | (have hj0 : j = 0 := (by omega); subst hj0; exact HP0.out), (Ex.refl _).ext _⟩
    case round =>
      obtain ⟨k, rfl, hk1, hk, HA, hx⟩ := hrel
      have HX := Lib.hid hx
      clear hx
      by_cases hlt : k < s.size
      · have hki : (k : Int) < (s.size : Int) := by omega
        have HL' := Lib.hid (HL.out s[k])
        have HD' := Lib.hid (HD.out s[k])
        have hb : ((s[k].toNat : Int) == 95) = decide (s[k].toNat = 95) := eq_nat _ 95
        have hpart : prtB s[k] = (letB s[k] || digB s[k] || decide (s[k].toNat = 95)) := rfl
        have HPt := Lib.hid hpart
        have HStop := Lib.hid (HB.out k hlt)
        clear hpart
        have HAll : Hid (prtB s[k] = true → ∀ j, (hj : j < s.size) → j < k + 1 → prtB s[j] = true) := fun hp j hj hjk => by
          by_cases h : j < k
          · exact HA.out j hj h
          · obtain rfl : j = k := by omega
            exact hp
        generalize letB s[k] = q1 at *
        generalize digB s[k] = q2 at *
        generalize prtB s[k] = q3 at *
        generalize decide (s[k].toNat = 95) = q4 at *
        cases q1 <;> cases q2 <;> cases q4
        all_goals
          have hq := HPt.out
          subst hq
        · have e := HStop.out rfl
          subst e
          go_wp2_with (first | (go_at_call 102; refine (HL'.out _).mono ?_; rintro e w' ⟨rfl, z1, rfl⟩) | (go_at_call 103; refine (HD'.out _).mono ?_; rintro e w' ⟨rfl, z2, rfl⟩))
          go_ret
          exact Ret.mk rfl ((HX.out.ext _).ext _)
        all_goals
          have HAll' := Lib.hid (HAll.out rfl)
          go_wp2_with (first | (go_at_call 102; refine (HL'.out _).mono ?_; rintro e w' ⟨rfl, z1, rfl⟩) | (go_at_call 103; refine (HD'.out _).mono ?_; rintro e w' ⟨rfl, z2, rfl⟩))
          refine ⟨⟨k + 1, by go_num, by omega, by omega, HAll'.out, by first | exact HX.out.ext _ | exact (HX.out.ext _).ext _⟩, by simp [intOf]; omega⟩
      · obtain rfl : k = s.size := by omega
        have e := HG.out (fun j hj => HA.out j hj hj)
        subst e
        go_wp2_with fail
        go_ret
        exact Ret.mk rfl HX.out
end
section
open Go.RowKit
theorem idGuard : Tryz.prog.eqGuardType Tryz.prog.depth 40 = false := by kernel_rfl
theorem idHeld : Tryz.prog.stoodInHeld 40 = false := by kernel_rfl
theorem idStruct : Tryz.prog.underlying 40 = some (.struct (Tryz.prog.fieldsOf 40)) := by kernel_rfl
theorem eq_id (a b c d : Int) (w : World) : (Op.equalIn 10000 40 (.agg #[.int .i64 a, .int .i64 b]) (.agg #[.int .i64 c, .int .i64 d])).run Tryz.prog w = .ok (a == c && b == d) w := by
  rw [run_equalIn_struct _ _ _ _ _ idStruct idHeld]
  simp only [Program.fieldsOf, Tryz.underlying40]
  by_cases h1 : a = c <;> by_cases h2 : b = d <;> simp [Op.eqFields, go_sem, h1, h2]
theorem neq_id (a b c d : Int) (w : World) : (binOp .neq 40 (.agg #[.int .i64 a, .int .i64 b]) (.agg #[.int .i64 c, .int .i64 d])).run Tryz.prog w = .ok (.bool (!(a == c && b == d))) w := by
  rw [run_neq_struct, eq_id]
  rfl
theorem eql_id (a b c d : Int) (w : World) : (binOp .eql 40 (.agg #[.int .i64 a, .int .i64 b]) (.agg #[.int .i64 c, .int .i64 d])).run Tryz.prog w = .ok (.bool (a == c && b == d)) w := by
  rw [run_eql_struct, eq_id]
  rfl
attribute [go_sem] idGuard neq_id eql_id
end
section
open Go.RowKit
theorem results_id {fn : Func} {p g : Nat} {a b : Value} {w : World} {tmps : Array Value} (h : fn.results = #[.cell p 40]) (hp : tmps.getD p undef = .pointer (some ⟨g, 0, none⟩)) (hB : Blk w g 40 [a, b]) :
    (results fn tmps).run Tryz.prog w = .ok (.agg #[a, b]) w := by
  have h0 : w.cell? ⟨g, 0, none⟩ = some a := hB.cell 0
  have h1 : w.cell? ⟨g, 1, none⟩ = some b := hB.cell 1
  rw [Array.getD_eq_getD_getElem?] at hp
  simp [results, h, hp, go_sem, h0, h1]
def idV (x : Nat × Nat) : Value := .agg #[.int .i64 (x.1 : Nat), .int .i64 (x.2 : Nat)]
/-- no event before (p, i + 1) is of the sort -/
def NoSel (t : List Pr) (Q : Nat × Nat → Prop) (p i : Nat) : Prop := ∀ x, InT t x → Bef x (p, i + 1) → ¬ Q x
theorem NoSel.zero (t : List Pr) (Q : Nat × Nat → Prop) : NoSel t Q 0 0 := fun x hx hb => by
  have := hx.1
  unfold Bef at hb
  simp only at hb
  omega
theorem NoSel.step {t : List Pr} {Q : Nat × Nat → Prop} {p i : Nat} (h : NoSel t Q p i) (hn : ¬ Q (p, i + 1)) : NoSel t Q p (i + 1) := fun x hx hb => by
  by_cases he : x = (p, i + 1)
  · rw [he]; exact hn
  · refine h x hx ?_
    obtain ⟨a, b⟩ := x
    unfold Bef at hb ⊢
    simp only [Prod.mk.injEq] at hb he ⊢
    omega
theorem NoSel.next {t : List Pr} {Q : Nat × Nat → Prop} {p i : Nat} (h : NoSel t Q p i) (hi : evN t p ≤ i) : NoSel t Q (p + 1) 0 := fun x hx hb => by
  refine h x hx ?_
  have h1 := hx.1
  have h2 := hx.2
  obtain ⟨a, b⟩ := x
  unfold Bef at hb ⊢
  simp only at hb h1 h2 ⊢
  by_cases ha : a = p
  · subst ha; omega
  · omega
theorem NoSel.all {t : List Pr} {Q : Nat × Nat → Prop} {p : Nat} (h : NoSel t Q p 0) (hp : t.length ≤ p) : ∀ x, InT t x → ¬ Q x := fun x hx => by
  refine h x hx ?_
  have h1 := hx.1
  have h2 := hx.2
  have h3 : x.1 < t.length := Nat.lt_of_not_le fun hle => by
    unfold evN at h2
    rw [List.getElem?_eq_none hle] at h2
    simp only at h2
    omega
  unfold Bef
  simp only
  omega
theorem NoSel.first {t : List Pr} {Q : Nat × Nat → Prop} {p i : Nat} (h : NoSel t Q p i) (hi : i < evN t p) (hq : Q (p, i + 1)) : IsF t Q (p, i + 1) := ⟨⟨by simp, hi⟩, hq, h⟩
theorem evN_at {t : List Pr} {p : Nat} {x : Pr} (h : t[p]? = some x) : evN t p = x.evs.length := by unfold evN; rw [h]
theorem evAt_at {t : List Pr} {p i : Nat} {x : Pr} {e : Ev} (h : t[p]? = some x) (he : x.evs[i]? = some e) : evAt t p i = some e := by unfold evAt; rw [h]; exact he
theorem sel_at {t : List Pr} {p i : Nat} {e : Ev} {k m : Int} (h : evAt t p i = some e) : Sel t k m (p, i + 1) ↔ e.kind = k ∧ e.msg = m := by
  unfold Sel
  simp only [Nat.add_sub_cancel, h, Option.some.injEq]
  constructor
  · rintro ⟨f, rfl, h1, h2⟩; exact ⟨h1, h2⟩
  · rintro ⟨h1, h2⟩; exact ⟨e, rfl, h1, h2⟩
set_option maxRecDepth 20000 in
set_option maxHeartbeats 1600000 in
theorem rFind_c (t : List Pr) (A : Option Addr) (c : Nat) (k m : Int) (w : World) (hT : TcC w A t) (hs : TSm t) :
    Calls Tryz.prog 105 #[.agg #[.slice A t.length c], .int .i64 k, .int .i64 m] w (Ret w (idV (findO t k m))) := by
  have HT : Hid (∀ w', Ex w w' → TcC w' A t) := fun w' hx => hT.ex hx
  have hl := hs.procs
  have HE : Hid (∀ (p : Nat) (x : Pr), t[p]? = some x → x.evs.length ≤ 100000) := fun p x hx => (hs.each x (List.mem_of_getElem? hx)).2.2.1
  have HF : Hid (∀ x, IsF t (Sel t k m) x → findO t k m = x) := fun x hx => find_first hx
  have HO : Hid ((∀ x, InT t x → ¬ Sel t k m x) → findO t k m = (0, 0)) := fun h => find_none h
  clear hT hs
  generalize findO t k m = F at *
  obtain ⟨W0, hW0⟩ : ∃ W0, W0 = (w.alloc (.cells #[.slice A t.length c] 24)).alloc (.cells #[.int .i64 0, .int .i64 0] 40) := ⟨_, rfl⟩
  have HX0 : Hid (Ex w W0) := by rw [hW0]; exact ((Ex.refl w).alloc _).alloc _
  have HBx : Hid (∀ w', Ex W0 w' → w'.cell? ⟨w.heap.size, 0, none⟩ = some (.slice A t.length c)) := fun w' hx => by
    have : Blk W0 w.heap.size 24 [.slice A t.length c] := by rw [hW0]; exact (Blk.new w _ _).alloc _
    exact (this.ex hx).cell 0
  have HBr : Hid (∀ w', Ex W0 w' → Blk w' (w.heap.size + 1) 40 [.int .i64 0, .int .i64 0]) := fun w' hx => by
    have : Blk W0 (w.heap.size + 1) 40 [.int .i64 0, .int .i64 0] := by
      rw [hW0, show w.heap.size + 1 = (w.alloc (.cells #[.slice A t.length c] 24)).heap.size by simp]
      exact Blk.new _ _ _
    exact this.ex hx
  have hW0s : W0.heap.size = w.heap.size + 2 := by rw [hW0]; simp
  have HW0 := Lib.hid hW0
  clear hW0
  go_enter Tryz.func105, Tryz.ntmps105
  go_wp2_with fail
  rw [← HW0.out]
  go_loopw [7] (fun i wr => ∃ p : Nat, i = .int .i64 p ∧ p ≤ t.length ∧ Hid (NoSel t (Sel t k m) p 0 ∧ Ex W0 wr)) (fun i _ => t.length - (intOf i).toNat)
  case atStart => exact ⟨0, rfl, Nat.zero_le _, Lib.hid ⟨NoSel.zero _ _, Ex.refl _⟩⟩
  case round =>
    obtain ⟨p, rfl, hp, HH⟩ := hrel
    have hb := HBx.out wr HH.out.2
    by_cases hlt : p < t.length
    · have m1 : (p : Int) < (t.length : Int) := by omega
      have m0 : (0 : Int) ≤ (p : Int) := by omega
      obtain ⟨x, hx⟩ : ∃ x, t[p]? = some x := ⟨_, List.getElem?_eq_getElem hlt⟩
      have hel := HE.out p x hx
      go_wp2_with fail
      go_loopw [8] (fun i wr => ∃ j : Nat, i = .int .i64 j ∧ j ≤ x.evs.length ∧ Hid (NoSel t (Sel t k m) p j ∧ Ex W0 wr)) (fun i _ => x.evs.length - (intOf i).toNat)
      case atStart => exact ⟨0, rfl, Nat.zero_le _, HH⟩
      case round =>
        clear hb
        obtain ⟨j, rfl, hj, HH2⟩ := hrel
        have hb := HBx.out _ HH2.out.2
        have hR := HBr.out _ HH2.out.2
        have c0 := hR.cell 0
        have c1 := hR.cell 1
        have f0 := hR.frozen 0
        have f1 := hR.frozen 1
        have hRl := hR.lt
        have hRl2 : w.heap.size < wr.heap.size := by omega
        have HR := Lib.hid hR
        clear hR
        obtain ⟨b, o, hA, hbl, V, vc, E, ec, -, -, g2, -, hE⟩ := HT.out _ (HX0.out.trans HH2.out.2) p x hx
        subst hA
        by_cases hj2 : j < x.evs.length
        · have m2 : (j : Int) < (x.evs.length : Int) := by omega
          have m3 : (0 : Int) ≤ (j : Int) := by omega
          obtain ⟨e, he⟩ : ∃ e, x.evs[j]? = some e := ⟨_, List.getElem?_eq_getElem hj2⟩
          obtain ⟨b2, o2, hA2, hbl2, B, bc, k0, k1, k2, k3, k4, -⟩ := hE j e he
          subst hA2
          have HS := Lib.hid (sel_at (k := k) (m := m) (evAt_at hx he))
          have HI : Hid (j < evN t p) := by rw [evN_at hx]; exact hj2
          clear hE he
          by_cases q1 : e.kind = k
          · have r1 : (e.kind == k) = true := by simp [q1]
            by_cases q2 : e.msg = m
            · have r2 : (e.msg == m) = true := by simp [q2]
              have HQ := Lib.hid (HF.out _ (HH2.out.1.first HI.out (HS.out.2 ⟨q1, q2⟩)))
              clear q1 q2
              go_wp2_with fail
              refine bodyPost_ret (results_id rfl rfl (((HR.out.set_ 0 _).set_ 1 _).alloc _)) rfl ?_
              exact Ret.mk (by rw [HQ.out]; unfold idV; simp) ((((HX0.out.trans HH2.out.2).setCell (p := ⟨w.heap.size + 1, 0, none⟩) (by simp) _).setCell (p := ⟨w.heap.size + 1, 1, none⟩) (by simp) _).alloc _)
            · have r2 : (e.msg == m) = false := by simp [q2]
              have HQ : Hid (¬ Sel t k m (p, j + 1)) := fun h => q2 (HS.out.1 h).2
              clear q1 q2
              go_wp2_with fail
              refine ⟨⟨j + 1, by go_num, by omega, Lib.hid ⟨HH2.out.1.step HQ.out, HH2.out.2.alloc _⟩⟩, by simp [intOf]; omega⟩
          · have r1 : (e.kind == k) = false := by simp [q1]
            have HQ : Hid (¬ Sel t k m (p, j + 1)) := fun h => q1 (HS.out.1 h).1
            clear q1
            go_wp2_with fail
            refine ⟨⟨j + 1, by go_num, by omega, Lib.hid ⟨HH2.out.1.step HQ.out, HH2.out.2.alloc _⟩⟩, by simp [intOf]; omega⟩
        · have m2 : decide ((j : Int) < (x.evs.length : Int)) = false := decide_eq_false (by omega)
          have HI : Hid (evN t p ≤ j) := Lib.hid (by rw [evN_at hx]; omega)
          go_wp2_with fail
          refine ⟨⟨p + 1, by go_num, by omega, Lib.hid ⟨HH2.out.1.next HI.out, HH2.out.2⟩⟩, by simp [intOf]; omega⟩
    · have m1 : decide ((p : Int) < (t.length : Int)) = false := decide_eq_false (by omega)
      have hR := HBr.out _ HH.out.2
      have c0 := hR.cell 0
      have c1 := hR.cell 1
      have f0 := hR.frozen 0
      have f1 := hR.frozen 1
      have hRl := hR.lt
      have HR := Lib.hid hR
      have HQ := Lib.hid (HO.out (HH.out.1.all (by omega)))
      clear hR
      go_wp2_with fail
      refine bodyPost_ret (results_id rfl rfl ((HR.out.set_ 0 _).set_ 1 _)) rfl ?_
      exact Ret.mk (by rw [HQ.out]; rfl) (((HX0.out.trans HH.out.2).setCell (p := ⟨w.heap.size + 1, 0, none⟩) (by simp) _).setCell (p := ⟨w.heap.size + 1, 1, none⟩) (by simp) _)
end
section
open Go.RowKit
def evV (e : Ev) (B : Option Addr) (c : Nat) : Value := .agg #[.int .i64 e.kind, .int .i64 e.peer, .int .i64 e.msg, .int .i64 e.time, .slice B e.asg.length c]
def evCs (e : Ev) (B : Option Addr) (c : Nat) : List Value := [.int .i64 e.kind, .int .i64 e.peer, .int .i64 e.msg, .int .i64 e.time, .slice B e.asg.length c]
theorem results_ev {fn : Func} {p g : Nat} {a b c d e : Value} {w : World} {tmps : Array Value} (h : fn.results = #[.cell p 38]) (hp : tmps.getD p undef = .pointer (some ⟨g, 0, none⟩)) (hB : Blk w g 38 [a, b, c, d, e]) :
    (results fn tmps).run Tryz.prog w = .ok (.agg #[a, b, c, d, e]) w := by
  have h0 : w.cell? ⟨g, 0, none⟩ = some a := hB.cell 0
  have h1 : w.cell? ⟨g, 1, none⟩ = some b := hB.cell 1
  have h2 : w.cell? ⟨g, 2, none⟩ = some c := hB.cell 2
  have h3 : w.cell? ⟨g, 3, none⟩ = some d := hB.cell 3
  have h4 : w.cell? ⟨g, 4, none⟩ = some e := hB.cell 4
  rw [Array.getD_eq_getD_getElem?] at hp
  simp [results, h, hp, go_sem, h0, h1, h2, h3, h4]
/-- what At hands back -/
def AtR (t : List Pr) (x : Nat × Nat) (w : World) (e : Ending) (w' : World) : Prop := ∃ ev B bc, evAt t x.1 (x.2 - 1) = some ev ∧ e = .returned (evV ev B bc) ∧ Row w' B (asgV ev.asg) ∧ Ex w w'
set_option maxRecDepth 20000 in
set_option maxHeartbeats 1600000 in
theorem rAt_c (t : List Pr) (A : Option Addr) (c p i : Nat) (w : World) (hT : TcC w A t) (hs : TSm t) (hx : i < evN t p) :
    Calls Tryz.prog 67 #[.agg #[.slice A t.length c], .agg #[.int .i64 p, .int .i64 ((i : Int) + 1)]] w (AtR t (p, i + 1) w) := by
  obtain ⟨e, he⟩ := evAt_some hx
  obtain ⟨x, hpx⟩ : ∃ x, t[p]? = some x := by
    cases h : t[p]? with
    | none => unfold evN at hx; rw [h] at hx; simp at hx
    | some x => exact ⟨x, rfl⟩
  have hxe : x.evs[i]? = some e := by unfold evAt at he; rw [hpx] at he; exact he
  have hp := (List.getElem?_eq_some_iff.1 hpx).1
  have hi := (List.getElem?_eq_some_iff.1 hxe).1
  have hl := hs.procs
  have hel := (hs.each x (List.mem_of_getElem? hpx)).2.2.1
  obtain ⟨W0, hW0⟩ : ∃ W0, W0 = ((w.alloc (.cells #[.slice A t.length c] 24)).alloc (.cells #[.int .i64 p, .int .i64 ((i : Int) + 1)] 40)).alloc (.cells #[.int .i64 0, .int .i64 0, .int .i64 0, .int .i64 0, .slice none 0 0] 38) := ⟨_, rfl⟩
  have HX0 : Hid (Ex w W0) := by rw [hW0]; exact (((Ex.refl w).alloc _).alloc _).alloc _
  have hB0 : Blk W0 w.heap.size 24 [.slice A t.length c] := by rw [hW0]; exact ((Blk.new w _ _).alloc _).alloc _
  have hB1 : Blk W0 (w.heap.size + 1) 40 [.int .i64 p, .int .i64 ((i : Int) + 1)] := by
    rw [hW0, show w.heap.size + 1 = (w.alloc (.cells #[.slice A t.length c] 24)).heap.size by simp]
    exact (Blk.new _ _ _).alloc _
  have hB2 : Blk W0 (w.heap.size + 1 + 1) 38 [.int .i64 0, .int .i64 0, .int .i64 0, .int .i64 0, .slice none 0 0] := by
    rw [hW0, show w.heap.size + 1 + 1 = ((w.alloc (.cells #[.slice A t.length c] 24)).alloc (.cells #[.int .i64 p, .int .i64 ((i : Int) + 1)] 40)).heap.size by simp]
    exact Blk.new _ _ _
  obtain ⟨b, o, hA, hbl, V, vc, E, ec, -, -, g2, -, hE⟩ := hT.ex HX0.out p x hpx
  obtain ⟨b2, o2, hA2, hbl2, B, bc, k0, k1, k2, k3, k4, hRow, -⟩ := hE i e hxe
  have hbw : b < w.heap.size := by
    obtain ⟨b', o', hA', h, -⟩ := hT p x hpx
    rw [hA] at hA'
    cases hA'
    exact h
  have hRw0 : Row w B (asgV e.asg) := by
    obtain ⟨b', o', hA', h, V', vc', E', ec', -, -, g2', -, hE'⟩ := hT p x hpx
    rw [hA] at hA'
    cases hA'
    have hc : W0.cell? ⟨b, o + p * 3 + 2, none⟩ = w.cell? ⟨b, o + p * 3 + 2, none⟩ := HX0.out.below.cell h
    rw [g2, g2'] at hc
    cases hc
    obtain ⟨b3, o3, hA3, h3, B', bc', -, -, -, -, k4', hr, -⟩ := hE' i e hxe
    rw [hA2] at hA3
    cases hA3
    have hc : W0.cell? ⟨b2, o2 + i * 5 + 4, none⟩ = w.cell? ⟨b2, o2 + i * 5 + 4, none⟩ := HX0.out.below.cell h3
    rw [k4, k4'] at hc
    cases hc
    exact hr
  have HRwx : Hid (∀ w', Ex w w' → Row w' B (asgV e.asg)) := fun w' hx => hRw0.ex hx
  have hb2w : b2 < w.heap.size := by
    obtain ⟨b', o', hA', h, V', vc', E', ec', -, -, g2', -, hE'⟩ := hT p x hpx
    rw [hA] at hA'
    cases hA'
    have hc : W0.cell? ⟨b, o + p * 3 + 2, none⟩ = w.cell? ⟨b, o + p * 3 + 2, none⟩ := HX0.out.below.cell h
    rw [g2, g2'] at hc
    cases hc
    obtain ⟨b3, o3, hA3, h3, -⟩ := hE' i e hxe
    rw [hA2] at hA3
    cases hA3
    exact h3
  have x0 := hB0.cell 0
  have x1 := hB1.cell 0
  have x2 := hB1.cell 1
  have y0 := hB2.cell 0
  have y1 := hB2.cell 1
  have y2 := hB2.cell 2
  have y3 := hB2.cell 3
  have y4 := hB2.cell 4
  have z0 := hB2.frozen 0
  have z1 := hB2.frozen 1
  have z2 := hB2.frozen 2
  have z3 := hB2.frozen 3
  have z4 := hB2.frozen 4
  have l0 := hB0.lt
  have l1 := hB1.lt
  have l2 := hB2.lt
  have HB2 := Lib.hid hB2
  subst hA hA2
  have HAt : Hid (evAt t p i = some e) := he
  have m0 : (0 : Int) ≤ (p : Int) := by omega
  have m1 : (p : Int) < (t.length : Int) := by omega
  have m2 : (0 : Int) ≤ (i : Int) := by omega
  have m3 : (i : Int) < (x.evs.length : Int) := by omega
  have n0 : b ≠ w.heap.size := by omega
  have n1 : b ≠ w.heap.size + 1 := by omega
  have n2 : b ≠ w.heap.size + 1 + 1 := by omega
  have n3 : b2 ≠ w.heap.size + 1 + 1 := by omega
  have n4 : w.heap.size ≠ w.heap.size + 1 + 1 := by omega
  have n5 : w.heap.size + 1 ≠ w.heap.size + 1 + 1 := by omega
  have e1 : IntKind.i64.wrap ((i : Int) + 1 - 1) = (i : Int) := by rw [IntWalk.i64_in _ (by omega)]; omega
  have HW0 := Lib.hid hW0
  clear hT hs hE hRow hRw0 he hpx hxe hB0 hB1 hB2 hW0
  unfold AtR
  go_enter Tryz.func67, Tryz.ntmps67
  go_wp2_with fail
  rw [← HW0.out]
  have r0 : w.heap.size ≤ w.heap.size + 1 + 1 := by omega
  generalize w.heap.size + 1 + 1 = R at *
  generalize w.heap.size + 1 = R1 at *
  generalize hR0 : w.heap.size = R0 at *
  go_region
  all_goals
    go_wp2_with fail
    have hb1 := (((((HB2.out.set_ 0 (.int .i64 e.kind)).set_ 1 (.int .i64 e.peer)).set_ 2 (.int .i64 e.msg)).set_ 3 (.int .i64 e.time)).set_ 4 (.slice B e.asg.length bc)).drew
    have hx1 : Ex W0 W0 := Ex.refl _
    have hr0 : w.heap.size ≤ R := by omega
    refine bodyPost_ret (results_ev rfl rfl hb1) rfl ?_
    have hxx := ((((((HX0.out.setCell (p := ⟨R, 0, none⟩) hr0 (.int .i64 e.kind)).setCell (p := ⟨R, 1, none⟩) hr0 (.int .i64 e.peer)).setCell (p := ⟨R, 2, none⟩) hr0 (.int .i64 e.msg)).setCell (p := ⟨R, 3, none⟩) hr0 (.int .i64 e.time)).setCell (p := ⟨R, 4, none⟩) hr0 (.slice B e.asg.length bc)).drew)
    exact ⟨e, B, bc, HAt.out, rfl, HRwx.out _ hxx, hxx⟩
end
end Go.Proofs.YtpmponafjhnegaaGreatDoor
