/-
  The reference's number, walked. The reference's find, walked. The reference's reader of words: words, next, fail, skip and missing, walked. The reference's reader of words: name, integer and pair, walked. The reference's pair, walked. The line of an event, read by the reference: walked.
  Conditions: as each theorem says.
-/
import Derived.Test.YtpmponafjhnegaaGreatDoorMb
import Derived.Test.YtpmponafjhnegaaGreatDoorMh
import Derived.Deep.LoopGhost
import Derived.Test.YtpmponafjhnegaaGreatDoorMg
import Derived.Deep.Cut
import Derived.Deep.CutBlock
import Derived.BigQuiet
import Derived.BigRegion
import Derived.RegionTactic
import Derived.ChangeAlike
namespace Go.Proofs.YtpmponafjhnegaaGreatDoor
section
open Go.RowKit Nu
/-- a number that stops growing above the greatest -/
def sat (n : Nat) : Nat := if n ≤ 1125899906842624 then n else 1125899906842625
theorem sat_step (n c : Nat) : sat (10 * n + c) = (if 10 * sat n + c ≤ 1125899906842625 then 10 * sat n + c else 1125899906842625) := by
  unfold sat
  repeat' split
  all_goals omega
theorem sat_le (n : Nat) : sat n ≤ 1125899906842625 := by unfold sat; split <;> omega
/-- where the digits stand -/
def NumC (s D : ByteArray) : Prop := (∃ h : 0 < s.size, ((s[0].toNat : Int) == 45) = true ∧ s.extract 1 s.size = D) ∨ (s = D ∧ ∃ h : 0 < s.size, ((s[0].toNat : Int) == 45) = false) ∨ (s = D ∧ s.size = 0)
theorem rnum_empty (s D : ByteArray) (w : World) (hs : s.size ≤ 20000) (hC : NumC s D) (h0 : D.size = 0) : Calls Tryz.prog 70 #[.string s] w (Ret w (Two 0 3)) := by
  have f2 : D.toList.isEmpty = true := by rw [nonempty_iff]; exact decide_eq_true h0
  unfold Two
  rcases hC with ⟨h1, h2, h3⟩ | ⟨h1, h2, h3⟩ | ⟨h1, h2⟩
  · go_enter Tryz.func70, Tryz.ntmps70
    go_wp2_with fail
    go_ret2
    exact Ret.mk rfl (Ex.refl _)
  · subst h1; omega
  · subst h1
    clear h0
    go_enter Tryz.func70, Tryz.ntmps70
    go_wp2_with fail
    go_ret2
    exact Ret.mk rfl (Ex.refl _)
theorem rnum_zero (s D : ByteArray) (w : World) (hs : s.size ≤ 20000) (hC : NumC s D) (h0 : 0 < D.size) (f5 : ((D[0].toNat : Int) == 48) = true) (f6 : (s.toList == [48]) = false) : Calls Tryz.prog 70 #[.string s] w (Ret w (Two 0 3)) := by
  have f2 : D.toList.isEmpty = false := by rw [nonempty_iff]; exact decide_eq_false (by omega)
  have f7 : (s.toList != [48]) = true := by unfold bne; rw [f6]; rfl
  have f8 : (!s.toList == [48]) = true := by rw [f6]; rfl
  unfold Two
  rcases hC with ⟨h1, h2, h3⟩ | ⟨h1, h2, h3⟩ | ⟨h1, h2⟩
  · go_enter Tryz.func70, Tryz.ntmps70
    go_wp2_with fail
    go_ret2
    exact Ret.mk rfl (Ex.refl _)
  · subst h1
    go_enter Tryz.func70, Tryz.ntmps70
    go_wp2_with fail
    go_ret2
    exact Ret.mk rfl (Ex.refl _)
  · subst h1; omega
set_option maxRecDepth 20000 in
set_option maxHeartbeats 3200000 in
theorem rnum_loop (s D : ByteArray) (w : World) (hs : s.size ≤ 20000) (hC : NumC s D) (hD : bs (pdig s.data.toList) = D) (h0 : 0 < D.size) (hz : (((D[0].toNat : Int) == 48) = true ∧ (s.toList == [48]) = true) ∨ ((D[0].toNat : Int) == 48) = false)
    (hF : formOk s.data.toList = D.data.toList.all isDig) : Calls Tryz.prog 70 #[.string s] w (Ret w (Two (parV s.data.toList) (parE s.data.toList))) := by
  have hDl : D.data.toList = pdig s.data.toList := by rw [← hD]
  have hDs : D.size ≤ 20000 := by
    have h1 := pdig_len s.data.toList
    rw [size_data, hDl]
    rw [size_data] at hs
    omega
  have f2 : D.toList.isEmpty = false := by rw [nonempty_iff]; exact decide_eq_false (by omega)
  have HBad : Hid (∀ k, (hk : k < D.size) → isDig D[k] = false → parE s.data.toList = 3 ∧ parV s.data.toList = 0) := fun k hk hb => parE_nil (by
    rw [hF, List.all_eq_false]
    exact ⟨D[k], List.mem_of_getElem? (get_idx hk), by rw [hb]; decide⟩)
  have HGood : Hid ((∀ k, (hk : k < D.size) → isDig D[k] = true) → formOk s.data.toList = true) := fun ha => by
    rw [hF, List.all_eq_true]
    intro x hx
    obtain ⟨i, hi, rfl⟩ := List.getElem_of_mem hx
    have h1 := ha i hi
    have h2 := get_idx (s := D) hi
    rw [List.getElem?_eq_getElem hi] at h2
    rw [Option.some.inj h2]
    exact h1
  have HV : Hid (formOk s.data.toList = true → valF 0 D.data.toList ≤ 1125899906842624 → parE s.data.toList = 0 ∧ parV s.data.toList = sgn s.data.toList (valF 0 D.data.toList)) := fun h1 h2 => by
    rw [hDl] at h2 ⊢
    unfold parE parV
    rw [if_pos h1, if_pos h1, if_pos h2, if_pos h2]
    exact ⟨rfl, rfl⟩
  have HO : Hid (formOk s.data.toList = true → ¬ valF 0 D.data.toList ≤ 1125899906842624 → parE s.data.toList = 9 ∧ parV s.data.toList = 0) := fun h1 h2 => by
    rw [hDl] at h2
    unfold parE parV
    rw [if_pos h1, if_pos h1, if_neg h2, if_neg h2]
    exact ⟨rfl, rfl⟩
  have HSn : Hid (∀ k, (hk : k < D.size) → valF 0 (D.data.toList.take (k + 1)) = valF 0 (D.data.toList.take k) * 10 + (D[k].toNat - 48)) := fun k hk => by
    rw [List.take_add_one, get_idx hk, valF_append]
    rfl
  have HTk : Hid (D.data.toList.take D.size = D.data.toList) := by
    have : D.size = D.data.toList.length := by simp
    show _ = _
    rw [this, List.take_length]
  have hz' : (((D[0].toNat : Int) == 48) = true ∧ (!s.toList == [48]) = false) ∨ ((D[0].toNat : Int) == 48) = false := by
    rcases hz with ⟨h1, h2⟩ | h
    · exact .inl ⟨h1, by rw [h2]; rfl⟩
    · exact .inr h
  have HSg1 : Hid (∀ h : 0 < s.size, ((s[0].toNat : Int) == 45) = true → ∀ n, sgn s.data.toList n = -(n : Int)) := fun h h1 n => by
    unfold sgn
    rw [head_idx h, if_pos]
    have := beq_iff_eq.1 h1
    have h2 : s[0].toNat = 45 := by omega
    rw [Option.some.injEq, ← UInt8.toNat_inj]
    exact h2
  have HSg2 : Hid (∀ h : 0 < s.size, ((s[0].toNat : Int) == 45) = false → ∀ n, sgn s.data.toList n = (n : Int)) := fun h h1 n => by
    unfold sgn
    rw [head_idx h, if_neg]
    have := beq_eq_false_iff_ne.1 h1
    rw [Option.some.injEq, ← UInt8.toNat_inj]
    intro h2
    apply this
    have : s[0].toNat = 45 := h2
    omega
  have HLen : Hid (∀ h : 0 < s.size, ((s[0].toNat : Int) == 45) = true → D.size < s.size) := fun h h1 => by
    have h2 : s.data.toList.head? = some s[0] := head_idx h
    rw [size_data, size_data, hDl]
    cases hl : s.data.toList with
    | nil => rw [hl] at h2; cases h2
    | cons a r =>
      rw [hl] at h2
      have h3 : a = s[0] := by simpa using h2
      have h4 : a = 45 := by
        rw [h3, ← UInt8.toNat_inj]
        have := beq_iff_eq.1 h1
        show s[0].toNat = 45
        omega
      show (if a = 45 then r else a :: r).length < _
      rw [if_pos h4]
      simp
  have HD0 := Lib.hid h0
  clear hF hDl hD hz
  unfold Two
  generalize parV s.data.toList = V at *
  generalize parE s.data.toList = E at *
  generalize formOk s.data.toList = F at *
  rcases hC with ⟨p1, p2, p3⟩ | ⟨p1, p2, p3⟩ | ⟨p1, p2⟩
  · have HSgn := Lib.hid (HSg1.out p1 p2)
    have hlen := HLen.out p1 p2
    have hlt0 : decide ((D.size : Int) < (s.size : Int)) = true := decide_eq_true (by omega)
    clear HSg1 HSg2 HLen
    generalize sgn s.data.toList = sg at *
    rcases hz' with ⟨f5, f6⟩ | f5
    all_goals
      go_enter Tryz.func70, Tryz.ntmps70
      go_wp2_with fail
      go_loopg [5, 6] D.size (fun gg N i wx => ∃ k : Nat, N = .int .i64 (sat (valF 0 (D.data.toList.take k)) : Int) ∧ i = .int .i64 (k : Int) ∧ k ≤ D.size ∧ D.size ≤ k + gg ∧ Hid ((∀ j, (hj : j < D.size) → j < k → isDig D[j] = true) ∧ Ex w wx))
      case atStart => exact ⟨0, rfl, rfl, by omega, by omega, Lib.hid ⟨(fun j _ hj => absurd hj (by omega)), Ex.refl _⟩⟩
      case round =>
        obtain ⟨k, rfl, rfl, hk, hkg, HH⟩ := hrel
        by_cases hlt : k < D.size
        · obtain ⟨n8, rfl⟩ : ∃ n8, gk = n8 + 1 := ⟨gk - 1, by omega⟩
          have hki : (k : Int) < (D.size : Int) := by omega
          have HBk := Lib.hid (HBad.out k hlt)
          have HSk := Lib.hid (HSn.out k hlt)
          have HN : Hid (isDig D[k] = true → ∀ j, (hj : j < D.size) → j < k + 1 → isDig D[j] = true) := fun hp j hj hjk => by
            by_cases h : j < k
            · exact HH.out.1 j hj h
            · obtain rfl : j = k := by omega
              exact hp
          have HI : Hid (isDig D[k] = (decide (48 ≤ D[k].toNat) && decide (D[k].toNat ≤ 57))) := rfl
          generalize isDig D[k] = q at *
          obtain ⟨c, hc⟩ : ∃ c : Nat, c = D[k].toNat := ⟨_, rfl⟩
          rw [← hc] at HI HSk
          have hc2 : (D[k].toNat : Int) = (c : Int) := by rw [hc]
          clear hc
          cases q with
          | false =>
            obtain ⟨e1, e2⟩ := HBk.out rfl
            subst e1 e2
            have hi := HI.out
            have d1 : ¬ (48 ≤ c ∧ c ≤ 57) := fun h => by simp [h.1, h.2] at hi
            clear hi
            cases g1 : decide ((c : Int) < 48) <;> cases g2 : decide ((57 : Int) < (c : Int))
            all_goals first | (exfalso; simp only [decide_eq_true_eq, decide_eq_false_iff_not] at g1 g2; omega) | skip
            all_goals
              clear d1
              go_wp2_with fail
              go_ret2
              exact Ret.mk rfl HH.out.2
          | true =>
            have HN' := Lib.hid (HN.out rfl)
            have hi := HI.out
            have d1 : 48 ≤ c ∧ c ≤ 57 := by simpa using hi.symm
            clear hi
            have g1 : decide ((c : Int) < 48) = false := decide_eq_false (by omega)
            have g2 : decide ((57 : Int) < (c : Int)) = false := decide_eq_false (by omega)
            have hst := sat_step (valF 0 (D.data.toList.take k)) (c - 48)
            rw [show 10 * valF 0 (D.data.toList.take k) + (c - 48) = valF 0 (D.data.toList.take (k + 1)) by rw [HSk.out]; omega] at hst
            have hsl := sat_le (valF 0 (D.data.toList.take k))
            have HSt := Lib.hid hst
            clear hst
            generalize sat (valF 0 (D.data.toList.take k)) = a at *
            obtain ⟨d, rfl⟩ : ∃ d, c = d + 48 := ⟨c - 48, by omega⟩
            have hc3 : ((d + 48 : Nat) : Int) = (d : Int) + 48 := by omega
            rw [hc3] at hc2 g1 g2
            have hd : d ≤ 9 := by omega
            have e1 : IntKind.i64.wrap (10 * (a : Int)) = 10 * (a : Int) := IntWalk.i64_in _ (by omega)
            have e2 : IntKind.u8.wrap ((d : Int) + 48 - 48) = (d : Int) := by rw [IntKind.wrap_u8]; omega
            have e3 : IntKind.i64.wrap (d : Int) = (d : Int) := IntWalk.i64_in _ (by omega)
            have e4 : IntKind.i64.wrap (10 * (a : Int) + (d : Int)) = 10 * (a : Int) + (d : Int) := IntWalk.i64_in _ (by omega)
            clear d1
            go_wp2_with fail
            go_roundg n8
            case measure => omega
            case rel =>
              refine ⟨k + 1, ?_, by go_num, by omega, by omega, Lib.hid ⟨HN'.out, HH.out.2⟩⟩
              rw [HSt.out]
              have hmn : min (10 * (a : Int) + (d : Int)) 1125899906842625 = ((if 10 * a + (d + 48 - 48) ≤ 1125899906842625 then 10 * a + (d + 48 - 48) else 1125899906842625 : Nat) : Int) := by
                rw [Int.min_def]
                split <;> split <;> omega
              rw [hmn]
        · obtain rfl : k = D.size := by omega
          have ef := HGood.out (fun j hj => HH.out.1 j hj hj)
          have HT := HTk.out
          rw [HT]
          have HV1 := Lib.hid (HV.out ef)
          have HO1 := Lib.hid (HO.out ef)
          clear HT HV HO ef
          generalize valF 0 D.data.toList = M at *
          by_cases hb : M ≤ 1125899906842624
          · have hsa : sat M = M := by unfold sat; rw [if_pos hb]
            rw [hsa]
            obtain ⟨e1, e2⟩ := HV1.out hb
            rw [HSgn.out] at e2
            subst e1 e2
            have g1 : decide (1125899906842624 < (M : Int)) = false := decide_eq_false (by omega)
            have g3 : IntKind.i64.wrap (-(M : Int)) = -(M : Int) := IntWalk.i64_in _ (by omega)
            clear hb
            go_wp2_with fail
            go_ret2
            exact Ret.mk rfl HH.out.2
          · have hsa : sat M = 1125899906842625 := by unfold sat; rw [if_neg hb]
            rw [hsa]
            obtain ⟨e1, e2⟩ := HO1.out hb
            subst e1 e2
            clear hb
            go_wp2_with fail
            go_ret2
            exact Ret.mk rfl HH.out.2
  · have HSgn := Lib.hid (HSg2.out p2 p3)
    clear HSg1 HSg2 HLen
    generalize sgn s.data.toList = sg at *
    have p4 := p1.symm
    clear p1
    subst p4
    rcases hz' with ⟨f5, f6⟩ | f5
    all_goals
      go_enter Tryz.func70, Tryz.ntmps70
      go_wp2_with fail
      go_loopg [5, 6] D.size (fun gg N i wx => ∃ k : Nat, N = .int .i64 (sat (valF 0 (D.data.toList.take k)) : Int) ∧ i = .int .i64 (k : Int) ∧ k ≤ D.size ∧ D.size ≤ k + gg ∧ Hid ((∀ j, (hj : j < D.size) → j < k → isDig D[j] = true) ∧ Ex w wx))
      case atStart => exact ⟨0, rfl, rfl, by omega, by omega, Lib.hid ⟨(fun j _ hj => absurd hj (by omega)), Ex.refl _⟩⟩
      case round =>
        obtain ⟨k, rfl, rfl, hk, hkg, HH⟩ := hrel
        by_cases hlt : k < D.size
        · obtain ⟨n8, rfl⟩ : ∃ n8, gk = n8 + 1 := ⟨gk - 1, by omega⟩
          have hki : (k : Int) < (D.size : Int) := by omega
          have HBk := Lib.hid (HBad.out k hlt)
          have HSk := Lib.hid (HSn.out k hlt)
          have HN : Hid (isDig D[k] = true → ∀ j, (hj : j < D.size) → j < k + 1 → isDig D[j] = true) := fun hp j hj hjk => by
            by_cases h : j < k
            · exact HH.out.1 j hj h
            · obtain rfl : j = k := by omega
              exact hp
          have HI : Hid (isDig D[k] = (decide (48 ≤ D[k].toNat) && decide (D[k].toNat ≤ 57))) := rfl
          generalize isDig D[k] = q at *
          obtain ⟨c, hc⟩ : ∃ c : Nat, c = D[k].toNat := ⟨_, rfl⟩
          rw [← hc] at HI HSk
          have hc2 : (D[k].toNat : Int) = (c : Int) := by rw [hc]
          clear hc
          cases q with
          | false =>
            obtain ⟨e1, e2⟩ := HBk.out rfl
            subst e1 e2
            have hi := HI.out
            have d1 : ¬ (48 ≤ c ∧ c ≤ 57) := fun h => by simp [h.1, h.2] at hi
            clear hi
            cases g1 : decide ((c : Int) < 48) <;> cases g2 : decide ((57 : Int) < (c : Int))
            all_goals first | (exfalso; simp only [decide_eq_true_eq, decide_eq_false_iff_not] at g1 g2; omega) | skip
            all_goals
              clear d1
              go_wp2_with fail
              go_ret2
              exact Ret.mk rfl HH.out.2
          | true =>
            have HN' := Lib.hid (HN.out rfl)
            have hi := HI.out
            have d1 : 48 ≤ c ∧ c ≤ 57 := by simpa using hi.symm
            clear hi
            have g1 : decide ((c : Int) < 48) = false := decide_eq_false (by omega)
            have g2 : decide ((57 : Int) < (c : Int)) = false := decide_eq_false (by omega)
            have hst := sat_step (valF 0 (D.data.toList.take k)) (c - 48)
            rw [show 10 * valF 0 (D.data.toList.take k) + (c - 48) = valF 0 (D.data.toList.take (k + 1)) by rw [HSk.out]; omega] at hst
            have hsl := sat_le (valF 0 (D.data.toList.take k))
            have HSt := Lib.hid hst
            clear hst
            generalize sat (valF 0 (D.data.toList.take k)) = a at *
            obtain ⟨d, rfl⟩ : ∃ d, c = d + 48 := ⟨c - 48, by omega⟩
            have hc3 : ((d + 48 : Nat) : Int) = (d : Int) + 48 := by omega
            rw [hc3] at hc2 g1 g2
            have hd : d ≤ 9 := by omega
            have e1 : IntKind.i64.wrap (10 * (a : Int)) = 10 * (a : Int) := IntWalk.i64_in _ (by omega)
            have e2 : IntKind.u8.wrap ((d : Int) + 48 - 48) = (d : Int) := by rw [IntKind.wrap_u8]; omega
            have e3 : IntKind.i64.wrap (d : Int) = (d : Int) := IntWalk.i64_in _ (by omega)
            have e4 : IntKind.i64.wrap (10 * (a : Int) + (d : Int)) = 10 * (a : Int) + (d : Int) := IntWalk.i64_in _ (by omega)
            clear d1
            go_wp2_with fail
            go_roundg n8
            case measure => omega
            case rel =>
              refine ⟨k + 1, ?_, by go_num, by omega, by omega, Lib.hid ⟨HN'.out, HH.out.2⟩⟩
              rw [HSt.out]
              have hmn : min (10 * (a : Int) + (d : Int)) 1125899906842625 = ((if 10 * a + (d + 48 - 48) ≤ 1125899906842625 then 10 * a + (d + 48 - 48) else 1125899906842625 : Nat) : Int) := by
                rw [Int.min_def]
                split <;> split <;> omega
              rw [hmn]
        · obtain rfl : k = D.size := by omega
          have ef := HGood.out (fun j hj => HH.out.1 j hj hj)
          have HT := HTk.out
          rw [HT]
          have HV1 := Lib.hid (HV.out ef)
          have HO1 := Lib.hid (HO.out ef)
          clear HT HV HO ef
          generalize valF 0 D.data.toList = M at *
          by_cases hb : M ≤ 1125899906842624
          · have hsa : sat M = M := by unfold sat; rw [if_pos hb]
            rw [hsa]
            obtain ⟨e1, e2⟩ := HV1.out hb
            rw [HSgn.out] at e2
            subst e1 e2
            have g1 : decide (1125899906842624 < (M : Int)) = false := decide_eq_false (by omega)
            have g3 : IntKind.i64.wrap (-(M : Int)) = -(M : Int) := IntWalk.i64_in _ (by omega)
            clear hb
            go_wp2_with fail
            go_ret2
            exact Ret.mk rfl HH.out.2
          · have hsa : sat M = 1125899906842625 := by unfold sat; rw [if_neg hb]
            rw [hsa]
            obtain ⟨e1, e2⟩ := HO1.out hb
            subst e1 e2
            clear hb
            go_wp2_with fail
            go_ret2
            exact Ret.mk rfl HH.out.2
  · subst p1; omega
theorem numC_of (s : ByteArray) : NumC s (bs (pdig s.data.toList)) := by
  by_cases h : 0 < s.size
  · have h2 : s.data.toList.head? = some s[0] := head_idx h
    cases hl : s.data.toList with
    | nil => rw [hl] at h2; cases h2
    | cons a r =>
      rw [hl] at h2
      have h3 : a = s[0] := by simpa using h2
      by_cases h4 : a = 45
      · refine .inl ⟨h, ?_, ?_⟩
        · rw [← h3, h4]; rfl
        · apply ByteArray.ext
          apply Array.toList_inj.1
          have e1 : (bs (pdig (a :: r))).data.toList = r := by show (if a = 45 then r else a :: r) = _; rw [if_pos h4]
          have e2 : s.size = r.length + 1 := by rw [size_data, hl]; rfl
          rw [e1, Lib.extract_data, hl, e2]
          simp
      · refine .inr (.inl ⟨?_, h, ?_⟩)
        · have : pdig (a :: r) = a :: r := by show (if a = 45 then r else a :: r) = _; rw [if_neg h4]
          rw [this, ← hl]
        · rw [← h3]
          apply beq_eq_false_iff_ne.2
          intro h5
          apply h4
          rw [← UInt8.toNat_inj]
          show a.toNat = 45
          omega
  · have h0 : s.size = 0 := by omega
    refine .inr (.inr ⟨?_, h0⟩)
    have : s.data.toList = [] := List.length_eq_zero_iff.1 (by rw [← size_data]; exact h0)
    rw [this]
    apply ByteArray.ext
    apply Array.toList_inj.1
    rw [this]
    rfl
theorem rnumber_c (s : ByteArray) (w : World) (hs : s.size ≤ 20000) : Calls Tryz.prog 70 #[.string s] w (Ret w (Two (parV s.data.toList) (parE s.data.toList))) := by
  obtain ⟨D, hD⟩ : ∃ D : ByteArray, bs (pdig s.data.toList) = D := ⟨_, rfl⟩
  have hDl : D.data.toList = pdig s.data.toList := by rw [← hD]
  have hC : NumC s D := by rw [← hD]; exact numC_of s
  by_cases h0 : D.size = 0
  · have e : formOk s.data.toList = false := by
      have : pdig s.data.toList = [] := by rw [← hDl]; exact List.length_eq_zero_iff.1 h0
      unfold formOk; simp [this]
    obtain ⟨e1, e2⟩ := parE_nil e
    rw [e1, e2]
    exact rnum_empty s D w hs hC h0
  · have h1 : 0 < D.size := by omega
    have hh := head_idx h1
    rw [hDl] at hh
    have hz : ((D[0].toNat : Int) == 48) = decide (D[0] = 48) := by
      rw [Bool.eq_iff_iff, beq_iff_eq, decide_eq_true_eq, ← UInt8.toNat_inj]
      show _ ↔ D[0].toNat = 48
      omega
    have hs48 : (s.toList == [48]) = decide (s.data.toList = [48]) := by
      rw [Lib.toList_data, Bool.eq_iff_iff]; simp
    have hne : (pdig s.data.toList).isEmpty = false := by
      cases hp : pdig s.data.toList with
      | nil => rw [hp] at hh; cases hh
      | cons a b => rfl
    have hform : formOk s.data.toList = ((pdig s.data.toList).all isDig && !(decide (D[0] = 48) && decide (s.data.toList ≠ [48]))) := by
      unfold formOk
      rw [hne, hh]
      simp
    by_cases h5 : D[0] = 48
    · by_cases h6 : s.data.toList = [48]
      · exact rnum_loop s D w hs hC hD h1 (.inl ⟨by rw [hz]; simpa using h5, by rw [hs48]; simpa using h6⟩) (by rw [hform, hDl]; simp [h6])
      · have e : formOk s.data.toList = false := by rw [hform]; simp [h5, h6]
        obtain ⟨e1, e2⟩ := parE_nil e
        rw [e1, e2]
        exact rnum_zero s D w hs hC h1 (by rw [hz]; simpa using h5) (by rw [hs48]; simpa using h6)
    · exact rnum_loop s D w hs hC hD h1 (.inr (by rw [hz]; simpa using h5)) (by rw [hform, hDl]; simp [h5])
end
section
open Go.RowKit Nu
set_option maxRecDepth 20000 in
set_option maxHeartbeats 3200000 in
theorem rfind_c (t : List Pr) (A : Option Addr) (c : Nat) (n : ByteArray) (w : World) (hT : TcC w A t) (hl : t.length ≤ 100000) :
    Calls Tryz.prog 62 #[.agg #[.slice A t.length c], .string n] w (Ret w (.int .i64 (idxV (pIdx n (t.map (·.name)))))) := by
  have HT : Hid (∀ w', Ex w w' → TcC w' A t) := fun w' hx => hT.ex hx
  have HB0 : Hid (∀ w', Ex (w.alloc (.cells #[.slice A t.length c] 24)) w' → Blk w' w.heap.size 24 [.slice A t.length c]) := fun w' hx => (Blk.new w 24 [.slice A t.length c]).ex hx
  have HX0 : Hid (Ex w (w.alloc (.cells #[.slice A t.length c] 24))) := (Ex.refl w).alloc _
  have HAt : Hid (∀ k x, (t.map (·.name))[k]? = some x → (∀ j y, j < k → (t.map (·.name))[j]? = some y → y ≠ n) → x = n → pIdx n (t.map (·.name)) = some k) := fun k x h1 h2 h3 => pIdx_at h1 h2 h3
  have HNo : Hid ((∀ (j : Nat) (y : ByteArray), (t.map (·.name))[j]? = some y → y ≠ n) → pIdx n (t.map (·.name)) = none) := fun h => pIdx_none h
  generalize pIdx n (t.map (·.name)) = R at *
  clear hT
  go_enter Tryz.func62, Tryz.ntmps62
  go_upto_region 1 with fail
  generalize w.alloc (.cells #[.slice A t.length c] 24) = W0 at *
  go_wp2_with fail
  go_loopg [5] t.length (fun gg q wr => ∃ k : Nat, q = .int .i64 (k : Int) ∧ k ≤ t.length ∧ t.length ≤ k + gg ∧ Hid ((∀ j y, j < k → (t.map (·.name))[j]? = some y → y ≠ n) ∧ Ex W0 wr))
  case atStart => exact ⟨0, rfl, Nat.zero_le _, by omega, Lib.hid ⟨fun j y h => absurd h (Nat.not_lt_zero _), Ex.refl _⟩⟩
  case round =>
    obtain ⟨k, rfl, hk, hkg, HH⟩ := hrel
    have a0 := (HB0.out _ HH.out.2).cell 0
    have al := (HB0.out _ HH.out.2).lt
    by_cases hkl : k < t.length
    · obtain ⟨n8, rfl⟩ : ∃ n8, gk = n8 + 1 := ⟨gk - 1, by omega⟩
      have m0 : (0 : Int) ≤ (k : Int) := by omega
      have m1 : (k : Int) < (t.length : Int) := by omega
      obtain ⟨x, hx⟩ : ∃ x, t[k]? = some x := ⟨_, List.getElem?_eq_getElem hkl⟩
      obtain ⟨b, o, rfl, hb, V, vc, E, ec, k0, k1, k2, -, -⟩ := HT.out _ (HX0.out.trans HH.out.2) k x hx
      have hnm : (t.map (·.name))[k]? = some x.name := by rw [List.getElem?_map, hx]; rfl
      have be := bytes_dec x.name n
      have HX := Lib.hid HH.out.2
      have HBf := Lib.hid HH.out.1
      clear HH hx
      by_cases he : x.name = n
      · have e := HAt.out k x.name hnm HBf.out he
        subst e
        rw [decide_eq_true he] at be
        clear he hnm
        generalize x.name = xn at *
        go_wp2_with fail
        go_ret
        exact Ret.mk rfl (HX0.out.trans HX.out)
      · rw [decide_eq_false he] at be
        have HN : Hid (∀ j y, j < k + 1 → (t.map (·.name))[j]? = some y → y ≠ n) := fun j y hj hy => by
          by_cases h : j < k
          · exact HBf.out j y h hy
          · obtain rfl : j = k := by omega
            rw [hnm] at hy
            cases hy
            exact he
        clear he hnm
        generalize x.name = xn at *
        go_wp2_with fail
        go_roundg n8
        case measure => omega
        case rel => exact ⟨k + 1, by go_num, by omega, by omega, Lib.hid ⟨HN.out, HX.out⟩⟩
    · obtain rfl : k = t.length := by omega
      have m1 : decide ((t.length : Int) < (t.length : Int)) = false := decide_eq_false (by omega)
      have e := HNo.out (fun j y hy => HH.out.1 j y (by have := (List.getElem?_eq_some_iff.1 hy).1; simpa using this) hy)
      subst e
      have HX := Lib.hid HH.out.2
      clear HH
      go_wp2_with fail
      go_ret
      exact Ret.mk rfl (HX0.out.trans HX.out)
end
section
open Go.RowKit Nu
theorem spl_next {l : List UInt8} {f k : Nat} (hfk : f ≤ k) (hk : l[k]? = some 32) (hn : ∀ j, f ≤ j → j < k → l[j]? ≠ some 32) : spl 32 (l.drop f) = ((l.drop f).take (k - f)) :: spl 32 (l.drop (k + 1)) := by
  have h1 : l.drop f = (l.drop f).take (k - f) ++ 32 :: l.drop (k + 1) := by
    have h2 : (l.drop f).drop (k - f) = 32 :: l.drop (k + 1) := by
      rw [List.drop_drop, show f + (k - f) = k by omega]
      obtain ⟨hi, he⟩ := List.getElem?_eq_some_iff.1 hk
      rw [List.drop_eq_getElem_cons hi, he]
    rw [← h2, List.take_append_drop]
  have h3 : (32 : UInt8) ∉ (l.drop f).take (k - f) := fun hm => by
    obtain ⟨j, hj⟩ := List.mem_iff_getElem?.1 hm
    rw [List.getElem?_take] at hj
    split at hj
    · rw [List.getElem?_drop] at hj
      exact hn (f + j) (by omega) (by omega) hj
    · cases hj
  conv => lhs; rw [h1]
  exact spl_app _ h3
theorem spl_last {l : List UInt8} {f : Nat} (hn : ∀ j, f ≤ j → l[j]? ≠ some 32) : spl 32 (l.drop f) = [l.drop f] :=
  spl_none fun hm => by
    obtain ⟨j, hj⟩ := List.mem_iff_getElem?.1 hm
    rw [List.getElem?_drop] at hj
    exact hn (f + j) (by omega) hj
theorem ext_data (s : ByteArray) (a b : Nat) : s.extract a b = bs ((s.data.toList.drop a).take (b - a)) := by
  apply ByteArray.ext
  apply Array.toList_inj.1
  rw [Lib.extract_data]
theorem infoStr : (Tryz.prog.info? 9).map (fun i => (i.zero, i.size, i.bytes)) = some (some (.string ⟨#[]⟩), 1, 16) := by kernel_rfl
theorem strV_snoc (ws : List (List UInt8)) (x : List UInt8) : strV ws ++ [.string (bs x)] = strV (ws ++ [x]) := by unfold strV; rw [List.map_append]; rfl
set_option maxRecDepth 20000 in
set_option maxHeartbeats 3200000 in
theorem words_c (s : ByteArray) (w : World) (hl : s.size ≤ 20000) :
    Calls Tryz.prog 93 #[.string s] w (fun e w' => ∃ D c, e = .returned (.slice D (spl 32 s.data.toList).length c) ∧ OwnO w' w.heap.size 9 1 (.slice D (spl 32 s.data.toList).length c) (spl 32 s.data.toList).length (strV (spl 32 s.data.toList)) ∧ Ex w w') := by
  obtain ⟨i0, hi0, hz0, hz1, hz2⟩ := info_parts infoStr
  have HSz := Lib.hid (size_data s)
  have HX0 := Lib.hid (Ex.refl w)
  go_enter Tryz.func93, Tryz.ntmps93
  go_wp2_with fail
  go_loopg [3, 4, 5] s.size (fun gg o f i wr => ∃ (k m : Nat) (done : List (List UInt8)) (D : Option Addr) (c : Nat), o = .slice D done.length c ∧ f = .int .i64 (m : Int) ∧ i = .int .i64 (k : Int) ∧ m ≤ k ∧ k ≤ s.size ∧ s.size ≤ k + gg ∧ done.length ≤ k ∧
    Hid (spl 32 s.data.toList = done ++ spl 32 (s.data.toList.drop m) ∧ (∀ j, m ≤ j → j < k → s.data.toList[j]? ≠ some 32) ∧ OwnO wr w.heap.size 9 1 (.slice D done.length c) done.length (strV done) ∧ Ex w wr))
  case atStart => exact ⟨0, 0, [], none, 0, rfl, rfl, rfl, Nat.le_refl _, Nat.zero_le _, by omega, by simp, Lib.hid ⟨by simp, fun j _ h => absurd h (Nat.not_lt_zero _), OwnO.nil _ _ _ _, HX0.out⟩⟩
  case round =>
    obtain ⟨k, m, done, D, c, rfl, rfl, rfl, hmk, hk, hkg, hdl, HH⟩ := hrel
    by_cases hkl : k < s.size
    · obtain ⟨n8, rfl⟩ : ∃ n8, gk = n8 + 1 := ⟨gk - 1, by omega⟩
      have m1 : (k : Int) < (s.size : Int) := by omega
      have hgi := get_idx (s := s) hkl
      by_cases h32 : s[k] = 32
      · have c1 : ((s[k].toNat : Int) == 32) = true := by rw [h32]; rfl
        rw [h32] at hgi
        obtain ⟨h1, h2, h3, h4⟩ := HH.out
        have hnx := spl_next hmk hgi h2
        have he := ext_data s m k
        have HSp : Hid (spl 32 s.data.toList = (done ++ [(s.data.toList.drop m).take (k - m)]) ++ spl 32 (s.data.toList.drop (k + 1))) := by
          rw [List.append_assoc, h1, hnx]
          exact Lib.hid rfl
        have HV : Hid (strV done ++ [.string (s.extract m k)] = strV (done ++ [(s.data.toList.drop m).take (k - m)])) := by rw [he]; exact strV_snoc _ _
        have HO := Lib.hid h3
        have HX := Lib.hid h4
        have HBs := Lib.hid ((h4.alloc (.cells #[.string (s.extract m k)] 9)).below.size)
        have hll : (done ++ [(s.data.toList.drop m).take (k - m)]).length = done.length + 1 := by simp
        generalize done ++ [(s.data.toList.drop m).take (k - m)] = done2 at *
        have HLl := Lib.hid hll
        clear hnx he h1 h2 h3 h4 hgi h32 HH hll
        go_wp2_with (at_builtin; refine wpList_append_one _ rfl _ _ 30 rfl w.heap.size 9 i0 _ 1 16 Tryz.underlying30 hi0 hz0 hz1 hz2 rfl (.slice D done.length c) done.length (strV done) rfl (OwnO.ex HO.out ((Ex.refl _).alloc _)) _ [.string (s.extract m k)] rfl rfl ?c1 ?c2 ?c3 ?c4 ?c5 ?_)
        try case c1 => exact news_new rfl (by simp)
        try case c2 => first | (intro u hu; simp only [List.mem_cons, List.not_mem_nil, or_false] at hu; subst hu; rfl) | (simp [Value.oneCell']; done)
        try case c3 => omega
        try case c4 => omega
        try case c5 => first | (have hh := HBs.out; omega) | (have hh := HBs.out; simp at hh ⊢; omega)
        intro D' c' w3 ho hg hat hEx
        have HX3 := Lib.hid (hEx w (HX.out.alloc _) (Nat.le_refl _))
        rw [HV.out, ← HLl.out] at ho
        have HO3 := Lib.hid ho
        have HDl : Hid (done2.length ≤ k + 1) := by have := HLl.out; exact Lib.hid (by omega)
        rw [← HLl.out]
        clear ho hg hat hEx HO
        go_wp2_with fail
        go_roundg n8
        case measure => omega
        case rel => exact ⟨k + 1, k + 1, done2, D', c', rfl, by go_num, by go_num, Nat.le_refl _, by omega, by omega, HDl.out, Lib.hid ⟨HSp.out, fun j h1 h2 => by omega, HO3.out, HX3.out⟩⟩
      · have c1 : ((s[k].toNat : Int) == 32) = false := beq_eq_false_iff_ne.2 fun h => h32 (by rw [← UInt8.toNat_inj]; show s[k].toNat = 32; omega)
        have HN : Hid (∀ j, m ≤ j → j < k + 1 → s.data.toList[j]? ≠ some 32) := fun j h1 h2 => by
          by_cases h : j < k
          · exact HH.out.2.1 j h1 h
          · obtain rfl : j = k := by omega
            rw [hgi]
            intro h
            exact h32 (Option.some.inj h)
        clear hgi h32
        go_wp2_with fail
        go_roundg n8
        case measure => omega
        case rel => exact ⟨k + 1, m, done, D, c, rfl, rfl, by go_num, by omega, by omega, by omega, by omega, Lib.hid ⟨HH.out.1, HN.out, HH.out.2.2.1, HH.out.2.2.2⟩⟩
    · obtain rfl : k = s.size := by omega
      have m1 : decide ((s.size : Int) < (s.size : Int)) = false := decide_eq_false (by omega)
      obtain ⟨h1, h2, h3, h4⟩ := HH.out
      have hla := spl_last (l := s.data.toList) (f := m) fun j hj => by
        by_cases h : j < s.size
        · exact h2 j hj h
        · rw [List.getElem?_eq_none (by have := HSz.out; omega)]
          simp
      have he : s.extract m s.size = bs (s.data.toList.drop m) := by
        rw [ext_data, List.take_of_length_le (by rw [List.length_drop, ← HSz.out]; exact Nat.le_refl _)]
      have HSp : Hid (spl 32 s.data.toList = done ++ [s.data.toList.drop m]) := by
        rw [h1, hla]
        exact Lib.hid rfl
      have HV : Hid (strV done ++ [.string (s.extract m s.size)] = strV (spl 32 s.data.toList)) := by rw [he, HSp.out]; exact strV_snoc _ _
      have hll : (spl 32 s.data.toList).length = done.length + 1 := by rw [HSp.out]; simp
      generalize hws : spl 32 s.data.toList = ws at *
      have HWs := Lib.hid hws
      clear hws
      have HO := Lib.hid h3
      have HX := Lib.hid h4
      have HLl := Lib.hid hll
      have HBs := Lib.hid ((h4.alloc (.cells #[.string (s.extract m s.size)] 9)).below.size)
      clear hla he h1 h2 h3 h4 HH hll HSp
      go_wp2_with (at_builtin; refine wpList_append_one _ rfl _ _ 30 rfl w.heap.size 9 i0 _ 1 16 Tryz.underlying30 hi0 hz0 hz1 hz2 rfl (.slice D done.length c) done.length (strV done) rfl (OwnO.ex HO.out ((Ex.refl _).alloc _)) _ [.string (s.extract m s.size)] rfl rfl ?d1 ?d2 ?d3 ?d4 ?d5 ?_)
      try case d1 => exact news_new rfl (by simp)
      try case d2 => first | (intro u hu; simp only [List.mem_cons, List.not_mem_nil, or_false] at hu; subst hu; rfl) | (simp [Value.oneCell']; done)
      try case d3 => omega
      try case d4 => omega
      try case d5 => first | (have hh := HBs.out; omega) | (have hh := HBs.out; simp at hh ⊢; omega)
      intro D' c' w3 ho hg hat hEx
      have HX3 := Lib.hid (hEx w (HX.out.alloc _) (Nat.le_refl _))
      rw [HV.out, ← HLl.out] at ho
      have HO3 := Lib.hid ho
      rw [← HLl.out]
      clear ho hg hat hEx HO
      go_wp2_with fail
      go_ret
      rw [HWs.out]
      exact ⟨D', c', rfl, HO3.out, HX3.out⟩
/-- the reference's reader at block g: the words that are left, the column, the error and its place -/
def RrC (w : World) (base g : Nat) (ws : List (List UInt8)) (col : Nat) (s : Rst) : Prop :=
  ∃ D dc, s.at_ ≤ ws.length ∧ Blk w g 156 [.slice D (ws.length - s.at_) dc, .int .i64 (colA ws col s.at_ : Int), .int .i64 s.e, .int .i64 (s.c : Int)] ∧
    OwnO w base 9 1 (.slice D (ws.length - s.at_) dc) (ws.length - s.at_) (strV (ws.drop s.at_))
theorem colA_zero (ws : List (List UInt8)) (col : Nat) : colA ws col 0 = col := by unfold colA wsL; simp
theorem colA_succ {ws : List (List UInt8)} {a : Nat} {W : List UInt8} (col : Nat) (h : ws[a]? = some W) : colA ws col (a + 1) = colA ws col a + W.length + 1 := by
  unfold colA
  rw [(wsL_take h).2]
  omega
theorem colA_le (ws : List (List UInt8)) (col a : Nat) : colA ws col a ≤ col + wsL ws := by
  have := wsL_le ws a
  unfold colA
  omega
section
variable {w w' : World} {base g : Nat} {ws : List (List UInt8)} {col : Nat} {s : Rst}
theorem RrC.ex (h : RrC w base g ws col s) (hx : Ex w w') : RrC w' base g ws col s := by
  obtain ⟨D, dc, h1, h2, h3⟩ := h
  exact ⟨D, dc, h1, h2.ex hx, h3.ex hx⟩
theorem RrC.lt (h : RrC w base g ws col s) : g < w.heap.size := by
  obtain ⟨D, dc, h1, h2, h3⟩ := h
  exact h2.lt
theorem RrC.cell1 (h : RrC w base g ws col s) : w.cell? ⟨g, 1, none⟩ = some (.int .i64 (colA ws col s.at_ : Int)) := by
  obtain ⟨D, dc, h1, h2, h3⟩ := h
  exact h2.cell 1
theorem RrC.cell2 (h : RrC w base g ws col s) : w.cell? ⟨g, 2, none⟩ = some (.int .i64 s.e) := by
  obtain ⟨D, dc, h1, h2, h3⟩ := h
  exact h2.cell 2
theorem RrC.cell3 (h : RrC w base g ws col s) : w.cell? ⟨g, 3, none⟩ = some (.int .i64 (s.c : Int)) := by
  obtain ⟨D, dc, h1, h2, h3⟩ := h
  exact h2.cell 3
theorem RrC.frozen (h : RrC w base g ws col s) (i : Nat) : w.frozen? ⟨g, i, none⟩ = false := by
  obtain ⟨D, dc, h1, h2, h3⟩ := h
  exact h2.frozen i
theorem RrC.le (h : RrC w base g ws col s) : s.at_ ≤ ws.length := by
  obtain ⟨D, dc, h1, h2, h3⟩ := h
  exact h1
/-- the words' slice -/
theorem RrC.cell0 (h : RrC w base g ws col s) : ∃ D dc, w.cell? ⟨g, 0, none⟩ = some (.slice D (ws.length - s.at_) dc) ∧ ws.length - s.at_ ≤ dc := by
  obtain ⟨D, dc, h1, h2, h3⟩ := h
  obtain ⟨a, c, he, hc, -⟩ := h3.len
  cases he
  exact ⟨D, dc, h2.cell 0, hc⟩
theorem RrC.own_ne {D : Option Addr} {n dc : Nat} {xs cs : List Value} (h : OwnO w base 9 1 (.slice D n dc) n xs) (hB : Blk w g 156 cs) : (Value.slice D n dc).ownBlock ≠ some g := fun e => OwnO.ne h hB (by decide) e.symm
/-- the error and its place are written -/
theorem RrC.err {a c : Nat} {e : Int} (h : RrC w base g ws col ⟨a, e, c⟩) (e' : Int) (c' : Nat) : RrC ((w.setCell ⟨g, 2, none⟩ (.int .i64 e')).setCell ⟨g, 3, none⟩ (.int .i64 (c' : Int))) base g ws col ⟨a, e', c'⟩ := by
  obtain ⟨D, dc, h1, h2, h3⟩ := h
  have hne := RrC.own_ne h3 h2
  exact ⟨D, dc, h1, (h2.set_ 2 _).set_ 3 _, (h3.set_ (p := ⟨g, 2, none⟩) hne _).set_ (p := ⟨g, 3, none⟩) hne _⟩
/-- another block is written -/
theorem RrC.chg {T : TypeId} {row : Option Nat} (h : RrC w base g ws col s) (hc : Chg T w w' row) (h1 : 156 ≠ T) (h2 : 9 ≠ T) : RrC w' base g ws col s := by
  obtain ⟨D, dc, k1, k2, k3⟩ := h
  exact ⟨D, dc, k1, k2.chg hc h1, k3.chg hc h2⟩
end
/-- a method that hands back v and leaves the reader at s -/
def Rrr (w : World) (base g : Nat) (ws : List (List UInt8)) (col : Nat) (v : Value) (s : Rst) (e : Ending) (w' : World) : Prop := e = .returned v ∧ RrC w' base g ws col s ∧ Exg g w w'
section
variable (base g : Nat) (ws : List (List UInt8)) (col : Nat)
theorem rnext_c (s : Rst) (w : World) (h : RrC w base g ws col s) : Calls Tryz.prog 94 #[.pointer (some ⟨g, 0, none⟩)] w (Ret w (.string (bs (nextR ws s)))) := by
  obtain ⟨a, e, c⟩ := s
  obtain ⟨D, dc, hal, hB, hO⟩ := h
  dsimp only at *
  have c0 : w.cell? ⟨g, 0, none⟩ = some (.slice D (ws.length - a) dc) := hB.cell 0
  have lg := hB.lt
  unfold nextR
  by_cases ha : a < ws.length
  · obtain ⟨W, hW⟩ : ∃ W, ws[a]? = some W := ⟨_, List.getElem?_eq_getElem ha⟩
    obtain ⟨n, hn⟩ : ∃ n, ws.length - a = n + 1 := ⟨ws.length - a - 1, by omega⟩
    rw [hn] at c0 hO
    obtain ⟨b, o, cap, hv, hcap, -, -, hbl, hcell⟩ := hO.open_ (by omega)
    cases hv
    have d0 : w.cell? ⟨b, o, none⟩ = some (.string (bs W)) := hcell 0 _ (strV_get (by rw [List.getElem?_drop]; exact hW))
    have b1 : ((n : Int) + 1 == 0) = false := beq_eq_false_iff_ne.2 (by omega)
    have m1 : (0 : Int) < (n : Int) + 1 := by omega
    dsimp only
    rw [hW]
    clear hB hO hW hal hcell hn ha hcap
    go_enter Tryz.func94, Tryz.ntmps94
    go_wp2_with fail
    go_ret
    exact Ret.mk rfl (Ex.refl _)
  · rw [show ws.length - a = 0 by omega] at c0
    dsimp only
    rw [List.getElem?_eq_none (by omega)]
    clear hB hO hal ha
    go_enter Tryz.func94, Tryz.ntmps94
    go_wp2_with fail
    go_ret
    exact Ret.mk rfl (Ex.refl _)
theorem rfail_c (E : Int) (s : Rst) (w : World) (h : RrC w base g ws col s) : Calls Tryz.prog 95 #[.pointer (some ⟨g, 0, none⟩), .int .i64 E] w (Rrr w base g ws col (.tuple #[]) (failR ws col E s)) := by
  have HR := Lib.hid h
  have lg := h.lt
  have c1 := h.cell1
  have c2 := h.cell2
  have c3 := h.cell3
  have f2 := h.frozen 2
  have f3 := h.frozen 3
  obtain ⟨a, e, c⟩ := s
  dsimp only at *
  unfold failR
  dsimp only
  by_cases he : e = 0
  · subst he
    rw [if_pos rfl]
    have HN := Lib.hid (h.err E (colA ws col a))
    clear h
    generalize colA ws col a = C at *
    unfold Rrr
    go_enter Tryz.func95, Tryz.ntmps95
    go_wp2_with fail
    go_end0
    exact ⟨rfl, HN.out, ((Exg.refl g w).seto _ _).seto _ _⟩
  · rw [if_neg he]
    have be : (e == 0) = false := beq_eq_false_iff_ne.2 he
    clear h he
    unfold Rrr
    go_enter Tryz.func95, Tryz.ntmps95
    go_wp2_with fail
    go_end0
    exact ⟨rfl, HR.out, Exg.refl g w⟩
theorem rmissing_c (en : Nat) (s : Rst) (w : World) (h : RrC w base g ws col s) : Calls Tryz.prog 97 #[.pointer (some ⟨g, 0, none⟩), .int .i64 (en : Int)] w (Rrr w base g ws col (.tuple #[]) (missR ws en s)) := by
  have HR := Lib.hid h
  have lg := h.lt
  have c2 := h.cell2
  have c3 := h.cell3
  have f2 := h.frozen 2
  have f3 := h.frozen 3
  obtain ⟨D, dc, c0, -⟩ := h.cell0
  obtain ⟨a, e, c⟩ := s
  dsimp only at *
  unfold missR
  dsimp only
  by_cases ha : ws.length ≤ a
  · rw [show ws.length - a = 0 by omega] at c0
    by_cases he : e = 0
    · subst he
      rw [if_pos ⟨ha, rfl⟩]
      have HN := Lib.hid (h.err 3 en)
      clear h ha
      unfold Rrr
      go_enter Tryz.func97, Tryz.ntmps97
      go_wp2_with fail
      go_end0
      exact ⟨rfl, HN.out, ((Exg.refl g w).seto _ _).seto _ _⟩
    · rw [if_neg (fun h => he h.2)]
      have be : (e == 0) = false := beq_eq_false_iff_ne.2 he
      clear h ha he
      unfold Rrr
      go_enter Tryz.func97, Tryz.ntmps97
      go_wp2_with fail
      go_end0
      exact ⟨rfl, HR.out, Exg.refl g w⟩
  · obtain ⟨n, hn⟩ : ∃ n, ws.length - a = n + 1 := ⟨ws.length - a - 1, by omega⟩
    rw [hn] at c0
    rw [if_neg (fun h => ha h.1)]
    have b1 : ((n : Int) + 1 == 0) = false := beq_eq_false_iff_ne.2 (by omega)
    clear h ha hn
    unfold Rrr
    go_enter Tryz.func97, Tryz.ntmps97
    go_wp2_with fail
    go_end0
    exact ⟨rfl, HR.out, Exg.refl g w⟩
set_option maxRecDepth 20000 in
set_option maxHeartbeats 3200000 in
theorem rskip_c (s : Rst) (w : World) (h : RrC w base g ws col s) (hcw : col + wsL ws ≤ 200000) : Calls Tryz.prog 96 #[.pointer (some ⟨g, 0, none⟩)] w (Rrr w base g ws col (.tuple #[]) (skipR ws s)) := by
  have HR := Lib.hid h
  have c1 := h.cell1
  have f0 := h.frozen 0
  have f1 := h.frozen 1
  obtain ⟨a, e, c⟩ := s
  obtain ⟨D, dc, hal, hB, hO⟩ := h
  dsimp only at *
  have c0 : w.cell? ⟨g, 0, none⟩ = some (.slice D (ws.length - a) dc) := hB.cell 0
  have lg := hB.lt
  unfold skipR
  dsimp only
  by_cases ha : a < ws.length
  · rw [if_pos ha]
    obtain ⟨W, hW⟩ : ∃ W, ws[a]? = some W := ⟨_, List.getElem?_eq_getElem ha⟩
    obtain ⟨n, hn⟩ : ∃ n, ws.length - a = n + 1 := ⟨ws.length - a - 1, by omega⟩
    have hn2 : ws.length - (a + 1) = n := by omega
    rw [hn] at c0 hO
    have hne := RrC.own_ne hO hB
    obtain ⟨b, o, cap, hv, hcap, -, -, hbl, hcell⟩ := hO.open_ (by omega)
    cases hv
    have d0 : w.cell? ⟨b, o, none⟩ = some (.string (bs W)) := hcell 0 _ (strV_get (by rw [List.getElem?_drop]; exact hW))
    have hdr : (strV (ws.drop a)).drop 1 = strV (ws.drop (a + 1)) := by
      unfold strV
      rw [← List.map_drop, List.drop_drop]
    have HTl1 : Hid (dc = 1 → OwnO w base 9 1 (.slice (some ⟨b, o, none⟩) n 0) n (strV (ws.drop (a + 1)))) := fun h1 => by
      subst h1
      have hr0 : n = 0 := by omega
      subst hr0
      have h2 := hO.tail1
      have h3 : strV (ws.drop (a + 1)) = [] := by rw [List.drop_of_length_le (by omega)]; rfl
      rw [h3]
      exact h2
    have HTl2 : Hid (OwnO w base 9 1 (.slice (some ⟨b, o + 1, none⟩) n (dc - 1)) n (strV (ws.drop (a + 1)))) := by
      have h2 := hO.tail
      rw [hdr] at h2
      exact h2
    have hcs := colA_succ col hW
    have hcl := colA_le ws col (a + 1)
    have HD : Hid (∀ v, OwnO w base 9 1 v n (strV (ws.drop (a + 1))) → v.ownBlock ≠ some g → ∀ A m, v = .slice A n m → RrC ((w.setCell ⟨g, 1, none⟩ (.int .i64 ((colA ws col (a + 1) : Nat) : Int))).setCell ⟨g, 0, none⟩ v) base g ws col ⟨a + 1, e, c⟩) := fun v h1 h2 A m hv => by
      subst hv
      refine ⟨A, m, ha, ?_, ?_⟩
      · rw [hn2]
        exact (hB.set_ 1 _).set_ 0 _
      · rw [hn2]
        exact (h1.set_ (p := ⟨g, 1, none⟩) h2 _).set_ (p := ⟨g, 0, none⟩) h2 _
    have hbg : b ≠ g := fun e => hne (by rw [← e]; rfl)
    have hgb : g ≠ b := fun e => hbg e.symm
    have hsW : (bs W).size = W.length := rfl
    generalize colA ws col (a + 1) = K2 at *
    generalize colA ws col a = K at *
    have q1 : IntKind.i64.wrap ((K : Int) + (W.length : Int)) = (K : Int) + (W.length : Int) := IntWalk.i64_in _ (by omega)
    have q2 : IntKind.i64.wrap ((K : Int) + (W.length : Int) + 1) = (K2 : Int) := by rw [IntWalk.i64_in _ (by omega)]; omega
    have m1 : (0 : Int) < (n : Int) + 1 := by omega
    have t1 : decide ((0 : Int) < (n : Int) + 1) = true := decide_eq_true m1
    have m9 : (1 : Int) ≤ (n : Int) + 1 := by omega
    have m10 : 1 ≤ dc := by omega
    have hne2 : ∀ (A : Addr) m k, A.block = b → (Value.slice (some A) m k).ownBlock ≠ some g := fun A m k h1 h2 => by
      simp only [Value.ownBlock, Option.some.injEq] at h2
      exact hbg (h1.symm.trans h2)
    have HNe := Lib.hid hne2
    generalize bs W = TW at *
    clear hB hO hW hal hcell hn hn2 ha hdr hne hcs hcl hne2
    unfold Rrr
    by_cases hd : dc = 1
    · have HT := Lib.hid (HD.out _ (HTl1.out hd) (HNe.out _ _ _ rfl) _ _ rfl)
      clear HD HTl1 HTl2 HNe
      go_enter Tryz.func96, Tryz.ntmps96
      go_upto_region 1 with fail
      go_region
      go_wp2_with fail
      go_end0
      exact ⟨rfl, HT.out.ex (Ex.refl _).drew, (((Exg.refl g w).seto _ _).seto _ _).drew⟩
    · have HT := Lib.hid (HD.out _ HTl2.out (HNe.out _ _ _ rfl) _ _ rfl)
      clear HD HTl1 HTl2 HNe
      go_enter Tryz.func96, Tryz.ntmps96
      go_upto_region 1 with fail
      go_region
      go_wp2_with fail
      go_end0
      exact ⟨rfl, HT.out.ex (Ex.refl _).drew, (((Exg.refl g w).seto _ _).seto _ _).drew⟩
  · rw [if_neg ha]
    rw [show ws.length - a = 0 by omega] at c0
    clear hB hO hal ha
    unfold Rrr
    go_enter Tryz.func96, Tryz.ntmps96
    go_wp2_with fail
    go_end0
    exact ⟨rfl, HR.out, Exg.refl g w⟩
end
end
section
open Go.RowKit Nu
theorem nextR_len (ws : List (List UInt8)) (hws : ∀ w ∈ ws, w.length ≤ 20000) (s : Rst) : (nextR ws s).length ≤ 20000 := by
  unfold nextR
  cases hw : ws[s.at_]? with
  | none => simp
  | some w => exact hws w (List.mem_of_getElem? hw)
section
variable (base g : Nat) (ws : List (List UInt8)) (col : Nat)
set_option maxRecDepth 20000 in
set_option maxHeartbeats 3200000 in
theorem rname_r (hws : ∀ w ∈ ws, w.length ≤ 20000) (hcw : col + wsL ws ≤ 200000) (s : Rst) (w : World) (h : RrC w base g ws col s) :
    Calls Tryz.prog 98 #[.pointer (some ⟨g, 0, none⟩)] w (Rrr w base g ws col (.string (bs (nameR ws col s).1)) (nameR ws col s).2) := by
  have HR := Lib.hid h
  have HN := Lib.hid (rnext_c base g ws col s w h)
  have hlen := nextR_len ws hws s
  have HF := Lib.hid (fun w' (h : RrC w' base g ws col s) => rfail_c base g ws col 3 s w' h)
  have HS := Lib.hid (fun s w' (h : RrC w' base g ws col s) => rskip_c base g ws col s w' h hcw)
  unfold nameR
  dsimp only
  generalize nextR ws s = l at *
  have HNm := Lib.hid (fun w' => rName_c (bs l) w' (by show l.length ≤ _; unfold maxLen; omega))
  generalize bs l = SL at *
  unfold Rrr at *
  clear h hlen hws hcw
  cases hb : nameB SL with
  | true =>
    rw [hb] at HNm
    rw [if_pos rfl]
    have HSs := Lib.hid (HS.out s)
    generalize skipR ws s = s2 at *
    clear HF hb HS
    go_enter Tryz.func98, Tryz.ntmps98
    go_wp2_with fail
    refine (HN.out).mono ?_
    rintro e9 w1 ⟨rfl, hx⟩
    have HX1 := Lib.hid hx
    clear hx
    go_wp2_with fail
    refine (HNm.out _).mono ?_
    rintro e9 w2 ⟨rfl, hx⟩
    have HX2 := Lib.hid (HX1.out.trans hx)
    clear hx
    go_wp2_with fail
    refine (HSs.out _ (HR.out.ex HX2.out)).mono ?_
    rintro e9 w3 ⟨rfl, h1, h2⟩
    have HR3 := Lib.hid h1
    have HG3 := Lib.hid ((Exg.of HX2.out).trans h2)
    clear h1 h2
    go_wp2_with fail
    go_ret
    exact ⟨rfl, HR3.out, HG3.out⟩
  | false =>
    rw [hb] at HNm
    rw [if_neg (by decide)]
    have HSs := Lib.hid (HS.out (failR ws col 3 s))
    generalize failR ws col 3 s = s1 at *
    generalize skipR ws s1 = s2 at *
    clear hb HS
    go_enter Tryz.func98, Tryz.ntmps98
    go_wp2_with fail
    refine (HN.out).mono ?_
    rintro e9 w1 ⟨rfl, hx⟩
    have HX1 := Lib.hid hx
    clear hx
    go_wp2_with fail
    refine (HNm.out _).mono ?_
    rintro e9 w2 ⟨rfl, hx⟩
    have HX2 := Lib.hid (HX1.out.trans hx)
    clear hx
    go_wp2_with fail
    refine (HF.out _ (HR.out.ex HX2.out)).mono ?_
    rintro e9 w3 ⟨rfl, h1, h2⟩
    have HR3 := Lib.hid h1
    have HG3 := Lib.hid ((Exg.of HX2.out).trans h2)
    clear h1 h2
    go_wp2_with fail
    refine (HSs.out _ HR3.out).mono ?_
    rintro e9 w4 ⟨rfl, h1, h2⟩
    have HR4 := Lib.hid h1
    have HG4 := Lib.hid (HG3.out.trans h2)
    clear h1 h2
    go_wp2_with fail
    go_ret
    exact ⟨rfl, HR4.out, HG4.out⟩
set_option maxRecDepth 20000 in
set_option maxHeartbeats 3200000 in
theorem rinteger_c (hws : ∀ w ∈ ws, w.length ≤ 20000) (hcw : col + wsL ws ≤ 200000) (b : List UInt8) (hbl : b.length ≤ 20001) (s : Rst) (w : World) (h : RrC w base g ws col s) :
    Calls Tryz.prog 99 #[.pointer (some ⟨g, 0, none⟩), .string (bs b)] w (Rrr w base g ws col (.int .i64 (intR ws col b s).1) (intR ws col b s).2) := by
  have HR := Lib.hid h
  have HN := Lib.hid (rnext_c base g ws col s w h)
  have hlen := nextR_len ws hws s
  have HF := Lib.hid (fun E w' (h : RrC w' base g ws col s) => rfail_c base g ws col E s w' h)
  have HS := Lib.hid (fun s w' (h : RrC w' base g ws col s) => rskip_c base g ws col s w' h hcw)
  unfold intR
  generalize nextR ws s = l at *
  have hz1 : (bs l).size = l.length := rfl
  have hz2 : (bs b).size = b.length := rfl
  by_cases hlt : l.length < b.length
  · have hp : b.isPrefixOf l = false := by
      rw [Bool.eq_false_iff]
      intro hp
      have := (List.isPrefixOf_iff_prefix.1 hp).length_le
      omega
    have d1 : decide ((l.length : Int) < (b.length : Int)) = true := decide_eq_true (by omega)
    rw [hp, if_neg (by decide)]
    have HSs := Lib.hid (HS.out (failR ws col 3 s))
    have HFs := Lib.hid (HF.out 3)
    generalize failR ws col 3 s = s1 at *
    generalize skipR ws s1 = s2 at *
    unfold Rrr at *
    clear hp h hlen hws hcw HS HF hbl
    generalize bs l = SL at *
    generalize bs b = SB at *
    go_enter Tryz.func99, Tryz.ntmps99
    go_wp2_with fail
    refine (HN.out).mono ?_
    rintro e9 w1 ⟨rfl, hx⟩
    have HX1 := Lib.hid hx
    clear hx
    go_wp2_with fail
    refine (HFs.out _ (HR.out.ex HX1.out)).mono ?_
    rintro e9 w3 ⟨rfl, h1, h2⟩
    have HR3 := Lib.hid h1
    have HG3 := Lib.hid ((Exg.of HX1.out).trans h2)
    clear h1 h2
    go_wp2_with fail
    refine (HSs.out _ HR3.out).mono ?_
    rintro e9 w4 ⟨rfl, h1, h2⟩
    have HR4 := Lib.hid h1
    have HG4 := Lib.hid (HG3.out.trans h2)
    clear h1 h2
    go_wp2_with fail
    go_ret
    exact ⟨rfl, HR4.out, HG4.out⟩
  have d1 : decide ((l.length : Int) < (b.length : Int)) = false := decide_eq_false (by omega)
  have hle : b.length ≤ l.length := by omega
  have hP : (bs l).extract 0 b.length = bs (l.take b.length) := by rw [ext_data]; rfl
  have hpe : ((bs (l.take b.length)).toList == (bs b).toList) = b.isPrefixOf l := by
    rw [bytes_dec, Bool.eq_iff_iff, decide_eq_true_eq, List.isPrefixOf_iff_prefix]
    constructor
    · intro h
      have h2 : l.take b.length = b := congrArg (fun x : ByteArray => x.data.toList) h
      have h3 := List.take_append_drop b.length l
      rw [h2] at h3
      exact ⟨_, h3⟩
    · rintro ⟨r, rfl⟩
      simp
  have hnl : ¬ l.length < b.length := hlt
  cases hp : b.isPrefixOf l with
  | false =>
    rw [hp] at hpe
    generalize bs (l.take b.length) = SP at *
    have hne2 : (!SP.toList == (bs b).toList) = true := by rw [hpe]; rfl
    rw [if_neg (by decide)]
    have HSs := Lib.hid (HS.out (failR ws col 3 s))
    have HFs := Lib.hid (HF.out 3)
    generalize failR ws col 3 s = s1 at *
    generalize skipR ws s1 = s2 at *
    unfold Rrr at *
    clear hp h hlen hws hcw HS HF hbl hlt
    generalize bs l = SL at *
    generalize bs b = SB at *
    go_enter Tryz.func99, Tryz.ntmps99
    go_wp2_with fail
    refine (HN.out).mono ?_
    rintro e9 w1 ⟨rfl, hx⟩
    have HX1 := Lib.hid hx
    clear hx
    go_wp2_with fail
    refine (HFs.out _ (HR.out.ex HX1.out)).mono ?_
    rintro e9 w3 ⟨rfl, h1, h2⟩
    have HR3 := Lib.hid h1
    have HG3 := Lib.hid ((Exg.of HX1.out).trans h2)
    clear h1 h2
    go_wp2_with fail
    refine (HSs.out _ HR3.out).mono ?_
    rintro e9 w4 ⟨rfl, h1, h2⟩
    have HR4 := Lib.hid h1
    have HG4 := Lib.hid (HG3.out.trans h2)
    clear h1 h2
    go_wp2_with fail
    go_ret
    exact ⟨rfl, HR4.out, HG4.out⟩
  | true =>
    rw [hp] at hpe
    generalize bs (l.take b.length) = SP at *
    have hne2 : (!SP.toList == (bs b).toList) = false := by rw [hpe]; rfl
    rw [if_pos rfl]
    have hQ : (bs l).extract b.length l.length = bs (l.drop b.length) := by
      rw [ext_data]
      show bs ((l.drop b.length).take (l.length - b.length)) = _
      rw [List.take_of_length_le (by rw [List.length_drop]; exact Nat.le_refl _)]
    have HNu := Lib.hid (fun w' => rnumber_c (bs (l.drop b.length)) w' (by show (l.drop b.length).length ≤ _; rw [List.length_drop]; omega))
    have hbb : (bs (l.drop b.length)).data.toList = l.drop b.length := rfl
    rw [hbb] at HNu
    unfold Two at HNu
    generalize bs (l.drop b.length) = SQ at *
    generalize parV (l.drop b.length) = pv at *
    generalize parE (l.drop b.length) = pe at *
    by_cases he : pe = 0
    · rw [if_pos he]
      subst he
      have HSs := Lib.hid (HS.out s)
      generalize skipR ws s = s2 at *
      unfold Rrr at *
      clear hp h hlen hws hcw HS HF hbl hlt hbb
      generalize bs l = SL at *
      generalize bs b = SB at *
      go_enter Tryz.func99, Tryz.ntmps99
      go_wp2_with fail
      refine (HN.out).mono ?_
      rintro e9 w1 ⟨rfl, hx⟩
      have HX1 := Lib.hid hx
      clear hx
      go_wp2_with fail
      refine (HNu.out _).mono ?_
      rintro e9 w2 ⟨rfl, hx⟩
      have HX2 := Lib.hid (HX1.out.trans hx)
      clear hx
      go_wp2_with fail
      refine (HSs.out _ (HR.out.ex HX2.out)).mono ?_
      rintro e9 w4 ⟨rfl, h1, h2⟩
      have HR4 := Lib.hid h1
      have HG4 := Lib.hid ((Exg.of HX2.out).trans h2)
      clear h1 h2
      go_wp2_with fail
      go_ret
      exact ⟨rfl, HR4.out, HG4.out⟩
    · rw [if_neg he]
      have be : (pe != 0) = true := bne_iff_ne.2 he
      have HSs := Lib.hid (HS.out (failR ws col pe s))
      have HFs := Lib.hid (HF.out pe)
      generalize failR ws col pe s = s1 at *
      generalize skipR ws s1 = s2 at *
      unfold Rrr at *
      clear hp h hlen hws hcw HS HF hbl hlt hbb he
      generalize bs l = SL at *
      generalize bs b = SB at *
      go_enter Tryz.func99, Tryz.ntmps99
      go_wp2_with fail
      refine (HN.out).mono ?_
      rintro e9 w1 ⟨rfl, hx⟩
      have HX1 := Lib.hid hx
      clear hx
      go_wp2_with fail
      refine (HNu.out _).mono ?_
      rintro e9 w2 ⟨rfl, hx⟩
      have HX2 := Lib.hid (HX1.out.trans hx)
      clear hx
      go_wp2_with fail
      refine (HFs.out _ (HR.out.ex HX2.out)).mono ?_
      rintro e9 w3 ⟨rfl, h1, h2⟩
      have HR3 := Lib.hid h1
      have HG3 := Lib.hid ((Exg.of HX2.out).trans h2)
      clear h1 h2
      go_wp2_with fail
      refine (HSs.out _ HR3.out).mono ?_
      rintro e9 w4 ⟨rfl, h1, h2⟩
      have HR4 := Lib.hid h1
      have HG4 := Lib.hid (HG3.out.trans h2)
      clear h1 h2
      go_wp2_with fail
      go_ret
      exact ⟨rfl, HR4.out, HG4.out⟩
end
end
section
open Go.RowKit Nu
section
variable (base g : Nat) (ws : List (List UInt8)) (col : Nat)
set_option maxRecDepth 20000 in
set_option maxHeartbeats 3200000 in
theorem rpair_c (hws : ∀ w ∈ ws, w.length ≤ 20000) (hcw : col + wsL ws ≤ 200000) (s : Rst) (w : World) (h : RrC w base g ws col s) :
    Calls Tryz.prog 100 #[.pointer (some ⟨g, 0, none⟩)] w (Rrr w base g ws col (.tuple #[.string (bs (pairR ws col s).1), .int .i64 (pairR ws col s).2.1]) (pairR ws col s).2.2) := by
  have HR := Lib.hid h
  have HN := Lib.hid (rnext_c base g ws col s w h)
  have hlen := nextR_len ws hws s
  have HF := Lib.hid (fun w' (h : RrC w' base g ws col s) => rfail_c base g ws col 3 s w' h)
  have HS := Lib.hid (fun w' (h : RrC w' base g ws col (failR ws col 3 s)) => rskip_c base g ws col (failR ws col 3 s) w' h hcw)
  have HI := Lib.hid (fun b (hb : b.length ≤ 20001) w' (h : RrC w' base g ws col s) => rinteger_c base g ws col hws hcw b hb s w' h)
  unfold pairR
  generalize nextR ws s = l at *
  obtain ⟨SL, hSL⟩ : ∃ SL, SL = bs l := ⟨_, rfl⟩
  have hSd : SL.data.toList = l := by rw [hSL]
  have hsz : SL.size = l.length := by rw [hSL]; rfl
  rw [← hSL] at HN
  have HX0 := Lib.hid (Ex.refl w)
  cases hc : cutC 61 l with
  | none =>
    have HNe : Hid (∀ k, (h : k < SL.size) → ((SL[k].toNat : Int) == 61) = false) := fun k h => by
      have h2 := get_idx h
      rw [hSd] at h2
      apply beq_eq_false_iff_ne.2
      intro h3
      apply cutC_none.1 hc
      have h4 : SL[k] = 61 := by rw [← UInt8.toNat_inj]; show SL[k].toNat = 61; omega
      rw [h4] at h2
      exact List.mem_of_getElem? h2
    dsimp only
    generalize failR ws col 3 s = s1 at *
    generalize skipR ws s1 = s2 at *
    unfold Rrr at *
    have hsz2 : SL.size ≤ 20000 := by omega
    clear h hws hcw hlen hSL hSd hsz hc HI
    go_enter Tryz.func100, Tryz.ntmps100
    go_wp2_with fail
    refine (HN.out).mono ?_
    rintro e9 w1 ⟨rfl, hx⟩
    have HX1 := Lib.hid hx
    clear hx
    go_wp2_with fail
    go_loopg [5] SL.size (fun gg q wr => ∃ k : Nat, q = .int .i64 (k : Int) ∧ k ≤ SL.size ∧ SL.size ≤ k + gg ∧ Hid (Ex w wr))
    case atStart => exact ⟨0, rfl, Nat.zero_le _, by omega, HX1⟩
    case round =>
      obtain ⟨k, rfl, hk, hkg, HH⟩ := hrel
      by_cases hkl : k < SL.size
      · obtain ⟨n8, rfl⟩ : ∃ n8, gk = n8 + 1 := ⟨gk - 1, by omega⟩
        have m1 : (k : Int) < (SL.size : Int) := by omega
        have c1 := HNe.out k hkl
        go_wp2_with fail
        go_roundg n8
        case measure => omega
        case rel => exact ⟨k + 1, by go_num, by omega, by omega, HH⟩
      · obtain rfl : k = SL.size := by omega
        have m1 : decide ((SL.size : Int) < (SL.size : Int)) = false := decide_eq_false (by omega)
        go_wp2_with fail
        refine (HF.out _ (HR.out.ex HH.out)).mono ?_
        rintro e9 w3 ⟨rfl, h1, h2⟩
        have HR3 := Lib.hid h1
        have HG3 := Lib.hid ((Exg.of HH.out).trans h2)
        clear h1 h2
        go_wp2_with fail
        refine (HS.out _ HR3.out).mono ?_
        rintro e9 w4 ⟨rfl, h1, h2⟩
        have HR4 := Lib.hid h1
        have HG4 := Lib.hid (HG3.out.trans h2)
        clear h1 h2
        go_wp2_with fail
        go_ret2
        exact ⟨rfl, HR4.out, HG4.out⟩
  | some x =>
    obtain ⟨n, v⟩ := x
    obtain ⟨hl, hna⟩ := cutC_some hc
    have hln : l.length = n.length + 1 + v.length := by rw [hl]; simp; omega
    have HNe : Hid (∀ k, (h : k < SL.size) → k < n.length → ((SL[k].toNat : Int) == 61) = false) := fun k h hk => by
      have h2 := get_idx h
      rw [hSd, hl, List.getElem?_append_left hk] at h2
      apply beq_eq_false_iff_ne.2
      intro h3
      apply hna
      have h4 : SL[k] = 61 := by rw [← UInt8.toNat_inj]; show SL[k].toNat = 61; omega
      rw [h4] at h2
      exact List.mem_of_getElem? h2
    have HEq : Hid (∀ k, (h : k < SL.size) → k = n.length → ((SL[k].toNat : Int) == 61) = true) := fun k h hk => by
      subst hk
      have h2 := get_idx h
      rw [hSd, hl, List.getElem?_append_right (Nat.le_refl _), Nat.sub_self] at h2
      have h4 : SL[n.length] = 61 := (Option.some.inj h2).symm
      rw [h4]; rfl
    have hEa : SL.extract 0 n.length = bs n := by
      rw [ext_data, hSd, hl]
      simp
    have HNm := Lib.hid (fun w' => rName_c (bs n) w' (by show n.length ≤ _; unfold maxLen; omega))
    have HIn := Lib.hid (HI.out (n ++ [61]) (by simp; omega))
    have hsum : bs n ++ (⟨#[61]⟩ : ByteArray) = bs (n ++ [61]) := by
      apply ByteArray.ext
      apply Array.toList_inj.1
      simp
    have hnz : (bs n).size = n.length := rfl
    have hz1 : ¬ 9223372036854775807 < n.length + 1 := by omega
    obtain ⟨K, hK⟩ : ∃ K, K = n.length := ⟨_, rfl⟩
    rw [← hK] at HNe HEq hEa hln hnz hz1
    dsimp only
    generalize intR ws col (n ++ [61]) s = I at *
    obtain ⟨iv, s3⟩ := I
    generalize failR ws col 3 s = s1 at *
    generalize skipR ws s1 = s2 at *
    unfold Rrr at *
    have hsz2 : SL.size ≤ 20000 := by omega
    have HKl : Hid (K < SL.size) := by exact Lib.hid (by omega)
    cases hb : nameB (bs n) with
    | true =>
      rw [hb] at HNm
      rw [if_pos rfl]
      dsimp only
      dsimp only at HIn
      generalize bs (n ++ [61]) = SB at *
      generalize bs n = SN at *
      clear h hws hcw hlen hSL hSd hsz hc HI hl hna hln hK HF HS hb
      go_enter Tryz.func100, Tryz.ntmps100
      go_wp2_with fail
      refine (HN.out).mono ?_
      rintro e9 w1 ⟨rfl, hx⟩
      have HX1 := Lib.hid hx
      clear hx
      go_wp2_with fail
      go_loopg [5] K (fun gg q wr => ∃ k : Nat, q = .int .i64 (k : Int) ∧ k ≤ K ∧ K ≤ k + gg ∧ Hid (Ex w wr))
      case atStart => exact ⟨0, rfl, Nat.zero_le _, by omega, HX1⟩
      case round =>
        obtain ⟨k, rfl, hk, hkg, HH⟩ := hrel
        have hks : k < SL.size := by have := HKl.out; omega
        have m1 : (k : Int) < (SL.size : Int) := by omega
        by_cases hkl : k < K
        · obtain ⟨n8, rfl⟩ : ∃ n8, gk = n8 + 1 := ⟨gk - 1, by omega⟩
          have c1 := HNe.out k hks hkl
          go_wp2_with fail
          go_roundg n8
          case measure => omega
          case rel => exact ⟨k + 1, by go_num, by omega, by omega, HH⟩
        · obtain rfl : k = K := by omega
          have c1 := HEq.out k hks rfl
          have hkz : k ≤ SL.size := by omega
          clear HNe HEq
          go_wp2_with fail
          refine (HNm.out _).mono ?_
          rintro e9 w3 ⟨rfl, hx⟩
          have HX3 := Lib.hid (HH.out.trans hx)
          clear hx
          go_wp2_with fail
          refine (HIn.out _ (HR.out.ex HX3.out)).mono ?_
          rintro e9 w4 ⟨rfl, h1, h2⟩
          have HR4 := Lib.hid h1
          have HG4 := Lib.hid ((Exg.of HX3.out).trans h2)
          clear h1 h2
          go_wp2_with fail
          go_ret2
          exact ⟨rfl, HR4.out, HG4.out⟩
    | false =>
      rw [hb] at HNm
      rw [if_neg (by decide)]
      dsimp only
      clear hsum
      generalize bs n = SN at *
      clear h hws hcw hlen hSL hSd hsz hc HI hl hna hln hK HIn hb
      go_enter Tryz.func100, Tryz.ntmps100
      go_wp2_with fail
      refine (HN.out).mono ?_
      rintro e9 w1 ⟨rfl, hx⟩
      have HX1 := Lib.hid hx
      clear hx
      go_wp2_with fail
      go_loopg [5] K (fun gg q wr => ∃ k : Nat, q = .int .i64 (k : Int) ∧ k ≤ K ∧ K ≤ k + gg ∧ Hid (Ex w wr))
      case atStart => exact ⟨0, rfl, Nat.zero_le _, by omega, HX1⟩
      case round =>
        obtain ⟨k, rfl, hk, hkg, HH⟩ := hrel
        have hks : k < SL.size := by have := HKl.out; omega
        have m1 : (k : Int) < (SL.size : Int) := by omega
        by_cases hkl : k < K
        · obtain ⟨n8, rfl⟩ : ∃ n8, gk = n8 + 1 := ⟨gk - 1, by omega⟩
          have c1 := HNe.out k hks hkl
          go_wp2_with fail
          go_roundg n8
          case measure => omega
          case rel => exact ⟨k + 1, by go_num, by omega, by omega, HH⟩
        · obtain rfl : k = K := by omega
          have c1 := HEq.out k hks rfl
          have hkz : k ≤ SL.size := by omega
          clear HNe HEq
          go_wp2_with fail
          refine (HNm.out _).mono ?_
          rintro e9 w3 ⟨rfl, hx⟩
          have HX3 := Lib.hid (HH.out.trans hx)
          clear hx
          go_wp2_with fail
          refine (HF.out _ (HR.out.ex HX3.out)).mono ?_
          rintro e9 w4 ⟨rfl, h1, h2⟩
          have HR4 := Lib.hid h1
          have HG4 := Lib.hid ((Exg.of HX3.out).trans h2)
          clear h1 h2
          go_wp2_with fail
          refine (HS.out _ HR4.out).mono ?_
          rintro e9 w5 ⟨rfl, h1, h2⟩
          have HR5 := Lib.hid h1
          have HG5 := Lib.hid (HG4.out.trans h2)
          clear h1 h2
          go_wp2_with fail
          go_ret2
          exact ⟨rfl, HR5.out, HG5.out⟩
end
end
section
open Go.RowKit Nu
def REvV (F : EvF) (B : Option Addr) (c : Nat) : Value := .tuple #[.agg #[.int .i64 F.kind, .int .i64 0, .int .i64 F.msg, .int .i64 F.time, .slice B F.asg.length c, .string (bs F.peer), .int .i64 (F.pcol : Int)], .int .i64 F.s.e, .int .i64 (F.s.c : Int)]
/-- what the reference's event leaves -/
def REvR (w : World) (F : EvF) (e : Ending) (w' : World) : Prop :=
  ∃ B c, e = .returned (REvV F B c) ∧ OwnO w' w.heap.size 102 2 (.slice B F.asg.length c) F.asg.length (asgV F.asg) ∧ Ex w w'
def z7 : List Value := [.int .i64 0, .int .i64 0, .int .i64 0, .int .i64 0, .slice none 0 0, .string ⟨#[]⟩, .int .i64 0]
theorem results_rev {fn : Func} {p q s r : Nat} {a b c d e f h x y : Value} {w : World} {tmps : Array Value} (hr : fn.results = #[.cell p 117, .tmp q, .tmp s]) (hp : tmps.getD p undef = .pointer (some ⟨r, 0, none⟩)) (hq : tmps.getD q undef = x) (hs : tmps.getD s undef = y) (hB : Blk w r 117 [a, b, c, d, e, f, h]) :
    (results fn tmps).run Tryz.prog w = .ok (.tuple #[.agg #[a, b, c, d, e, f, h], x, y]) w := by
  have h0 : w.cell? ⟨r, 0, none⟩ = some a := hB.cell 0
  have h1 : w.cell? ⟨r, 1, none⟩ = some b := hB.cell 1
  have h2 : w.cell? ⟨r, 2, none⟩ = some c := hB.cell 2
  have h3 : w.cell? ⟨r, 3, none⟩ = some d := hB.cell 3
  have h4 : w.cell? ⟨r, 4, none⟩ = some e := hB.cell 4
  have h5 : w.cell? ⟨r, 5, none⟩ = some f := hB.cell 5
  have h6 : w.cell? ⟨r, 6, none⟩ = some h := hB.cell 6
  rw [Array.getD_eq_getD_getElem?] at hp hq hs
  simp [results, hr, hp, hq, hs, go_sem, h0, h1, h2, h3, h4, h5, h6]
/-- the memory while a line is read: what is read at eb, the result at rb, the reader at g -/
structure REg (T : TypeId) (zs : List Value) (w : World) (rb g eb : Nat) (ws : List (List UInt8)) (col : Nat) (cs : List Value) (s : Rst) (wx : World) : Prop where
  ev : Blk wx eb T cs
  res : Blk wx rb T zs
  rd : RrC wx w.heap.size g ws col s
  ex : Ex w wx
  lr : w.heap.size ≤ rb
  lg : w.heap.size ≤ g
  le : w.heap.size ≤ eb
  ne1 : eb ≠ g
  ne2 : rb ≠ g
  ne3 : rb ≠ eb
abbrev RE7 := REg 117 z7
section
variable {T : TypeId} {zs : List Value} {w wx w1 : World} {rb g eb : Nat} {ws : List (List UInt8)} {col : Nat} {cs : List Value} {s s' : Rst}
theorem REg.exx (h : REg T zs w rb g eb ws col cs s wx) (hx : Ex wx w1) : REg T zs w rb g eb ws col cs s w1 :=
  ⟨h.ev.ex hx, h.res.ex hx, h.rd.ex hx, h.ex.trans hx, h.lr, h.lg, h.le, h.ne1, h.ne2, h.ne3⟩
/-- the reader's own change -/
theorem REg.call (h : REg T zs w rb g eb ws col cs s wx) (hr : RrC w1 w.heap.size g ws col s') (hg : Exg g wx w1) : REg T zs w rb g eb ws col cs s' w1 :=
  ⟨hg.blk h.ev h.ne1, hg.blk h.res h.ne2, hr, Exg.out h.ex hg h.lg, h.lr, h.lg, h.le, h.ne1, h.ne2, h.ne3⟩
theorem REg.set (h : REg T zs w rb g eb ws col cs s wx) (i : Nat) (u : Value) (h1 : 156 ≠ T := by decide) (h2 : 9 ≠ T := by decide) : REg T zs w rb g eb ws col (cs.set i u) s (wx.setCell ⟨eb, i, none⟩ u) :=
  ⟨h.ev.set_ i u, h.res.far (p := ⟨eb, i, none⟩) h.ne3 u, h.rd.chg (Chg.set ⟨_, h.ev⟩ i u) h1 h2, h.ex.setCell (p := ⟨eb, i, none⟩) h.le u, h.lr, h.lg, h.le, h.ne1, h.ne2, h.ne3⟩
/-- the error and its place are written -/
theorem REg.err (h : REg T zs w rb g eb ws col cs s wx) (e' : Int) (c' : Nat) : REg T zs w rb g eb ws col cs ⟨s.at_, e', c'⟩ ((wx.setCell ⟨g, 2, none⟩ (.int .i64 e')).setCell ⟨g, 3, none⟩ (.int .i64 (c' : Int))) := by
  obtain ⟨a, e, c⟩ := s
  exact h.call (h.rd.err e' c') (((Exg.refl g wx).seto _ _).seto _ _)
theorem RrC.own_neB {base n T' size : Nat} {v : Value} {xs : List Value} (ho : OwnO wx base T' size v n xs) (h : RrC wx w.heap.size g ws col s) (hT : 156 ≠ T') : v.ownBlock ≠ some g := by
  obtain ⟨_, _, _, hb, _⟩ := h
  exact fun e => OwnO.ne ho hb hT e.symm
theorem REg.chg {T' : TypeId} {row : Option Nat} (h : REg T zs w rb g eb ws col cs s wx) (hc : Chg T' wx w1 row) (hx : Ex w w1) (h1 : T ≠ T') (h2 : 156 ≠ T') (h3 : 9 ≠ T') : REg T zs w rb g eb ws col cs s w1 :=
  ⟨h.ev.chg hc h1, h.res.chg hc h1, h.rd.chg hc h2 h3, hx, h.lr, h.lg, h.le, h.ne1, h.ne2, h.ne3⟩
end
def put7 (w : World) (g : Nat) (a b c d e f h : Value) : World := ((((((w.setCell ⟨g, 0, none⟩ a).setCell ⟨g, 1, none⟩ b).setCell ⟨g, 2, none⟩ c).setCell ⟨g, 3, none⟩ d).setCell ⟨g, 4, none⟩ e).setCell ⟨g, 5, none⟩ f).setCell ⟨g, 6, none⟩ h
theorem put7_blk {w : World} {g : Nat} {a b c d e f h : Value} (hB : Blk w g 117 z7) : Blk (put7 w g a b c d e f h) g 117 [a, b, c, d, e, f, h] :=
  ((((((hB.set_ 0 a).set_ 1 b).set_ 2 c).set_ 3 d).set_ 4 e).set_ 5 f).set_ 6 h
theorem put7_ex {W w : World} {g : Nat} {a b c d e f h : Value} (hx : Ex W w) (hg : W.heap.size ≤ g) : Ex W (put7 w g a b c d e f h) :=
  ((((((hx.setCell (p := ⟨g, 0, none⟩) hg a).setCell (p := ⟨g, 1, none⟩) hg b).setCell (p := ⟨g, 2, none⟩) hg c).setCell (p := ⟨g, 3, none⟩) hg d).setCell (p := ⟨g, 4, none⟩) hg e).setCell (p := ⟨g, 5, none⟩) hg f).setCell (p := ⟨g, 6, none⟩) hg h
theorem put7_own {w : World} {g n base : Nat} {v : Value} {xs : List Value} {a b c d e f h : Value} (ho : OwnO w base 102 2 v n xs) (hB : Blk w g 117 z7) : OwnO (put7 w g a b c d e f h) base 102 2 v n xs := by
  have b1 := hB.set_ 0 a
  have b2 := b1.set_ 1 b
  have b3 := b2.set_ 2 c
  have b4 := b3.set_ 3 d
  have b5 := b4.set_ 4 e
  have b6 := b5.set_ 5 f
  exact ((((((ho.chg (Chg.set ⟨_, hB⟩ 0 a) (by decide)).chg (Chg.set ⟨_, b1⟩ 1 b) (by decide)).chg (Chg.set ⟨_, b2⟩ 2 c) (by decide)).chg (Chg.set ⟨_, b3⟩ 3 d) (by decide)).chg (Chg.set ⟨_, b4⟩ 4 e) (by decide)).chg (Chg.set ⟨_, b5⟩ 5 f) (by decide)).chg (Chg.set ⟨_, b6⟩ 6 h) (by decide)
/-- the end: the event is handed back -/
theorem revEnd {w wx : World} {rb g eb : Nat} {ws : List (List UInt8)} {col : Nat} {k p3 tv : Int} {p1 : List UInt8} {p2 : Nat} {l : List (Int × Int)} {B : Option Addr} {bc : Nat} {s : Rst} {tmps : Array Value} {cs : List Value}
    (hR : RE7 w rb g eb ws col cs s wx) (hO : OwnO wx w.heap.size 102 2 (.slice B l.length bc) l.length (asgV l)) (hp : tmps.getD 6 undef = .pointer (some ⟨rb, 0, none⟩)) (hq : tmps.getD 7 undef = .int .i64 s.e) (hs : tmps.getD 8 undef = .int .i64 (s.c : Int)) :
    bodyPost Tryz.prog Tryz.f60 (REvR w ⟨k, p1, p2, p3, tv, l, s⟩) .ret ⟨tmps, []⟩ (put7 wx rb (.int .i64 k) (.int .i64 0) (.int .i64 p3) (.int .i64 tv) (.slice B l.length bc) (.string (bs p1)) (.int .i64 (p2 : Int))).drew :=
  bodyPost_ret (results_rev rfl hp hq hs (put7_blk hR.res).drew) rfl ⟨B, bc, rfl, (put7_own hO hR.res).ex (Ex.refl _).drew, (put7_ex hR.ex hR.lr).drew⟩
/-- the first variable with a name, among the first ones -/
def fstV (nm : ByteArray) (vars : List (ByteArray × Int)) (j : Nat) : Int := match vIdx nm (vars.take j) with | some i => (i : Int) | none => -1
theorem vIdx_snoc (n : ByteArray) (v : ByteArray × Int) : ∀ a : List (ByteArray × Int), vIdx n (a ++ [v]) = match vIdx n a with | some i => some i | none => if v.1 = n then some a.length else none
  | [] => by
    show (if v.1 = n then some 0 else (vIdx n []).map (· + 1)) = _
    rfl
  | x :: a => by
    rw [List.cons_append]
    unfold vIdx
    by_cases h : x.1 = n
    · rw [if_pos h, if_pos h]
    · rw [if_neg h, if_neg h, vIdx_snoc n v a]
      cases vIdx n a with
      | some i => rfl
      | none =>
        dsimp only [Option.map]
        by_cases h2 : v.1 = n
        · rw [if_pos h2, if_pos h2]; rfl
        · rw [if_neg h2, if_neg h2]
theorem fst_step {vars : List (ByteArray × Int)} {j : Nat} {v : ByteArray × Int} (h : vars[j]? = some v) (nm : ByteArray) : fstV nm vars (j + 1) = if v.1 = nm ∧ fstV nm vars j < 0 then (j : Int) else fstV nm vars j := by
  obtain ⟨hj, rfl⟩ := List.getElem?_eq_some_iff.1 h
  have hl : (vars.take j).length = j := by rw [List.length_take]; omega
  unfold fstV
  rw [List.take_succ_eq_append_getElem hj, vIdx_snoc, hl]
  cases vIdx nm (vars.take j) with
  | some i => dsimp only; rw [if_neg (by rintro ⟨-, h⟩; omega)]
  | none =>
    dsimp only
    by_cases h2 : vars[j].1 = nm
    · rw [if_pos h2, if_pos ⟨h2, by decide⟩]
    · rw [if_neg h2, if_neg (fun h => h2 h.1)]
theorem fst_zero (nm : ByteArray) (vars : List (ByteArray × Int)) : fstV nm vars 0 = -1 := rfl
theorem fst_all (nm : ByteArray) (vars : List (ByteArray × Int)) : fstV nm vars vars.length = match vIdx nm vars with | some i => (i : Int) | none => -1 := by unfold fstV; rw [List.take_length]
theorem evRD_succ (ws : List (List UInt8)) (col : Nat) (vars : List (ByteArray × Int)) (n : Nat) (s : Rst) (l : List (Int × Int)) (h : moreF ws s = true) : evRD ws col vars (n + 1) s l = if (pairR ws col s).2.2.e = 0 then
      (match vIdx (bs (pairR ws col s).1) vars with
        | some i => evRD ws col vars n (pairR ws col s).2.2 (l ++ [((i : Int), (pairR ws col s).2.1)])
        | none => evRD ws col vars n ⟨(pairR ws col s).2.2.at_, 13, colA ws col s.at_⟩ (l ++ [(-1, (pairR ws col s).2.1)]))
    else (l, (pairR ws col s).2.2) := by
  conv => lhs; unfold evRD
  rw [h, if_pos rfl]
  rfl
theorem pair_adv (ws : List (List UInt8)) (col : Nat) (s : Rst) (he : s.e = 0) (hl : s.at_ < ws.length) : (pairR ws col s).2.2.at_ = s.at_ + 1 := by
  obtain ⟨a, e, c⟩ := s
  dsimp only at he hl ⊢
  subst he
  have h := pairR_at (col := col) (c := c) (List.getElem?_eq_getElem hl)
  cases ha : asgO ws[a] with
  | error e =>
    rw [ha] at h
    rw [h.1]
  | ok x =>
    obtain ⟨n, v⟩ := x
    rw [ha] at h
    rw [h.2]
theorem varV_get : ∀ (l : List (ByteArray × Int)) (j : Nat) (v : ByteArray × Int), l[j]? = some v → (varV l)[j * 2]? = some (.string v.1)
  | [], j, v, h => by simp at h
  | x :: l, 0, v, h => by cases h; rfl
  | x :: l, j + 1, v, h => by
    have := varV_get l j v (by simpa using h)
    unfold varV at this ⊢
    rw [List.flatMap_cons, List.getElem?_append_right (by show 2 ≤ _; omega), show (j + 1) * 2 - ([Value.string x.1, .int .i64 x.2] : List Value).length = j * 2 by show (j + 1) * 2 - 2 = _; omega]
    exact this

set_option maxRecDepth 100000 in
set_option maxHeartbeats 12800000 in
theorem revent_c (l : List UInt8) (col : Nat) (vars : List (ByteArray × Int)) (V : Option Addr) (vc : Nat) (w : World) (hl : l.length ≤ 20000) (hcol : col ≤ 100) (hV : Row w V (varV vars)) (hvl : vars.length ≤ 20000) :
    Calls Tryz.prog 60 #[.string (bs l), .int .i64 (col : Int), .slice V vars.length vc] w (REvR w (evR vars (spl 32 l) col (col + l.length) (spl 32 l).length ⟨0, 0, 0⟩)) := by
  obtain ⟨i0, hi0, hz0, hz1, hz2⟩ := info_parts infoAsg
  obtain ⟨hsl, hsw⟩ := spl_lens 32 l
  have hwl := wsL_spl 32 l
  have hsz : (bs l).size = l.length := rfl
  have HWd := Lib.hid (fun w' => words_c (bs l) w' (by show l.length ≤ _; omega))
  have hbl : (bs l).data.toList = l := rfl
  rw [hbl] at HWd
  have hpos : 0 < (spl 32 l).length := List.length_pos_iff.2 (spl_ne 32 l)
  obtain ⟨F, hF⟩ : ∃ F, F = evR vars (spl 32 l) col (col + l.length) (spl 32 l).length ⟨0, 0, 0⟩ := ⟨_, rfl⟩
  rw [← hF]
  have q1 : IntKind.i64.wrap ((col : Int) + (l.length : Int)) = ((col + l.length : Nat) : Int) := by rw [show (col : Int) + (l.length : Int) = ((col + l.length : Nat) : Int) by omega]; exact IntWalk.i64_in _ (by omega)
  generalize spl 32 l = ws at *
  generalize col + l.length = en at *
  have hcw : col + wsL ws ≤ 200000 := by omega
  have hws : ∀ w ∈ ws, w.length ≤ 20000 := fun x hx => Nat.le_trans (hsw x hx) (by omega)
  have HNx := Lib.hid (fun g s w' (h : RrC w' w.heap.size g ws col s) => rnext_c w.heap.size g ws col s w' h)
  have HFl := Lib.hid (fun g E s w' (h : RrC w' w.heap.size g ws col s) => rfail_c w.heap.size g ws col E s w' h)
  have HSk := Lib.hid (fun g s w' (h : RrC w' w.heap.size g ws col s) => rskip_c w.heap.size g ws col s w' h hcw)
  have HMi := Lib.hid (fun g s w' (h : RrC w' w.heap.size g ws col s) => rmissing_c w.heap.size g ws col en s w' h)
  have HNm := Lib.hid (fun g s w' (h : RrC w' w.heap.size g ws col s) => rname_r w.heap.size g ws col hws hcw s w' h)
  have HIe := Lib.hid (fun g s w' (h : RrC w' w.heap.size g ws col s) => rinteger_c w.heap.size g ws col hws hcw [] (by simp) s w' h)
  have HIa := Lib.hid (fun g s w' (h : RrC w' w.heap.size g ws col s) => rinteger_c w.heap.size g ws col hws hcw [64] (by simp) s w' h)
  have HPr := Lib.hid (fun g s w' (h : RrC w' w.heap.size g ws col s) => rpair_c w.heap.size g ws col hws hcw s w' h)
  unfold Rrr at *
  have HVr : Hid (∀ w', Ex w w' → Row w' V (varV vars)) := fun w' h => hV.ex h
  have HF := Lib.hid hF
  have hwsl : ws.length ≤ 30000 := by omega
  have HRow : Hid (∀ (j : Nat) (v : ByteArray × Int), vars[j]? = some v → ∀ w', Ex w w' → ∃ b o, V = some ⟨b, o, none⟩ ∧ b < w'.heap.size ∧ w'.cell? ⟨b, o + j * 2, none⟩ = some (.string v.1)) := fun j v hj w' hx => by
    have hg := varV_get vars j v hj
    rcases hV.ex hx with h0 | ⟨b, o, hA, hb, hc⟩
    · rw [h0] at hg; simp at hg
    · exact ⟨b, o, hA, hb, hc _ _ hg⟩
  obtain ⟨bse, hbse⟩ : ∃ bse, bse = w.heap.size := ⟨_, rfl⟩
  have HBse := Lib.hid hbse
  have hz1' : ∀ (X : World) (o : Obj), (X.alloc o).heap.size = X.heap.size + 1 := fun X o => Array.size_push _
  have hB0 := Blk.new w 117 z7
  have hX0 : Ex w (w.alloc (.cells z7.toArray 117)) := (Ex.refl w).alloc _
  have HRd0 : Hid (∀ (w1 : World) (D : Option Addr) (dc : Nat), Ex (w.alloc (.cells z7.toArray 117)) w1 → OwnO w1 (w.alloc (.cells z7.toArray 117)).heap.size 9 1 (.slice D ws.length dc) ws.length (strV ws) →
      RE7 w w.heap.size w1.heap.size (w1.heap.size + 1) ws col z7 ⟨0, 0, 0⟩ ((w1.alloc (.cells #[.slice D ws.length dc, .int .i64 (col : Int), .int .i64 0, .int .i64 0] 156)).alloc (.cells z7.toArray 117))) := fun w1 D dc hx ho => by
    have hlt := hx.below.size
    rw [hz1'] at hlt
    have hb1 := (Blk.new w1 156 [.slice D ws.length dc, .int .i64 (col : Int), .int .i64 0, .int .i64 0])
    have hb2 := Blk.new (w1.alloc (.cells #[.slice D ws.length dc, .int .i64 (col : Int), .int .i64 0, .int .i64 0] 156)) 117 z7
    rw [hz1'] at hb2
    have hxx : Ex w1 ((w1.alloc (.cells #[.slice D ws.length dc, .int .i64 (col : Int), .int .i64 0, .int .i64 0] 156)).alloc (.cells z7.toArray 117)) := ((Ex.refl w1).alloc _).alloc _
    refine ⟨hb2, (hB0.ex hx).ex hxx, ⟨D, dc, Nat.zero_le _, ?_, ?_⟩, (hX0.trans hx).trans hxx, Nat.le_refl _, by omega, by omega, by omega, by omega, by omega⟩
    · have := hb1.alloc (.cells z7.toArray 117)
      rw [colA_zero]
      exact this
    · have := (ho.ex hxx).mono (b := w.heap.size) (by rw [hz1']; omega)
      exact this
  unfold z7 at HRd0
  clear hF hsw hwl hcw hws hV hB0 hX0 hbl hbse hz1'
  have HWl := Lib.hid hpos
  clear hpos
  go_enter Tryz.func60, Tryz.ntmps60
  go_wp2_with fail
  refine (HWd.out _).mono ?_
  rintro e9 w1 ⟨D, dc, rfl, ho, hx⟩
  have HR0 := Lib.hid (HRd0.out w1 D dc hx ho)
  clear ho hx HRd0 HWd
  go_upto_region 3 with fail
  generalize (w1.alloc (.cells #[.slice D ws.length dc, .int .i64 (col : Int), .int .i64 0, .int .i64 0] 156)).alloc (.cells #[.int .i64 0, .int .i64 0, .int .i64 0, .int .i64 0, .slice none 0 0, .string ⟨#[]⟩, .int .i64 0] 117) = W2 at *
  generalize w1.heap.size + 1 = eb at *
  generalize w1.heap.size = g at *
  go_wp2_with fail
  refine (HNx.out g _ _ HR0.out.rd).mono ?_
  rintro e9 w2 ⟨rfl, hx⟩
  have HR1 := Lib.hid (HR0.out.exx hx)
  clear hx HR0
  go_upto_if 25 with fail
  go_cut [] from 24 (fun wx => ∃ (k : Int) (s : Rst), Hid (k = (evRA ws col ⟨0, 0, 0⟩).1 ∧ skipR ws s = (evRA ws col ⟨0, 0, 0⟩).2) ∧ Hid (RE7 w w.heap.size g eb ws col [.int .i64 k, .int .i64 0, .int .i64 0, .int .i64 0, .slice none 0 0, .string ⟨#[]⟩, .int .i64 0] s wx))
  case first =>
    obtain ⟨b1, b2, b3, -⟩ := kind_str (nextR ws ⟨0, 0, 0⟩)
    have HEA : Hid (evRA ws col ⟨0, 0, 0⟩ = (kindF (nextR ws ⟨0, 0, 0⟩), skipR ws (if kindF (nextR ws ⟨0, 0, 0⟩) = 0 then failR ws col 3 ⟨0, 0, 0⟩ else ⟨0, 0, 0⟩))) := rfl
    generalize nextR ws ⟨0, 0, 0⟩ = l0 at *
    have x0 := HR1.out.ev.cell 0
    have xl := HR1.out.ev.lt
    have xf := HR1.out.ev.frozen 0

    by_cases h1 : l0 = wLocal
    · rw [decide_eq_true h1] at b1
      have HK : Hid (kindF l0 = 1) := by unfold kindF; rw [if_pos h1]; exact Lib.hid rfl
      have HR2 := Lib.hid (HR1.out.set 0 (.int .i64 1))
      have HEq : Hid (skipR ws ⟨0, 0, 0⟩ = (evRA ws col ⟨0, 0, 0⟩).2) := by rw [HEA.out, HK.out]; exact Lib.hid rfl
      clear h1 b2 b3
      rw [b1]
      go_wp2_with fail
      go_meet
      case rel => exact ⟨1, _, Lib.hid ⟨by rw [HEA.out, HK.out], HEq.out⟩, Lib.hid HR2.out⟩
    rw [decide_eq_false h1] at b1
    by_cases h2 : l0 = wSend
    · rw [decide_eq_true h2] at b2
      have HK : Hid (kindF l0 = 2) := by unfold kindF; rw [if_neg h1, if_pos h2]; exact Lib.hid rfl
      have HR2 := Lib.hid (HR1.out.set 0 (.int .i64 2))
      have HEq : Hid (skipR ws ⟨0, 0, 0⟩ = (evRA ws col ⟨0, 0, 0⟩).2) := by rw [HEA.out, HK.out]; exact Lib.hid rfl
      clear h1 h2 b3
      rw [b1]
      go_wp2_with fail
      go_meet
      case rel => exact ⟨2, _, Lib.hid ⟨by rw [HEA.out, HK.out], HEq.out⟩, Lib.hid HR2.out⟩
    rw [decide_eq_false h2] at b2
    by_cases h3 : l0 = wReceive
    · rw [decide_eq_true h3] at b3
      have HK : Hid (kindF l0 = 3) := by unfold kindF; rw [if_neg h1, if_neg h2, if_pos h3]; exact Lib.hid rfl
      have HR2 := Lib.hid (HR1.out.set 0 (.int .i64 3))
      have HEq : Hid (skipR ws ⟨0, 0, 0⟩ = (evRA ws col ⟨0, 0, 0⟩).2) := by rw [HEA.out, HK.out]; exact Lib.hid rfl
      clear h1 h2 h3 
      rw [b1]
      go_wp2_with fail
      go_meet
      case rel => exact ⟨3, _, Lib.hid ⟨by rw [HEA.out, HK.out], HEq.out⟩, Lib.hid HR2.out⟩
    rw [decide_eq_false h3] at b3
    have HK : Hid (kindF l0 = 0) := by unfold kindF; rw [if_neg h1, if_neg h2, if_neg h3]; exact Lib.hid rfl
    have HFs := Lib.hid (HFl.out g 3 ⟨0, 0, 0⟩ _ HR1.out.rd)
    have HEq : Hid (skipR ws (failR ws col 3 ⟨0, 0, 0⟩) = (evRA ws col ⟨0, 0, 0⟩).2) := by rw [HEA.out, HK.out]; exact Lib.hid rfl
    clear h1 h2 h3
    rw [b1]
    go_wp2_with fail
    refine (HFs.out).mono ?_
    rintro e9 w3 ⟨rfl, g1, g2⟩
    have HR3 := Lib.hid (HR1.out.call g1 g2)
    clear g1 g2 x0 xl xf
    go_wp2_with fail
    go_meet
    case rel => exact ⟨0, _, Lib.hid ⟨by rw [HEA.out, HK.out], HEq.out⟩, Lib.hid HR3.out⟩
  case rest =>
    clear HR1
    obtain ⟨k, s0, HK, HC0⟩ := hcut
    have HSs := Lib.hid (HSk.out g s0 _ HC0.out.rd)
    generalize skipR ws s0 = s at *
    go_wp2_with fail
    refine (HSs.out).mono ?_
    rintro e9 w3 ⟨rfl, g1, g2⟩
    have HC := Lib.hid (HC0.out.call g1 g2)
    clear g1 g2 HC0 HSs
    have x0 : _ = some (Value.int .i64 k) := HC.out.ev.cell 0
    have xl := HC.out.ev.lt
    have HE1 : Hid (∃ b, b = evRB ws col en k s) := ⟨_, rfl⟩
    obtain ⟨EB, hEB⟩ := HE1.out
    have HEB := Lib.hid hEB
    clear hEB HE1
    obtain ⟨p1, p2, p3, p4⟩ := EB
    go_upto_region 12 with fail
    have HCx := HC
    go_cut [49] from 40 (fun b wx => b = .bool (decide (k = 2 ∨ k = 3)) ∧ wx = w3)
    case first =>
      clear HEB HK HF HCx
      by_cases k2 : k = 2
      · have d2 : (k == 2) = true := beq_iff_eq.2 k2
        go_wp2_with fail
        go_meet
        case rel => exact ⟨congrArg Value.bool (decide_eq_true (.inl k2)).symm, rfl⟩
      · have d2 : (k == 2) = false := beq_eq_false_iff_ne.2 k2
        by_cases k3 : k = 3
        · have d3 : (k == 3) = true := beq_iff_eq.2 k3
          go_wp2_with fail
          go_meet
          case rel => exact ⟨congrArg Value.bool (decide_eq_true (.inr k3)).symm, rfl⟩
        · have d3 : (k == 3) = false := beq_eq_false_iff_ne.2 k3
          go_wp2_with fail
          go_meet
          case rel => exact ⟨congrArg Value.bool (decide_eq_false (by rintro (h | h); exact k2 h; exact k3 h)).symm, rfl⟩
    obtain ⟨rfl, rfl⟩ := hcut
    clear x0 xl
    go_step
    go_cut [] from 40 (fun wx => Hid (RE7 w w.heap.size g eb ws col [.int .i64 k, .int .i64 0, .int .i64 p3, .int .i64 0, .slice none 0 0, .string (bs p1), .int .i64 (p2 : Int)] p4 wx))

    case first =>
      clear HK HF
      by_cases hk : k = 2 ∨ k = 3
      · have HEq : Hid ((p1, p2, p3, p4) = ((nameR ws col (missR ws en s)).1, colA ws col (missR ws en s).at_, intR ws col [] (missR ws en (nameR ws col (missR ws en s)).2))) := by
          rw [HEB.out]; unfold evRB; rw [if_pos hk]; exact Lib.hid rfl
        have e := HEq.out
        simp only [Prod.mk.injEq] at e
        clear HEq HEB
        have HM1 := Lib.hid (HMi.out g s _ HC.out.rd)
        generalize missR ws en s = s1 at *
        have HN1 := Lib.hid (fun w' (h : RrC w' w.heap.size g ws col s1) => HNm.out g s1 w' h)
        generalize nameR ws col s1 = N at *
        obtain ⟨nl, s2⟩ := N
        dsimp only at *
        have HM2 := Lib.hid (fun w' (h : RrC w' w.heap.size g ws col s2) => HMi.out g s2 w' h)
        generalize missR ws en s2 = s3 at *
        have HI3 := Lib.hid (fun w' (h : RrC w' w.heap.size g ws col s3) => HIe.out g s3 w' h)
        generalize intR ws col [] s3 = Q at *
        obtain ⟨qv, s4⟩ := Q
        dsimp only at *
        obtain ⟨rfl, e2, rfl, rfl⟩ := e
        have HE2 := Lib.hid e2
        clear e2
        rw [decide_eq_true hk]
        have k23 : ((k == 2) = true) ∨ ((k == 2) = false ∧ (k == 3) = true) := by
          rcases hk with rfl | rfl
          · exact .inl rfl
          · exact .inr ⟨rfl, rfl⟩
        clear hk
        clear k23
        · go_wp2_with fail
          refine (HM1.out).mono ?_
          rintro e9 w3 ⟨rfl, g1, g2⟩
          have HR3 := Lib.hid (HC.out.call g1 g2)
          clear g1 g2
          have c1 := HR3.out.rd.cell1
          rw [← HE2.out] at c1
          have rl := HR3.out.rd.lt
          have yf := HR3.out.ev.frozen 6
          have yl := HR3.out.ev.lt
          have y6 : w3.cell? ⟨eb, 6, none⟩ = some (.int .i64 0) := HR3.out.ev.cell 6
          have HR4 := Lib.hid (HR3.out.set 6 (.int .i64 (p2 : Int)))
          have HN4 := Lib.hid (HN1.out _ HR4.out.rd)
          go_wp2_with fail
          refine (HN4.out).mono ?_
          rintro e9 w5 ⟨rfl, g1, g2⟩
          have HR5 := Lib.hid (HR4.out.call g1 g2)
          clear g1 g2 c1 rl yf yl y6 HR3
          have yf := HR5.out.ev.frozen 5
          have yl := HR5.out.ev.lt
          have y5 : w5.cell? ⟨eb, 5, none⟩ = some (.string ⟨#[]⟩) := HR5.out.ev.cell 5
          have HR6 := Lib.hid (HR5.out.set 5 (.string (bs p1)))
          go_wp2_with fail
          refine (HM2.out _ HR6.out.rd).mono ?_
          rintro e9 w7 ⟨rfl, g1, g2⟩
          have HR7 := Lib.hid (HR6.out.call g1 g2)
          clear g1 g2 yf yl y5 HR5
          go_wp2_with fail
          refine (HI3.out _ HR7.out.rd).mono ?_
          rintro e9 w8 ⟨rfl, g1, g2⟩
          have HR8 := Lib.hid (HR7.out.call g1 g2)
          clear g1 g2 HR7
          have yf := HR8.out.ev.frozen 2
          have yl := HR8.out.ev.lt
          have y2 : w8.cell? ⟨eb, 2, none⟩ = some (.int .i64 0) := HR8.out.ev.cell 2
          have HR9 := Lib.hid (HR8.out.set 2 (.int .i64 p3))
          go_wp2_with fail
          go_meet
          case rel => exact Lib.hid HR9.out
      · have HEq : Hid ((p1, p2, p3, p4) = (([] : List UInt8), 0, (0 : Int), s)) := by
          rw [HEB.out]; unfold evRB; rw [if_neg hk]; exact Lib.hid rfl
        have e := HEq.out
        simp only [Prod.mk.injEq] at e
        obtain ⟨rfl, rfl, rfl, rfl⟩ := e
        rw [decide_eq_false hk]
        clear hk HEq HEB
        go_wp2_with fail
        go_meet
        case rel => exact Lib.hid HC.out
    case rest =>
      have HFq : Hid (F = ⟨k, p1, p2, p3, (evRC ws col en p4).1, (evRD ws col vars ws.length (evRC ws col en p4).2 []).1, (evRD ws col vars ws.length (evRC ws col en p4).2 []).2⟩) := by
        rw [HF.out]
        unfold evR
        dsimp only
        rw [← HK.out.1, ← HK.out.2, ← HEB.out]
        exact Lib.hid rfl
      clear HK HEB HF HC
      unfold evRC at HFq
      have HM1 := Lib.hid (HMi.out g p4 _ hcut.out.rd)
      generalize missR ws en p4 = s5 at *
      have HI5 := Lib.hid (fun w' (h : RrC w' w.heap.size g ws col s5) => HIa.out g s5 w' h)
      generalize intR ws col [64] s5 = Q at *
      obtain ⟨tv, s7⟩ := Q
      dsimp only at *
      go_wp2_with fail
      refine (HM1.out).mono ?_
      rintro e9 w3 ⟨rfl, g1, g2⟩
      have HR3 := Lib.hid (hcut.out.call g1 g2)
      clear g1 g2 hcut HM1
      go_wp2_with fail
      refine (HI5.out _ HR3.out.rd).mono ?_
      rintro e9 w4 ⟨rfl, g1, g2⟩
      have HR4 := Lib.hid (HR3.out.call g1 g2)
      clear g1 g2 HR3 HI5
      have yf := HR4.out.ev.frozen 3
      have yl := HR4.out.ev.lt
      have y3 : w4.cell? ⟨eb, 3, none⟩ = some (.int .i64 0) := HR4.out.ev.cell 3
      have HR5 := Lib.hid (HR4.out.set 3 (.int .i64 tv))
      clear HMi HNm HIe HIa HNx HFl HSk HR4
      go_wp2_with fail
      clear yf yl y3
      go_loopg [12] ws.length (fun gg _ w8 => ∃ (s : Rst) (l : List (Int × Int)) (B : Option Addr) (c : Nat), l.length ≤ 100000 ∧ Hid (evRD ws col vars gg s l = evRD ws col vars ws.length s7 [] ∧ l.length + gg ≤ ws.length ∧ (s.e = 0 → ws.length ≤ gg + s.at_)) ∧
          Hid (RE7 w w.heap.size g eb ws col [.int .i64 k, .int .i64 0, .int .i64 p3, .int .i64 tv, .slice B l.length c, .string (bs p1), .int .i64 (p2 : Int)] s w8 ∧ OwnO w8 w.heap.size 102 2 (.slice B l.length c) l.length (asgV l)))
      case atStart => exact ⟨s7, [], none, 0, by simp, Lib.hid ⟨rfl, by simp, fun _ => by omega⟩, Lib.hid ⟨HR5.out, OwnO.nil _ _ _ _⟩⟩
      case round =>
        obtain ⟨s, l, B, c, hll, HD, HH⟩ := hrel
        have HR := Lib.hid HH.out.1
        have HO := Lib.hid HH.out.2
        clear HH HR5
        have e2 := HR.out.rd.cell2
        obtain ⟨Dw, dw, e0, -⟩ := HR.out.rd.cell0
        have rl := HR.out.rd.lt
        cases hm : moreF ws s with
        | false =>
          have HFin : Hid (F = ⟨k, p1, p2, p3, tv, l, s⟩) := by
            rw [HFq.out, ← HD.out.1]
            cases gk with
            | zero => exact Lib.hid rfl
            | succ n =>
              unfold evRD
              rw [hm]
              exact Lib.hid rfl
          have hmo : s.e ≠ 0 ∨ (s.e = 0 ∧ ws.length - s.at_ = 0) := by
            unfold moreF at hm
            by_cases he : s.e = 0
            · right
              refine ⟨he, ?_⟩
              by_cases ha : s.at_ < ws.length
              · rw [decide_eq_true he, decide_eq_true ha] at hm; cases hm
              · omega
            · exact .inl he
          clear hm HFq HD HPr
          rcases hmo with he | ⟨he, hn⟩
          · have b1 : (s.e == 0) = false := beq_eq_false_iff_ne.2 he
            clear he
            go_wp2_with fail
            clear e0 rl

            have hre := HR.out
            have e2 := hre.rd.cell2
            have e3 := hre.rd.cell3
            have rl := hre.rd.lt
            have v0 : _ = some (Value.int .i64 k) := hre.ev.cell 0
            have v1 : _ = some (Value.int .i64 0) := hre.ev.cell 1
            have v2 : _ = some (Value.int .i64 p3) := hre.ev.cell 2
            have v3 : _ = some (Value.int .i64 tv) := hre.ev.cell 3
            have v4 : _ = some (Value.slice B l.length c) := hre.ev.cell 4
            have v5 : _ = some (Value.string (bs p1)) := hre.ev.cell 5
            have v6 : _ = some (Value.int .i64 (p2 : Int)) := hre.ev.cell 6
            have vl := hre.ev.lt
            have u0 : _ = some (Value.int .i64 0) := hre.res.cell 0
            have u1 : _ = some (Value.int .i64 0) := hre.res.cell 1
            have u2 : _ = some (Value.int .i64 0) := hre.res.cell 2
            have u3 : _ = some (Value.int .i64 0) := hre.res.cell 3
            have u4 : _ = some (Value.slice none 0 0) := hre.res.cell 4
            have u5 : _ = some (Value.string ⟨#[]⟩) := hre.res.cell 5
            have u6 : _ = some (Value.int .i64 0) := hre.res.cell 6
            have ul := hre.res.lt
            have f0 := hre.res.frozen 0
            have f1 := hre.res.frozen 1
            have f2 := hre.res.frozen 2
            have f3 := hre.res.frozen 3
            have f4 := hre.res.frozen 4
            have f5 := hre.res.frozen 5
            have f6 := hre.res.frozen 6
            have n1 := hre.ne1
            have n1' := hre.ne1.symm
            have n2 := hre.ne2
            have n2' := hre.ne2.symm
            have n3 := hre.ne3
            have n3' := hre.ne3.symm
            clear hre
            go_upto_region 33 with fail
            go_region
            go_wp2_with fail
            rw [HFin.out]
            exact revEnd HR.out HO.out rfl (by first | rfl | (rw [he]; rfl)) rfl
          · rw [hn] at e0
            rw [he] at e2
            go_wp2_with fail
            clear e0 e2 rl

            have hre := HR.out
            have e2 := hre.rd.cell2
            have e3 := hre.rd.cell3
            have rl := hre.rd.lt
            have v0 : _ = some (Value.int .i64 k) := hre.ev.cell 0
            have v1 : _ = some (Value.int .i64 0) := hre.ev.cell 1
            have v2 : _ = some (Value.int .i64 p3) := hre.ev.cell 2
            have v3 : _ = some (Value.int .i64 tv) := hre.ev.cell 3
            have v4 : _ = some (Value.slice B l.length c) := hre.ev.cell 4
            have v5 : _ = some (Value.string (bs p1)) := hre.ev.cell 5
            have v6 : _ = some (Value.int .i64 (p2 : Int)) := hre.ev.cell 6
            have vl := hre.ev.lt
            have u0 : _ = some (Value.int .i64 0) := hre.res.cell 0
            have u1 : _ = some (Value.int .i64 0) := hre.res.cell 1
            have u2 : _ = some (Value.int .i64 0) := hre.res.cell 2
            have u3 : _ = some (Value.int .i64 0) := hre.res.cell 3
            have u4 : _ = some (Value.slice none 0 0) := hre.res.cell 4
            have u5 : _ = some (Value.string ⟨#[]⟩) := hre.res.cell 5
            have u6 : _ = some (Value.int .i64 0) := hre.res.cell 6
            have ul := hre.res.lt
            have f0 := hre.res.frozen 0
            have f1 := hre.res.frozen 1
            have f2 := hre.res.frozen 2
            have f3 := hre.res.frozen 3
            have f4 := hre.res.frozen 4
            have f5 := hre.res.frozen 5
            have f6 := hre.res.frozen 6
            have n1 := hre.ne1
            have n1' := hre.ne1.symm
            have n2 := hre.ne2
            have n2' := hre.ne2.symm
            have n3 := hre.ne3
            have n3' := hre.ne3.symm
            clear hre
            go_upto_region 33 with fail
            go_region
            go_wp2_with fail
            rw [HFin.out]
            exact revEnd HR.out HO.out rfl (by first | rfl | (rw [he]; rfl)) rfl
        | true =>
          have hm2 : s.e = 0 ∧ s.at_ < ws.length := by
            unfold moreF at hm
            simpa using hm
          have hAd := pair_adv ws col s hm2.1 hm2.2
          have hgk := HD.out.2.2 hm2.1
          obtain ⟨n, rfl⟩ : ∃ n, gk = n + 1 := ⟨gk - 1, by omega⟩
          have hD1 := HD.out.1
          rw [evRD_succ ws col vars n s l hm] at hD1
          have hlg := HD.out.2.1
          have HPs := Lib.hid (HPr.out g s _ HR.out.rd)
          have c1 := HR.out.rd.cell1
          obtain ⟨m, hmm⟩ : ∃ m, ws.length - s.at_ = m + 1 := ⟨ws.length - s.at_ - 1, by omega⟩
          rw [hmm] at e0
          rw [hm2.1] at e2
          have t1 : decide ((0 : Int) < (m : Int) + 1) = true := decide_eq_true (by omega)
          have m8 : (0 : Int) < (m : Int) + 1 := by omega
          generalize colA ws col s.at_ = at9 at *
          generalize pairR ws col s = M at *
          obtain ⟨nm, nv, s2⟩ := M
          dsimp only at *
          generalize bs nm = NM at *
          clear hm HD hmm
          go_wp2_with fail
          refine (HPs.out).mono ?_
          rintro e9 w9 ⟨rfl, g1, g2⟩
          have HRp := Lib.hid (HR.out.call g1 g2)
          have hrd := HR.out.rd
          have HOp : Hid (OwnO w9 w.heap.size 102 2 (.slice B l.length c) l.length (asgV l)) := by
            obtain ⟨_, _, _, hb, _⟩ := hrd
            exact Lib.hid (HO.out.kept g2.grown (.inr fun e => OwnO.ne HO.out hb (by decide) e.symm))
          clear g1 g2 e0 e2 rl c1 HR HO HPs hrd t1 m8
          have e2 := HRp.out.rd.cell2
          have rl := HRp.out.rd.lt
          by_cases he : s2.e = 0
          case neg =>
            rw [if_neg he] at hD1
            have HFin : Hid (F = ⟨k, p1, p2, p3, tv, l, s2⟩) := by
              rw [HFq.out, ← hD1]
              exact Lib.hid rfl
            have b1 : (s2.e != 0) = true := bne_iff_ne.2 he
            have b2 : (s2.e == 0) = false := beq_eq_false_iff_ne.2 he
            clear HFq hD1 he hm2 hAd hgk hlg HPr
            go_wp2_with fail
            clear e2 rl

            have hre := HRp.out
            have e2 := hre.rd.cell2
            have e3 := hre.rd.cell3
            have rl := hre.rd.lt
            have v0 : _ = some (Value.int .i64 k) := hre.ev.cell 0
            have v1 : _ = some (Value.int .i64 0) := hre.ev.cell 1
            have v2 : _ = some (Value.int .i64 p3) := hre.ev.cell 2
            have v3 : _ = some (Value.int .i64 tv) := hre.ev.cell 3
            have v4 : _ = some (Value.slice B l.length c) := hre.ev.cell 4
            have v5 : _ = some (Value.string (bs p1)) := hre.ev.cell 5
            have v6 : _ = some (Value.int .i64 (p2 : Int)) := hre.ev.cell 6
            have vl := hre.ev.lt
            have u0 : _ = some (Value.int .i64 0) := hre.res.cell 0
            have u1 : _ = some (Value.int .i64 0) := hre.res.cell 1
            have u2 : _ = some (Value.int .i64 0) := hre.res.cell 2
            have u3 : _ = some (Value.int .i64 0) := hre.res.cell 3
            have u4 : _ = some (Value.slice none 0 0) := hre.res.cell 4
            have u5 : _ = some (Value.string ⟨#[]⟩) := hre.res.cell 5
            have u6 : _ = some (Value.int .i64 0) := hre.res.cell 6
            have ul := hre.res.lt
            have f0 := hre.res.frozen 0
            have f1 := hre.res.frozen 1
            have f2 := hre.res.frozen 2
            have f3 := hre.res.frozen 3
            have f4 := hre.res.frozen 4
            have f5 := hre.res.frozen 5
            have f6 := hre.res.frozen 6
            have n1 := hre.ne1
            have n1' := hre.ne1.symm
            have n2 := hre.ne2
            have n2' := hre.ne2.symm
            have n3 := hre.ne3
            have n3' := hre.ne3.symm
            clear hre
            go_upto_region 33 with fail
            go_region
            go_wp2_with fail
            rw [HFin.out]
            exact revEnd HRp.out HOp.out rfl (by first | rfl | (rw [he]; rfl)) rfl
          rw [if_pos he] at hD1
          rw [he] at e2
          have HD1 := Lib.hid hD1
          have HE2 := Lib.hid he
          have HAt : Hid (ws.length ≤ n + s2.at_) := Lib.hid (by omega)
          have HLg : Hid (l.length + 1 + n ≤ ws.length) := Lib.hid (by omega)
          clear hD1 he hm2 hAd hgk hlg
          go_wp2_with fail
          clear e2 rl
          go_loopg [15, 16] vars.length (fun gg q i wr => ∃ j : Nat, q = .int .i64 (fstV NM vars j) ∧ i = .int .i64 (j : Int) ∧ j ≤ vars.length ∧ vars.length ≤ j + gg ∧ wr = w9)
          case atStart => exact ⟨0, rfl, rfl, Nat.zero_le _, by omega, rfl⟩
          case round =>
            obtain ⟨j, rfl, rfl, hj, hjg, hwr⟩ := hrel
            subst hwr
            by_cases hjl : j < vars.length
            · obtain ⟨n8, hn8⟩ : ∃ n8, gk = n8 + 1 := ⟨gk - 1, by omega⟩
              subst hn8
              have m0 : (0 : Int) ≤ (j : Int) := by omega
              have m1 : (j : Int) < (vars.length : Int) := by omega
              obtain ⟨vv, hv⟩ : ∃ vv, vars[j]? = some vv := ⟨_, List.getElem?_eq_getElem hjl⟩
              obtain ⟨bv, ov, hV, hbv, hcv⟩ := HRow.out j vv hv _ HRp.out.ex
              subst hV
              have be := bytes_dec vv.1 NM
              have hst := fst_step hv NM
              have HSt := Lib.hid hst
              generalize fstV NM vars j = Q0 at *
              clear hst hv
              generalize vv.1 = vn at *
              by_cases h1 : vn = NM
              · rw [decide_eq_true h1] at be
                by_cases h2 : Q0 < 0
                · have d2 : decide (Q0 < 0) = true := decide_eq_true h2
                  have HQ : Hid (fstV NM vars (j + 1) = (j : Int)) := by rw [HSt.out, if_pos ⟨h1, h2⟩]; exact Lib.hid rfl
                  clear h1 h2 HSt
                  go_wp2_with fail
                  go_roundg n8
                  case measure => omega
                  case rel => exact ⟨j + 1, by rw [HQ.out], by go_num, by omega, by omega, rfl⟩
                · have d2 : decide (Q0 < 0) = false := decide_eq_false h2
                  have HQ : Hid (fstV NM vars (j + 1) = Q0) := by rw [HSt.out, if_neg (fun h => h2 h.2)]; exact Lib.hid rfl
                  clear h1 h2 HSt
                  go_wp2_with fail
                  go_roundg n8
                  case measure => omega
                  case rel => exact ⟨j + 1, by rw [HQ.out], by go_num, by omega, by omega, rfl⟩
              · rw [decide_eq_false h1] at be
                have HQ : Hid (fstV NM vars (j + 1) = Q0) := by rw [HSt.out, if_neg (fun h => h1 h.1)]; exact Lib.hid rfl
                clear h1 HSt
                go_wp2_with fail
                go_roundg n8
                case measure => omega
                case rel => exact ⟨j + 1, by rw [HQ.out], by go_num, by omega, by omega, rfl⟩
            · have hjv : j = vars.length := by omega
              subst hjv
              have hfa := fst_all NM vars
              have HRq0 := HRp
              generalize fstV NM vars vars.length = Q0 at *
              have HD2 := Lib.hid HD1.out
              cases hvi : vIdx NM vars with
              | some i =>
                rw [hvi] at hfa
                dsimp only at hfa
                subst hfa
                have HDn : Hid (evRD ws col vars n s2 (l ++ [((i : Int), nv)]) = evRD ws col vars ws.length s7 []) := by
                  have h := HD1.out
                  rw [hvi] at h
                  exact Lib.hid h
                have d1 : decide ((i : Int) < 0) = false := decide_eq_false (by omega)
                have HRq := HRp
                have HOq := HOp
                clear hvi HD1 HD2 HRq0 HRp HOp
                go_upto_region 32 with fail

                have y4 : _ = some (Value.slice B l.length c) := HRq.out.ev.cell 4
                have yl := HRq.out.ev.lt
                have HBs := Lib.hid (((HRq.out.ex).alloc (.cells #[.int .i64 (i : Int), .int .i64 nv] 102)).below.size)
                go_wp2_with (at_builtin; refine wpList_append_one _ rfl _ _ 36 rfl w.heap.size 102 i0 _ 2 16 Tryz.underlying36 hi0 hz0 hz1 hz2 rfl (.slice B l.length c) l.length (asgV l) rfl (OwnO.ex HOq.out ((Ex.refl _).alloc _)) _ [.int .i64 (i : Int), .int .i64 nv] rfl rfl ?a1 ?a2 ?a3 ?a4 ?a5 ?_)
                try case a1 => exact news_new rfl (by simp)
                try case a2 => first | exact one_ints (by simp) | (intro u hu; simp only [List.mem_cons, List.not_mem_nil, or_false] at hu; rcases hu with rfl | rfl <;> rfl) | (simp [Value.oneCell']; done)
                try case a3 => omega
                try case a4 => omega
                try case a5 => first | (have hh := HBs.out; omega) | (have hh := HBs.out; simp at hh ⊢; omega)
                intro B' c' w12 ho hg hat hEx
                rw [asgV_snoc] at ho
                have hRa := HRq.out.exx ((Ex.refl _).alloc (.cells #[.int .i64 (i : Int), .int .i64 nv] 102))
                have hOa := HOq.out.ex ((Ex.refl _).alloc (.cells #[.int .i64 (i : Int), .int .i64 nv] 102))
                have hx12 := hEx w hRa.ex (Nat.le_refl _)
                have hR12 := hRa.chg (Chg.of_own hOa hg) hx12 (by decide) (by decide) (by decide)
                have hll' : (l ++ [((i : Int), nv)]).length = l.length + 1 := by simp
                have HL' := Lib.hid hll'
                rw [← hll'] at ho hat ⊢
                clear hll'
                have z4 : _ = some (Value.slice B l.length c) := hR12.ev.cell 4
                have zl := hR12.ev.lt
                have zf := hR12.ev.frozen 4
                have HR13 := Lib.hid (hR12.set 4 (.slice B' (l ++ [((i : Int), nv)]).length c'))
                have HO13 := Lib.hid (ho.chg (Chg.set ⟨_, hR12.ev⟩ 4 (.slice B' (l ++ [((i : Int), nv)]).length c')) (by decide))
                have HLen : Hid ((l ++ [((i : Int), nv)]).length ≤ 100000) := by show _ ≤ _; rw [HL'.out]; have := HLg.out; omega
                have HLg' : Hid ((l ++ [((i : Int), nv)]).length + n ≤ ws.length) := by show _ ≤ _; rw [HL'.out]; exact HLg.out
                clear ho hg hat hEx hRa hOa hx12 hR12 y4 yl
                generalize l ++ [((i : Int), nv)] = l2 at *
                go_wp2_with fail
                go_roundg n
                case measure => omega
                case rel => exact ⟨s2, l2, B', c', HLen.out, Lib.hid ⟨HDn.out, HLg'.out, fun _ => HAt.out⟩, Lib.hid ⟨HR13.out, HO13.out⟩⟩
              | none =>
                rw [hvi] at hfa
                dsimp only at hfa
                subst hfa
                have HDn : Hid (evRD ws col vars n ⟨s2.at_, 13, at9⟩ (l ++ [((-1 : Int), nv)]) = evRD ws col vars ws.length s7 []) := by
                  have h := HD1.out
                  rw [hvi] at h
                  exact Lib.hid h
                have d1 : decide ((-1 : Int) < 0) = true := by decide
                have e2 := HRp.out.rd.cell2
                have e3 := HRp.out.rd.cell3
                have rl := HRp.out.rd.lt
                have f2 := HRp.out.rd.frozen 2
                have f3 := HRp.out.rd.frozen 3
                have HRq := Lib.hid (HRp.out.err 13 at9)
                have hne := RrC.own_neB HOp.out HRp.out.rd (by decide)
                have HOq := Lib.hid ((HOp.out.set_ (p := ⟨g, 2, none⟩) hne (.int .i64 13)).set_ (p := ⟨g, 3, none⟩) hne (.int .i64 (at9 : Int)))
                clear hvi HD1 HD2 HRq0 HRp HOp hne
                go_upto_region 32 with fail
                generalize (wr.setCell ⟨g, 2, none⟩ (.int .i64 13)).setCell ⟨g, 3, none⟩ (.int .i64 (at9 : Int)) = w10 at *
                clear e2 e3 rl f2 f3

                have y4 : _ = some (Value.slice B l.length c) := HRq.out.ev.cell 4
                have yl := HRq.out.ev.lt
                have HBs := Lib.hid (((HRq.out.ex).alloc (.cells #[.int .i64 (-1 : Int), .int .i64 nv] 102)).below.size)
                go_wp2_with (at_builtin; refine wpList_append_one _ rfl _ _ 36 rfl w.heap.size 102 i0 _ 2 16 Tryz.underlying36 hi0 hz0 hz1 hz2 rfl (.slice B l.length c) l.length (asgV l) rfl (OwnO.ex HOq.out ((Ex.refl _).alloc _)) _ [.int .i64 (-1 : Int), .int .i64 nv] rfl rfl ?b1 ?b2 ?b3 ?b4 ?b5 ?_)
                try case b1 => exact news_new rfl (by simp)
                try case b2 => first | exact one_ints (by simp) | (intro u hu; simp only [List.mem_cons, List.not_mem_nil, or_false] at hu; rcases hu with rfl | rfl <;> rfl) | (simp [Value.oneCell']; done)
                try case b3 => omega
                try case b4 => omega
                try case b5 => first | (have hh := HBs.out; omega) | (have hh := HBs.out; simp at hh ⊢; omega)
                intro B' c' w12 ho hg hat hEx
                rw [asgV_snoc] at ho
                have hRa := HRq.out.exx ((Ex.refl _).alloc (.cells #[.int .i64 (-1 : Int), .int .i64 nv] 102))
                have hOa := HOq.out.ex ((Ex.refl _).alloc (.cells #[.int .i64 (-1 : Int), .int .i64 nv] 102))
                have hx12 := hEx w hRa.ex (Nat.le_refl _)
                have hR12 := hRa.chg (Chg.of_own hOa hg) hx12 (by decide) (by decide) (by decide)
                have hll' : (l ++ [((-1 : Int), nv)]).length = l.length + 1 := by simp
                have HL' := Lib.hid hll'
                rw [← hll'] at ho hat ⊢
                clear hll'
                have z4 : _ = some (Value.slice B l.length c) := hR12.ev.cell 4
                have zl := hR12.ev.lt
                have zf := hR12.ev.frozen 4
                have HR13 := Lib.hid (hR12.set 4 (.slice B' (l ++ [((-1 : Int), nv)]).length c'))
                have HO13 := Lib.hid (ho.chg (Chg.set ⟨_, hR12.ev⟩ 4 (.slice B' (l ++ [((-1 : Int), nv)]).length c')) (by decide))
                have HLen : Hid ((l ++ [((-1 : Int), nv)]).length ≤ 100000) := by show _ ≤ _; rw [HL'.out]; have := HLg.out; omega
                have HLg' : Hid ((l ++ [((-1 : Int), nv)]).length + n ≤ ws.length) := by show _ ≤ _; rw [HL'.out]; exact HLg.out
                clear ho hg hat hEx hRa hOa hx12 hR12 y4 yl
                generalize l ++ [((-1 : Int), nv)] = l2 at *
                go_wp2_with fail
                go_roundg n
                case measure => omega
                case rel => exact ⟨⟨s2.at_, 13, at9⟩, l2, B', c', HLen.out, Lib.hid ⟨HDn.out, HLg'.out, fun _ => HAt.out⟩, Lib.hid ⟨HR13.out, HO13.out⟩⟩
end
end Go.Proofs.YtpmponafjhnegaaGreatDoor
