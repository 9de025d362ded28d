/-
  The reference's number, walked. The reference's find, walked. The reference's reader of words: words, next, fail, skip and missing, walked. The reference's reader of words: name, integer and pair, walked. The reference's pair, walked. The line of an event, read by the reference: walked. The line of a process, read by the reference: walked. The memory of the reference's Parse: the trace being built, the lines of its processes and events, the events as they were read. What the reference's Parse does behind its loop, walked by itself.
  Conditions: as each theorem says.
-/
import Derived.Test.YtpmponafjhnegaaGreatDoorMb
import Derived.Test.YtpmponafjhnegaaGreatDoorMh
import Derived.Deep.LoopGhost
import Derived.Test.YtpmponafjhnegaaGreatDoorMg
import Derived.Deep.Cut
import Derived.Deep.CutBlock
import Derived.BigQuiet
import Derived.BigRegion
import Derived.RegionTactic
import Derived.ChangeAlike
import Derived.Test.YtpmponafjhnegaaGreatDoorMm
import Derived.Test.YtpmponafjhnegaaGreatDoorMr
import Derived.Test.YtpmponafjhnegaaGreatDoorHh
import Derived.Deep.RegionHeld3
namespace Go.Proofs.YtpmponafjhnegaaGreatDoor
section
section
open Go.RowKit Nu
/-- a number that stops growing above the greatest -/
def sat (n : Nat) : Nat := if n ≤ 1125899906842624 then n else 1125899906842625
theorem sat_step (n c : Nat) : sat (10 * n + c) = (if 10 * sat n + c ≤ 1125899906842625 then 10 * sat n + c else 1125899906842625) := by
  unfold sat
  repeat' split
  all_goals omega
theorem sat_le (n : Nat) : sat n ≤ 1125899906842625 := by unfold sat; split <;> omega
/-- where the digits stand -/
def NumC (s D : ByteArray) : Prop := (∃ h : 0 < s.size, ((s[0].toNat : Int) == 45) = true ∧ s.extract 1 s.size = D) ∨ (s = D ∧ ∃ h : 0 < s.size, ((s[0].toNat : Int) == 45) = false) ∨ (s = D ∧ s.size = 0)
theorem rnum_empty (s D : ByteArray) (w : World) (hs : s.size ≤ 20000) (hC : NumC s D) (h0 : D.size = 0) : Calls Tryz.prog 70 #[.string s] w (Ret w (Two 0 3)) := by
  have f2 : D.toList.isEmpty = true := by rw [nonempty_iff]; exact decide_eq_true h0
  unfold Two
  rcases hC with ⟨h1, h2, h3⟩ | ⟨h1, h2, h3⟩ | ⟨h1, h2⟩
  · go_enter Tryz.func70, Tryz.ntmps70
    go_wp2_with fail
    go_ret2
    exact Ret.mk rfl (Ex.refl _)
  · subst h1; omega
  · subst h1
    clear h0
    go_enter Tryz.func70, Tryz.ntmps70
    go_wp2_with fail
    go_ret2
    exact Ret.mk rfl (Ex.refl _)
theorem rnum_zero (s D : ByteArray) (w : World) (hs : s.size ≤ 20000) (hC : NumC s D) (h0 : 0 < D.size) (f5 : ((D[0].toNat : Int) == 48) = true) (f6 : (s.toList == [48]) = false) : Calls Tryz.prog 70 #[.string s] w (Ret w (Two 0 3)) := by
  have f2 : D.toList.isEmpty = false := by rw [nonempty_iff]; exact decide_eq_false (by omega)
  have f7 : (s.toList != [48]) = true := by unfold bne; rw [f6]; rfl
  have f8 : (!s.toList == [48]) = true := by rw [f6]; rfl
  unfold Two
  rcases hC with ⟨h1, h2, h3⟩ | ⟨h1, h2, h3⟩ | ⟨h1, h2⟩
  · go_enter Tryz.func70, Tryz.ntmps70
    go_wp2_with fail
    go_ret2
    exact Ret.mk rfl (Ex.refl _)
  · subst h1
    go_enter Tryz.func70, Tryz.ntmps70
    go_wp2_with fail
    go_ret2
    exact Ret.mk rfl (Ex.refl _)
  · subst h1; omega
set_option maxRecDepth 20000 in
set_option maxHeartbeats 3200000 in
theorem rnum_loop (s D : ByteArray) (w : World) (hs : s.size ≤ 20000) (hC : NumC s D) (hD : bs (pdig s.data.toList) = D) (h0 : 0 < D.size) (hz : (((D[0].toNat : Int) == 48) = true ∧ (s.toList == [48]) = true) ∨ ((D[0].toNat : Int) == 48) = false)
    (hF : formOk s.data.toList = D.data.toList.all isDig) : Calls Tryz.prog 70 #[.string s] w (Ret w (Two (parV s.data.toList) (parE s.data.toList))) := by
  have hDl : D.data.toList = pdig s.data.toList := by rw [← hD]
  have hDs : D.size ≤ 20000 := by
    have h1 := pdig_len s.data.toList
    rw [size_data, hDl]
    rw [size_data] at hs
    omega
  have f2 : D.toList.isEmpty = false := by rw [nonempty_iff]; exact decide_eq_false (by omega)
  have HBad : Hid (∀ k, (hk : k < D.size) → isDig D[k] = false → parE s.data.toList = 3 ∧ parV s.data.toList = 0) := fun k hk hb => parE_nil (by
    rw [hF, List.all_eq_false]
    exact ⟨D[k], List.mem_of_getElem? (get_idx hk), by rw [hb]; decide⟩)
  have HGood : Hid ((∀ k, (hk : k < D.size) → isDig D[k] = true) → formOk s.data.toList = true) := fun ha => by
    rw [hF, List.all_eq_true]
    intro x hx
    obtain ⟨i, hi, rfl⟩ := List.getElem_of_mem hx
    have h1 := ha i hi
    have h2 := get_idx (s := D) hi
    rw [List.getElem?_eq_getElem hi] at h2
    rw [Option.some.inj h2]
    exact h1
  have HV : Hid (formOk s.data.toList = true → valF 0 D.data.toList ≤ 1125899906842624 → parE s.data.toList = 0 ∧ parV s.data.toList = sgn s.data.toList (valF 0 D.data.toList)) := fun h1 h2 => by
    rw [hDl] at h2 ⊢
    unfold parE parV
    rw [if_pos h1, if_pos h1, if_pos h2, if_pos h2]
    exact ⟨rfl, rfl⟩
  have HO : Hid (formOk s.data.toList = true → ¬ valF 0 D.data.toList ≤ 1125899906842624 → parE s.data.toList = 9 ∧ parV s.data.toList = 0) := fun h1 h2 => by
    rw [hDl] at h2
    unfold parE parV
    rw [if_pos h1, if_pos h1, if_neg h2, if_neg h2]
    exact ⟨rfl, rfl⟩
  have HSn : Hid (∀ k, (hk : k < D.size) → valF 0 (D.data.toList.take (k + 1)) = valF 0 (D.data.toList.take k) * 10 + (D[k].toNat - 48)) := fun k hk => by
    rw [List.take_add_one, get_idx hk, valF_append]
    rfl
  have HTk : Hid (D.data.toList.take D.size = D.data.toList) := by
    have : D.size = D.data.toList.length := by simp
    show _ = _
    rw [this, List.take_length]
  have hz' : (((D[0].toNat : Int) == 48) = true ∧ (!s.toList == [48]) = false) ∨ ((D[0].toNat : Int) == 48) = false := by
    rcases hz with ⟨h1, h2⟩ | h
    · exact .inl ⟨h1, by rw [h2]; rfl⟩
    · exact .inr h
  have HSg1 : Hid (∀ h : 0 < s.size, ((s[0].toNat : Int) == 45) = true → ∀ n, sgn s.data.toList n = -(n : Int)) := fun h h1 n => by
    unfold sgn
    rw [head_idx h, if_pos]
    have := beq_iff_eq.1 h1
    have h2 : s[0].toNat = 45 := by omega
    rw [Option.some.injEq, ← UInt8.toNat_inj]
    exact h2
  have HSg2 : Hid (∀ h : 0 < s.size, ((s[0].toNat : Int) == 45) = false → ∀ n, sgn s.data.toList n = (n : Int)) := fun h h1 n => by
    unfold sgn
    rw [head_idx h, if_neg]
    have := beq_eq_false_iff_ne.1 h1
    rw [Option.some.injEq, ← UInt8.toNat_inj]
    intro h2
    apply this
    have : s[0].toNat = 45 := h2
    omega
  have HLen : Hid (∀ h : 0 < s.size, ((s[0].toNat : Int) == 45) = true → D.size < s.size) := fun h h1 => by
    have h2 : s.data.toList.head? = some s[0] := head_idx h
    rw [size_data, size_data, hDl]
    cases hl : s.data.toList with
    | nil => rw [hl] at h2; cases h2
    | cons a r =>
      rw [hl] at h2
      have h3 : a = s[0] := by simpa using h2
      have h4 : a = 45 := by
        rw [h3, ← UInt8.toNat_inj]
        have := beq_iff_eq.1 h1
        show s[0].toNat = 45
        omega
      show (if a = 45 then r else a :: r).length < _
      rw [if_pos h4]
      simp
  have HD0 := Lib.hid h0
  clear hF hDl hD hz
  unfold Two
  generalize parV s.data.toList = V at *
  generalize parE s.data.toList = E at *
  generalize formOk s.data.toList = F at *
  rcases hC with ⟨p1, p2, p3⟩ | ⟨p1, p2, p3⟩ | ⟨p1, p2⟩
  · have HSgn := Lib.hid (HSg1.out p1 p2)
    have hlen := HLen.out p1 p2
    have hlt0 : decide ((D.size : Int) < (s.size : Int)) = true := decide_eq_true (by omega)
    clear HSg1 HSg2 HLen
    generalize sgn s.data.toList = sg at *
    rcases hz' with ⟨f5, f6⟩ | f5
    all_goals
      go_enter Tryz.func70, Tryz.ntmps70
      go_wp2_with fail
      go_loopg [5, 6] D.size (fun gg N i wx => ∃ k : Nat, N = .int .i64 (sat (valF 0 (D.data.toList.take k)) : Int) ∧ i = .int .i64 (k : Int) ∧ k ≤ D.size ∧ D.size ≤ k + gg ∧ Hid ((∀ j, (hj : j < D.size) → j < k → isDig D[j] = true) ∧ Ex w wx))
      case atStart => exact ⟨0, rfl, rfl, by omega, by omega, Lib.hid ⟨(fun j _ hj => absurd hj (by omega)), Ex.refl _⟩⟩
      case round =>
        obtain ⟨k, rfl, rfl, hk, hkg, HH⟩ := hrel
        by_cases hlt : k < D.size
        · obtain ⟨n8, rfl⟩ : ∃ n8, gk = n8 + 1 := ⟨gk - 1, by omega⟩
          have hki : (k : Int) < (D.size : Int) := by omega
          have HBk := Lib.hid (HBad.out k hlt)
          have HSk := Lib.hid (HSn.out k hlt)
          have HN : Hid (isDig D[k] = true → ∀ j, (hj : j < D.size) → j < k + 1 → isDig D[j] = true) := fun hp j hj hjk => by
            by_cases h : j < k
            · exact HH.out.1 j hj h
            · obtain rfl : j = k := by omega
              exact hp
          have HI : Hid (isDig D[k] = (decide (48 ≤ D[k].toNat) && decide (D[k].toNat ≤ 57))) := rfl
          generalize isDig D[k] = q at *
          obtain ⟨c, hc⟩ : ∃ c : Nat, c = D[k].toNat := ⟨_, rfl⟩
          rw [← hc] at HI HSk
          have hc2 : (D[k].toNat : Int) = (c : Int) := by rw [hc]
          clear hc
          cases q with
          | false =>
            obtain ⟨e1, e2⟩ := HBk.out rfl
            subst e1 e2
            have hi := HI.out
            have d1 : ¬ (48 ≤ c ∧ c ≤ 57) := fun h => by simp [h.1, h.2] at hi
            clear hi
            cases g1 : decide ((c : Int) < 48) <;> cases g2 : decide ((57 : Int) < (c : Int))
            all_goals first | (exfalso; simp only [decide_eq_true_eq, decide_eq_false_iff_not] at g1 g2; omega) | skip
            all_goals
              clear d1
              go_wp2_with fail
              go_ret2
              exact Ret.mk rfl HH.out.2
          | true =>
            have HN' := Lib.hid (HN.out rfl)
            have hi := HI.out
            have d1 : 48 ≤ c ∧ c ≤ 57 := by simpa using hi.symm
            clear hi
            have g1 : decide ((c : Int) < 48) = false := decide_eq_false (by omega)
            have g2 : decide ((57 : Int) < (c : Int)) = false := decide_eq_false (by omega)
            have hst := sat_step (valF 0 (D.data.toList.take k)) (c - 48)
            rw [show 10 * valF 0 (D.data.toList.take k) + (c - 48) = valF 0 (D.data.toList.take (k + 1)) by rw [HSk.out]; omega] at hst
            have hsl := sat_le (valF 0 (D.data.toList.take k))
            have HSt := Lib.hid hst
            clear hst
            generalize sat (valF 0 (D.data.toList.take k)) = a at *
            obtain ⟨d, rfl⟩ : ∃ d, c = d + 48 := ⟨c - 48, by omega⟩
            have hc3 : ((d + 48 : Nat) : Int) = (d : Int) + 48 := by omega
            rw [hc3] at hc2 g1 g2
            have hd : d ≤ 9 := by omega
            have e1 : IntKind.i64.wrap (10 * (a : Int)) = 10 * (a : Int) := IntWalk.i64_in _ (by omega)
            have e2 : IntKind.u8.wrap ((d : Int) + 48 - 48) = (d : Int) := by rw [IntKind.wrap_u8]; omega
            have e3 : IntKind.i64.wrap (d : Int) = (d : Int) := IntWalk.i64_in _ (by omega)
            have e4 : IntKind.i64.wrap (10 * (a : Int) + (d : Int)) = 10 * (a : Int) + (d : Int) := IntWalk.i64_in _ (by omega)
            clear d1
            go_wp2_with fail
            go_roundg n8
            case measure => omega
            case rel =>
              refine ⟨k + 1, ?_, by go_num, by omega, by omega, Lib.hid ⟨HN'.out, HH.out.2⟩⟩
              rw [HSt.out]
              have hmn : min (10 * (a : Int) + (d : Int)) 1125899906842625 = ((if 10 * a + (d + 48 - 48) ≤ 1125899906842625 then 10 * a + (d + 48 - 48) else 1125899906842625 : Nat) : Int) := by
                rw [Int.min_def]
                split <;> split <;> omega
              rw [hmn]
        · obtain rfl : k = D.size := by omega
          have ef := HGood.out (fun j hj => HH.out.1 j hj hj)
          have HT := HTk.out
          rw [HT]
          have HV1 := Lib.hid (HV.out ef)
          have HO1 := Lib.hid (HO.out ef)
          clear HT HV HO ef
          generalize valF 0 D.data.toList = M at *
          by_cases hb : M ≤ 1125899906842624
          · have hsa : sat M = M := by unfold sat; rw [if_pos hb]
            rw [hsa]
            obtain ⟨e1, e2⟩ := HV1.out hb
            rw [HSgn.out] at e2
            subst e1 e2
            have g1 : decide (1125899906842624 < (M : Int)) = false := decide_eq_false (by omega)
            have g3 : IntKind.i64.wrap (-(M : Int)) = -(M : Int) := IntWalk.i64_in _ (by omega)
            clear hb
            go_wp2_with fail
            go_ret2
            exact Ret.mk rfl HH.out.2
          · have hsa : sat M = 1125899906842625 := by unfold sat; rw [if_neg hb]
            rw [hsa]
            obtain ⟨e1, e2⟩ := HO1.out hb
            subst e1 e2
            clear hb
            go_wp2_with fail
            go_ret2
            exact Ret.mk rfl HH.out.2
  · have HSgn := Lib.hid (HSg2.out p2 p3)
    clear HSg1 HSg2 HLen
    generalize sgn s.data.toList = sg at *
    have p4 := p1.symm
    clear p1
    subst p4
    rcases hz' with ⟨f5, f6⟩ | f5
    all_goals
      go_enter Tryz.func70, Tryz.ntmps70
      go_wp2_with fail
      go_loopg [5, 6] D.size (fun gg N i wx => ∃ k : Nat, N = .int .i64 (sat (valF 0 (D.data.toList.take k)) : Int) ∧ i = .int .i64 (k : Int) ∧ k ≤ D.size ∧ D.size ≤ k + gg ∧ Hid ((∀ j, (hj : j < D.size) → j < k → isDig D[j] = true) ∧ Ex w wx))
      case atStart => exact ⟨0, rfl, rfl, by omega, by omega, Lib.hid ⟨(fun j _ hj => absurd hj (by omega)), Ex.refl _⟩⟩
      case round =>
        obtain ⟨k, rfl, rfl, hk, hkg, HH⟩ := hrel
        by_cases hlt : k < D.size
        · obtain ⟨n8, rfl⟩ : ∃ n8, gk = n8 + 1 := ⟨gk - 1, by omega⟩
          have hki : (k : Int) < (D.size : Int) := by omega
          have HBk := Lib.hid (HBad.out k hlt)
          have HSk := Lib.hid (HSn.out k hlt)
          have HN : Hid (isDig D[k] = true → ∀ j, (hj : j < D.size) → j < k + 1 → isDig D[j] = true) := fun hp j hj hjk => by
            by_cases h : j < k
            · exact HH.out.1 j hj h
            · obtain rfl : j = k := by omega
              exact hp
          have HI : Hid (isDig D[k] = (decide (48 ≤ D[k].toNat) && decide (D[k].toNat ≤ 57))) := rfl
          generalize isDig D[k] = q at *
          obtain ⟨c, hc⟩ : ∃ c : Nat, c = D[k].toNat := ⟨_, rfl⟩
          rw [← hc] at HI HSk
          have hc2 : (D[k].toNat : Int) = (c : Int) := by rw [hc]
          clear hc
          cases q with
          | false =>
            obtain ⟨e1, e2⟩ := HBk.out rfl
            subst e1 e2
            have hi := HI.out
            have d1 : ¬ (48 ≤ c ∧ c ≤ 57) := fun h => by simp [h.1, h.2] at hi
            clear hi
            cases g1 : decide ((c : Int) < 48) <;> cases g2 : decide ((57 : Int) < (c : Int))
            all_goals first | (exfalso; simp only [decide_eq_true_eq, decide_eq_false_iff_not] at g1 g2; omega) | skip
            all_goals
              clear d1
              go_wp2_with fail
              go_ret2
              exact Ret.mk rfl HH.out.2
          | true =>
            have HN' := Lib.hid (HN.out rfl)
            have hi := HI.out
            have d1 : 48 ≤ c ∧ c ≤ 57 := by simpa using hi.symm
            clear hi
            have g1 : decide ((c : Int) < 48) = false := decide_eq_false (by omega)
            have g2 : decide ((57 : Int) < (c : Int)) = false := decide_eq_false (by omega)
            have hst := sat_step (valF 0 (D.data.toList.take k)) (c - 48)
            rw [show 10 * valF 0 (D.data.toList.take k) + (c - 48) = valF 0 (D.data.toList.take (k + 1)) by rw [HSk.out]; omega] at hst
            have hsl := sat_le (valF 0 (D.data.toList.take k))
            have HSt := Lib.hid hst
            clear hst
            generalize sat (valF 0 (D.data.toList.take k)) = a at *
            obtain ⟨d, rfl⟩ : ∃ d, c = d + 48 := ⟨c - 48, by omega⟩
            have hc3 : ((d + 48 : Nat) : Int) = (d : Int) + 48 := by omega
            rw [hc3] at hc2 g1 g2
            have hd : d ≤ 9 := by omega
            have e1 : IntKind.i64.wrap (10 * (a : Int)) = 10 * (a : Int) := IntWalk.i64_in _ (by omega)
            have e2 : IntKind.u8.wrap ((d : Int) + 48 - 48) = (d : Int) := by rw [IntKind.wrap_u8]; omega
            have e3 : IntKind.i64.wrap (d : Int) = (d : Int) := IntWalk.i64_in _ (by omega)
            have e4 : IntKind.i64.wrap (10 * (a : Int) + (d : Int)) = 10 * (a : Int) + (d : Int) := IntWalk.i64_in _ (by omega)
            clear d1
            go_wp2_with fail
            go_roundg n8
            case measure => omega
            case rel =>
              refine ⟨k + 1, ?_, by go_num, by omega, by omega, Lib.hid ⟨HN'.out, HH.out.2⟩⟩
              rw [HSt.out]
              have hmn : min (10 * (a : Int) + (d : Int)) 1125899906842625 = ((if 10 * a + (d + 48 - 48) ≤ 1125899906842625 then 10 * a + (d + 48 - 48) else 1125899906842625 : Nat) : Int) := by
                rw [Int.min_def]
                split <;> split <;> omega
              rw [hmn]
        · obtain rfl : k = D.size := by omega
          have ef := HGood.out (fun j hj => HH.out.1 j hj hj)
          have HT := HTk.out
          rw [HT]
          have HV1 := Lib.hid (HV.out ef)
          have HO1 := Lib.hid (HO.out ef)
          clear HT HV HO ef
          generalize valF 0 D.data.toList = M at *
          by_cases hb : M ≤ 1125899906842624
          · have hsa : sat M = M := by unfold sat; rw [if_pos hb]
            rw [hsa]
            obtain ⟨e1, e2⟩ := HV1.out hb
            rw [HSgn.out] at e2
            subst e1 e2
            have g1 : decide (1125899906842624 < (M : Int)) = false := decide_eq_false (by omega)
            have g3 : IntKind.i64.wrap (-(M : Int)) = -(M : Int) := IntWalk.i64_in _ (by omega)
            clear hb
            go_wp2_with fail
            go_ret2
            exact Ret.mk rfl HH.out.2
          · have hsa : sat M = 1125899906842625 := by unfold sat; rw [if_neg hb]
            rw [hsa]
            obtain ⟨e1, e2⟩ := HO1.out hb
            subst e1 e2
            clear hb
            go_wp2_with fail
            go_ret2
            exact Ret.mk rfl HH.out.2
  · subst p1; omega
theorem numC_of (s : ByteArray) : NumC s (bs (pdig s.data.toList)) := by
  by_cases h : 0 < s.size
  · have h2 : s.data.toList.head? = some s[0] := head_idx h
    cases hl : s.data.toList with
    | nil => rw [hl] at h2; cases h2
    | cons a r =>
      rw [hl] at h2
      have h3 : a = s[0] := by simpa using h2
      by_cases h4 : a = 45
      · refine .inl ⟨h, ?_, ?_⟩
        · rw [← h3, h4]; rfl
        · apply ByteArray.ext
          apply Array.toList_inj.1
          have e1 : (bs (pdig (a :: r))).data.toList = r := by show (if a = 45 then r else a :: r) = _; rw [if_pos h4]
          have e2 : s.size = r.length + 1 := by rw [size_data, hl]; rfl
          rw [e1, Lib.extract_data, hl, e2]
          simp
      · refine .inr (.inl ⟨?_, h, ?_⟩)
        · have : pdig (a :: r) = a :: r := by show (if a = 45 then r else a :: r) = _; rw [if_neg h4]
          rw [this, ← hl]
        · rw [← h3]
          apply beq_eq_false_iff_ne.2
          intro h5
          apply h4
          rw [← UInt8.toNat_inj]
          show a.toNat = 45
          omega
  · have h0 : s.size = 0 := by omega
    refine .inr (.inr ⟨?_, h0⟩)
    have : s.data.toList = [] := List.length_eq_zero_iff.1 (by rw [← size_data]; exact h0)
    rw [this]
    apply ByteArray.ext
    apply Array.toList_inj.1
    rw [this]
    rfl
theorem rnumber_c (s : ByteArray) (w : World) (hs : s.size ≤ 20000) : Calls Tryz.prog 70 #[.string s] w (Ret w (Two (parV s.data.toList) (parE s.data.toList))) := by
  obtain ⟨D, hD⟩ : ∃ D : ByteArray, bs (pdig s.data.toList) = D := ⟨_, rfl⟩
  have hDl : D.data.toList = pdig s.data.toList := by rw [← hD]
  have hC : NumC s D := by rw [← hD]; exact numC_of s
  by_cases h0 : D.size = 0
  · have e : formOk s.data.toList = false := by
      have : pdig s.data.toList = [] := by rw [← hDl]; exact List.length_eq_zero_iff.1 h0
      unfold formOk; simp [this]
    obtain ⟨e1, e2⟩ := parE_nil e
    rw [e1, e2]
    exact rnum_empty s D w hs hC h0
  · have h1 : 0 < D.size := by omega
    have hh := head_idx h1
    rw [hDl] at hh
    have hz : ((D[0].toNat : Int) == 48) = decide (D[0] = 48) := by
      rw [Bool.eq_iff_iff, beq_iff_eq, decide_eq_true_eq, ← UInt8.toNat_inj]
      show _ ↔ D[0].toNat = 48
      omega
    have hs48 : (s.toList == [48]) = decide (s.data.toList = [48]) := by
      rw [Lib.toList_data, Bool.eq_iff_iff]; simp
    have hne : (pdig s.data.toList).isEmpty = false := by
      cases hp : pdig s.data.toList with
      | nil => rw [hp] at hh; cases hh
      | cons a b => rfl
    have hform : formOk s.data.toList = ((pdig s.data.toList).all isDig && !(decide (D[0] = 48) && decide (s.data.toList ≠ [48]))) := by
      unfold formOk
      rw [hne, hh]
      simp
    by_cases h5 : D[0] = 48
    · by_cases h6 : s.data.toList = [48]
      · exact rnum_loop s D w hs hC hD h1 (.inl ⟨by rw [hz]; simpa using h5, by rw [hs48]; simpa using h6⟩) (by rw [hform, hDl]; simp [h6])
      · have e : formOk s.data.toList = false := by rw [hform]; simp [h5, h6]
        obtain ⟨e1, e2⟩ := parE_nil e
        rw [e1, e2]
        exact rnum_zero s D w hs hC h1 (by rw [hz]; simpa using h5) (by rw [hs48]; simpa using h6)
    · exact rnum_loop s D w hs hC hD h1 (.inr (by rw [hz]; simpa using h5)) (by rw [hform, hDl]; simp [h5])
end
section
open Go.RowKit Nu
set_option maxRecDepth 20000 in
set_option maxHeartbeats 3200000 in
theorem rfind_c (t : List Pr) (A : Option Addr) (c : Nat) (n : ByteArray) (w : World) (hT : TcC w A t) (hl : t.length ≤ 100000) :
    Calls Tryz.prog 62 #[.agg #[.slice A t.length c], .string n] w (Ret w (.int .i64 (idxV (pIdx n (t.map (·.name)))))) := by
  have HT : Hid (∀ w', Ex w w' → TcC w' A t) := fun w' hx => hT.ex hx
  have HB0 : Hid (∀ w', Ex (w.alloc (.cells #[.slice A t.length c] 24)) w' → Blk w' w.heap.size 24 [.slice A t.length c]) := fun w' hx => (Blk.new w 24 [.slice A t.length c]).ex hx
  have HX0 : Hid (Ex w (w.alloc (.cells #[.slice A t.length c] 24))) := (Ex.refl w).alloc _
  have HAt : Hid (∀ k x, (t.map (·.name))[k]? = some x → (∀ j y, j < k → (t.map (·.name))[j]? = some y → y ≠ n) → x = n → pIdx n (t.map (·.name)) = some k) := fun k x h1 h2 h3 => pIdx_at h1 h2 h3
  have HNo : Hid ((∀ (j : Nat) (y : ByteArray), (t.map (·.name))[j]? = some y → y ≠ n) → pIdx n (t.map (·.name)) = none) := fun h => pIdx_none h
  generalize pIdx n (t.map (·.name)) = R at *
  clear hT
  go_enter Tryz.func62, Tryz.ntmps62
  go_upto_region 1 with fail
  generalize w.alloc (.cells #[.slice A t.length c] 24) = W0 at *
  go_wp2_with fail
  go_loopg [5] t.length (fun gg q wr => ∃ k : Nat, q = .int .i64 (k : Int) ∧ k ≤ t.length ∧ t.length ≤ k + gg ∧ Hid ((∀ j y, j < k → (t.map (·.name))[j]? = some y → y ≠ n) ∧ Ex W0 wr))
  case atStart => exact ⟨0, rfl, Nat.zero_le _, by omega, Lib.hid ⟨fun j y h => absurd h (Nat.not_lt_zero _), Ex.refl _⟩⟩
  case round =>
    obtain ⟨k, rfl, hk, hkg, HH⟩ := hrel
    have a0 := (HB0.out _ HH.out.2).cell 0
    have al := (HB0.out _ HH.out.2).lt
    by_cases hkl : k < t.length
    · obtain ⟨n8, rfl⟩ : ∃ n8, gk = n8 + 1 := ⟨gk - 1, by omega⟩
      have m0 : (0 : Int) ≤ (k : Int) := by omega
      have m1 : (k : Int) < (t.length : Int) := by omega
      obtain ⟨x, hx⟩ : ∃ x, t[k]? = some x := ⟨_, List.getElem?_eq_getElem hkl⟩
      obtain ⟨b, o, rfl, hb, V, vc, E, ec, k0, k1, k2, -, -⟩ := HT.out _ (HX0.out.trans HH.out.2) k x hx
      have hnm : (t.map (·.name))[k]? = some x.name := by rw [List.getElem?_map, hx]; rfl
      have be := bytes_dec x.name n
      have HX := Lib.hid HH.out.2
      have HBf := Lib.hid HH.out.1
      clear HH hx
      by_cases he : x.name = n
      · have e := HAt.out k x.name hnm HBf.out he
        subst e
        rw [decide_eq_true he] at be
        clear he hnm
        generalize x.name = xn at *
        go_wp2_with fail
        go_ret
        exact Ret.mk rfl (HX0.out.trans HX.out)
      · rw [decide_eq_false he] at be
        have HN : Hid (∀ j y, j < k + 1 → (t.map (·.name))[j]? = some y → y ≠ n) := fun j y hj hy => by
          by_cases h : j < k
          · exact HBf.out j y h hy
          · obtain rfl : j = k := by omega
            rw [hnm] at hy
            cases hy
            exact he
        clear he hnm
        generalize x.name = xn at *
        go_wp2_with fail
        go_roundg n8
        case measure => omega
        case rel => exact ⟨k + 1, by go_num, by omega, by omega, Lib.hid ⟨HN.out, HX.out⟩⟩
    · obtain rfl : k = t.length := by omega
      have m1 : decide ((t.length : Int) < (t.length : Int)) = false := decide_eq_false (by omega)
      have e := HNo.out (fun j y hy => HH.out.1 j y (by have := (List.getElem?_eq_some_iff.1 hy).1; simpa using this) hy)
      subst e
      have HX := Lib.hid HH.out.2
      clear HH
      go_wp2_with fail
      go_ret
      exact Ret.mk rfl (HX0.out.trans HX.out)
end
section
open Go.RowKit Nu
theorem spl_next {l : List UInt8} {f k : Nat} (hfk : f ≤ k) (hk : l[k]? = some 32) (hn : ∀ j, f ≤ j → j < k → l[j]? ≠ some 32) : spl 32 (l.drop f) = ((l.drop f).take (k - f)) :: spl 32 (l.drop (k + 1)) := by
  have h1 : l.drop f = (l.drop f).take (k - f) ++ 32 :: l.drop (k + 1) := by
    have h2 : (l.drop f).drop (k - f) = 32 :: l.drop (k + 1) := by
      rw [List.drop_drop, show f + (k - f) = k by omega]
      obtain ⟨hi, he⟩ := List.getElem?_eq_some_iff.1 hk
      rw [List.drop_eq_getElem_cons hi, he]
    rw [← h2, List.take_append_drop]
  have h3 : (32 : UInt8) ∉ (l.drop f).take (k - f) := fun hm => by
    obtain ⟨j, hj⟩ := List.mem_iff_getElem?.1 hm
    rw [List.getElem?_take] at hj
    split at hj
    · rw [List.getElem?_drop] at hj
      exact hn (f + j) (by omega) (by omega) hj
    · cases hj
  conv => lhs; rw [h1]
  exact spl_app _ h3
theorem spl_last {l : List UInt8} {f : Nat} (hn : ∀ j, f ≤ j → l[j]? ≠ some 32) : spl 32 (l.drop f) = [l.drop f] :=
  spl_none fun hm => by
    obtain ⟨j, hj⟩ := List.mem_iff_getElem?.1 hm
    rw [List.getElem?_drop] at hj
    exact hn (f + j) (by omega) hj
theorem ext_data (s : ByteArray) (a b : Nat) : s.extract a b = bs ((s.data.toList.drop a).take (b - a)) := by
  apply ByteArray.ext
  apply Array.toList_inj.1
  rw [Lib.extract_data]
theorem infoStr : (Tryz.prog.info? 9).map (fun i => (i.zero, i.size, i.bytes)) = some (some (.string ⟨#[]⟩), 1, 16) := by kernel_rfl
theorem strV_snoc (ws : List (List UInt8)) (x : List UInt8) : strV ws ++ [.string (bs x)] = strV (ws ++ [x]) := by unfold strV; rw [List.map_append]; rfl
set_option maxRecDepth 20000 in
set_option maxHeartbeats 3200000 in
theorem words_c (s : ByteArray) (w : World) (hl : s.size ≤ 20000) :
    Calls Tryz.prog 93 #[.string s] w (fun e w' => ∃ D c, e = .returned (.slice D (spl 32 s.data.toList).length c) ∧ OwnO w' w.heap.size 9 1 (.slice D (spl 32 s.data.toList).length c) (spl 32 s.data.toList).length (strV (spl 32 s.data.toList)) ∧ Ex w w') := by
  obtain ⟨i0, hi0, hz0, hz1, hz2⟩ := info_parts infoStr
  have HSz := Lib.hid (size_data s)
  have HX0 := Lib.hid (Ex.refl w)
  go_enter Tryz.func93, Tryz.ntmps93
  go_wp2_with fail
  go_loopg [3, 4, 5] s.size (fun gg o f i wr => ∃ (k m : Nat) (done : List (List UInt8)) (D : Option Addr) (c : Nat), o = .slice D done.length c ∧ f = .int .i64 (m : Int) ∧ i = .int .i64 (k : Int) ∧ m ≤ k ∧ k ≤ s.size ∧ s.size ≤ k + gg ∧ done.length ≤ k ∧
    Hid (spl 32 s.data.toList = done ++ spl 32 (s.data.toList.drop m) ∧ (∀ j, m ≤ j → j < k → s.data.toList[j]? ≠ some 32) ∧ OwnO wr w.heap.size 9 1 (.slice D done.length c) done.length (strV done) ∧ Ex w wr))
  case atStart => exact ⟨0, 0, [], none, 0, rfl, rfl, rfl, Nat.le_refl _, Nat.zero_le _, by omega, by simp, Lib.hid ⟨by simp, fun j _ h => absurd h (Nat.not_lt_zero _), OwnO.nil _ _ _ _, HX0.out⟩⟩
  case round =>
    obtain ⟨k, m, done, D, c, rfl, rfl, rfl, hmk, hk, hkg, hdl, HH⟩ := hrel
    by_cases hkl : k < s.size
    · obtain ⟨n8, rfl⟩ : ∃ n8, gk = n8 + 1 := ⟨gk - 1, by omega⟩
      have m1 : (k : Int) < (s.size : Int) := by omega
      have hgi := get_idx (s := s) hkl
      by_cases h32 : s[k] = 32
      · have c1 : ((s[k].toNat : Int) == 32) = true := by rw [h32]; rfl
        rw [h32] at hgi
        obtain ⟨h1, h2, h3, h4⟩ := HH.out
        have hnx := spl_next hmk hgi h2
        have he := ext_data s m k
        have HSp : Hid (spl 32 s.data.toList = (done ++ [(s.data.toList.drop m).take (k - m)]) ++ spl 32 (s.data.toList.drop (k + 1))) := by
          rw [List.append_assoc, h1, hnx]
          exact Lib.hid rfl
        have HV : Hid (strV done ++ [.string (s.extract m k)] = strV (done ++ [(s.data.toList.drop m).take (k - m)])) := by rw [he]; exact strV_snoc _ _
        have HO := Lib.hid h3
        have HX := Lib.hid h4
        have HBs := Lib.hid ((h4.alloc (.cells #[.string (s.extract m k)] 9)).below.size)
        have hll : (done ++ [(s.data.toList.drop m).take (k - m)]).length = done.length + 1 := by simp
        generalize done ++ [(s.data.toList.drop m).take (k - m)] = done2 at *
        have HLl := Lib.hid hll
        clear hnx he h1 h2 h3 h4 hgi h32 HH hll
        go_wp2_with (at_builtin; refine wpList_append_one _ rfl _ _ 30 rfl w.heap.size 9 i0 _ 1 16 Tryz.underlying30 hi0 hz0 hz1 hz2 rfl (.slice D done.length c) done.length (strV done) rfl (OwnO.ex HO.out ((Ex.refl _).alloc _)) _ [.string (s.extract m k)] rfl rfl ?c1 ?c2 ?c3 ?c4 ?c5 ?_)
        try case c1 => exact news_new rfl (by simp)
        try case c2 => first | (intro u hu; simp only [List.mem_cons, List.not_mem_nil, or_false] at hu; subst hu; rfl) | (simp [Value.oneCell']; done)
        try case c3 => omega
        try case c4 => omega
        try case c5 => first | (have hh := HBs.out; omega) | (have hh := HBs.out; simp at hh ⊢; omega)
        intro D' c' w3 ho hg hat hEx
        have HX3 := Lib.hid (hEx w (HX.out.alloc _) (Nat.le_refl _))
        rw [HV.out, ← HLl.out] at ho
        have HO3 := Lib.hid ho
        have HDl : Hid (done2.length ≤ k + 1) := by have := HLl.out; exact Lib.hid (by omega)
        rw [← HLl.out]
        clear ho hg hat hEx HO
        go_wp2_with fail
        go_roundg n8
        case measure => omega
        case rel => exact ⟨k + 1, k + 1, done2, D', c', rfl, by go_num, by go_num, Nat.le_refl _, by omega, by omega, HDl.out, Lib.hid ⟨HSp.out, fun j h1 h2 => by omega, HO3.out, HX3.out⟩⟩
      · have c1 : ((s[k].toNat : Int) == 32) = false := beq_eq_false_iff_ne.2 fun h => h32 (by rw [← UInt8.toNat_inj]; show s[k].toNat = 32; omega)
        have HN : Hid (∀ j, m ≤ j → j < k + 1 → s.data.toList[j]? ≠ some 32) := fun j h1 h2 => by
          by_cases h : j < k
          · exact HH.out.2.1 j h1 h
          · obtain rfl : j = k := by omega
            rw [hgi]
            intro h
            exact h32 (Option.some.inj h)
        clear hgi h32
        go_wp2_with fail
        go_roundg n8
        case measure => omega
        case rel => exact ⟨k + 1, m, done, D, c, rfl, rfl, by go_num, by omega, by omega, by omega, by omega, Lib.hid ⟨HH.out.1, HN.out, HH.out.2.2.1, HH.out.2.2.2⟩⟩
    · obtain rfl : k = s.size := by omega
      have m1 : decide ((s.size : Int) < (s.size : Int)) = false := decide_eq_false (by omega)
      obtain ⟨h1, h2, h3, h4⟩ := HH.out
      have hla := spl_last (l := s.data.toList) (f := m) fun j hj => by
        by_cases h : j < s.size
        · exact h2 j hj h
        · rw [List.getElem?_eq_none (by have := HSz.out; omega)]
          simp
      have he : s.extract m s.size = bs (s.data.toList.drop m) := by
        rw [ext_data, List.take_of_length_le (by rw [List.length_drop, ← HSz.out]; exact Nat.le_refl _)]
      have HSp : Hid (spl 32 s.data.toList = done ++ [s.data.toList.drop m]) := by
        rw [h1, hla]
        exact Lib.hid rfl
      have HV : Hid (strV done ++ [.string (s.extract m s.size)] = strV (spl 32 s.data.toList)) := by rw [he, HSp.out]; exact strV_snoc _ _
      have hll : (spl 32 s.data.toList).length = done.length + 1 := by rw [HSp.out]; simp
      generalize hws : spl 32 s.data.toList = ws at *
      have HWs := Lib.hid hws
      clear hws
      have HO := Lib.hid h3
      have HX := Lib.hid h4
      have HLl := Lib.hid hll
      have HBs := Lib.hid ((h4.alloc (.cells #[.string (s.extract m s.size)] 9)).below.size)
      clear hla he h1 h2 h3 h4 HH hll HSp
      go_wp2_with (at_builtin; refine wpList_append_one _ rfl _ _ 30 rfl w.heap.size 9 i0 _ 1 16 Tryz.underlying30 hi0 hz0 hz1 hz2 rfl (.slice D done.length c) done.length (strV done) rfl (OwnO.ex HO.out ((Ex.refl _).alloc _)) _ [.string (s.extract m s.size)] rfl rfl ?d1 ?d2 ?d3 ?d4 ?d5 ?_)
      try case d1 => exact news_new rfl (by simp)
      try case d2 => first | (intro u hu; simp only [List.mem_cons, List.not_mem_nil, or_false] at hu; subst hu; rfl) | (simp [Value.oneCell']; done)
      try case d3 => omega
      try case d4 => omega
      try case d5 => first | (have hh := HBs.out; omega) | (have hh := HBs.out; simp at hh ⊢; omega)
      intro D' c' w3 ho hg hat hEx
      have HX3 := Lib.hid (hEx w (HX.out.alloc _) (Nat.le_refl _))
      rw [HV.out, ← HLl.out] at ho
      have HO3 := Lib.hid ho
      rw [← HLl.out]
      clear ho hg hat hEx HO
      go_wp2_with fail
      go_ret
      rw [HWs.out]
      exact ⟨D', c', rfl, HO3.out, HX3.out⟩
/-- the reference's reader at block g: the words that are left, the column, the error and its place -/
def RrC (w : World) (base g : Nat) (ws : List (List UInt8)) (col : Nat) (s : Rst) : Prop :=
  ∃ D dc, s.at_ ≤ ws.length ∧ Blk w g 156 [.slice D (ws.length - s.at_) dc, .int .i64 (colA ws col s.at_ : Int), .int .i64 s.e, .int .i64 (s.c : Int)] ∧
    OwnO w base 9 1 (.slice D (ws.length - s.at_) dc) (ws.length - s.at_) (strV (ws.drop s.at_))
theorem colA_zero (ws : List (List UInt8)) (col : Nat) : colA ws col 0 = col := by unfold colA wsL; simp
theorem colA_succ {ws : List (List UInt8)} {a : Nat} {W : List UInt8} (col : Nat) (h : ws[a]? = some W) : colA ws col (a + 1) = colA ws col a + W.length + 1 := by
  unfold colA
  rw [(wsL_take h).2]
  omega
theorem colA_le (ws : List (List UInt8)) (col a : Nat) : colA ws col a ≤ col + wsL ws := by
  have := wsL_le ws a
  unfold colA
  omega
section
variable {w w' : World} {base g : Nat} {ws : List (List UInt8)} {col : Nat} {s : Rst}
theorem RrC.ex (h : RrC w base g ws col s) (hx : Ex w w') : RrC w' base g ws col s := by
  obtain ⟨D, dc, h1, h2, h3⟩ := h
  exact ⟨D, dc, h1, h2.ex hx, h3.ex hx⟩
theorem RrC.lt (h : RrC w base g ws col s) : g < w.heap.size := by
  obtain ⟨D, dc, h1, h2, h3⟩ := h
  exact h2.lt
theorem RrC.cell1 (h : RrC w base g ws col s) : w.cell? ⟨g, 1, none⟩ = some (.int .i64 (colA ws col s.at_ : Int)) := by
  obtain ⟨D, dc, h1, h2, h3⟩ := h
  exact h2.cell 1
theorem RrC.cell2 (h : RrC w base g ws col s) : w.cell? ⟨g, 2, none⟩ = some (.int .i64 s.e) := by
  obtain ⟨D, dc, h1, h2, h3⟩ := h
  exact h2.cell 2
theorem RrC.cell3 (h : RrC w base g ws col s) : w.cell? ⟨g, 3, none⟩ = some (.int .i64 (s.c : Int)) := by
  obtain ⟨D, dc, h1, h2, h3⟩ := h
  exact h2.cell 3
theorem RrC.frozen (h : RrC w base g ws col s) (i : Nat) : w.frozen? ⟨g, i, none⟩ = false := by
  obtain ⟨D, dc, h1, h2, h3⟩ := h
  exact h2.frozen i
theorem RrC.le (h : RrC w base g ws col s) : s.at_ ≤ ws.length := by
  obtain ⟨D, dc, h1, h2, h3⟩ := h
  exact h1
/-- the words' slice -/
theorem RrC.cell0 (h : RrC w base g ws col s) : ∃ D dc, w.cell? ⟨g, 0, none⟩ = some (.slice D (ws.length - s.at_) dc) ∧ ws.length - s.at_ ≤ dc := by
  obtain ⟨D, dc, h1, h2, h3⟩ := h
  obtain ⟨a, c, he, hc, -⟩ := h3.len
  cases he
  exact ⟨D, dc, h2.cell 0, hc⟩
theorem RrC.own_ne {D : Option Addr} {n dc : Nat} {xs cs : List Value} (h : OwnO w base 9 1 (.slice D n dc) n xs) (hB : Blk w g 156 cs) : (Value.slice D n dc).ownBlock ≠ some g := fun e => OwnO.ne h hB (by decide) e.symm
/-- the error and its place are written -/
theorem RrC.err {a c : Nat} {e : Int} (h : RrC w base g ws col ⟨a, e, c⟩) (e' : Int) (c' : Nat) : RrC ((w.setCell ⟨g, 2, none⟩ (.int .i64 e')).setCell ⟨g, 3, none⟩ (.int .i64 (c' : Int))) base g ws col ⟨a, e', c'⟩ := by
  obtain ⟨D, dc, h1, h2, h3⟩ := h
  have hne := RrC.own_ne h3 h2
  exact ⟨D, dc, h1, (h2.set_ 2 _).set_ 3 _, (h3.set_ (p := ⟨g, 2, none⟩) hne _).set_ (p := ⟨g, 3, none⟩) hne _⟩
/-- another block is written -/
theorem RrC.chg {T : TypeId} {row : Option Nat} (h : RrC w base g ws col s) (hc : Chg T w w' row) (h1 : 156 ≠ T) (h2 : 9 ≠ T) : RrC w' base g ws col s := by
  obtain ⟨D, dc, k1, k2, k3⟩ := h
  exact ⟨D, dc, k1, k2.chg hc h1, k3.chg hc h2⟩
end
/-- a method that hands back v and leaves the reader at s -/
def Rrr (w : World) (base g : Nat) (ws : List (List UInt8)) (col : Nat) (v : Value) (s : Rst) (e : Ending) (w' : World) : Prop := e = .returned v ∧ RrC w' base g ws col s ∧ Exg g w w'
section
variable (base g : Nat) (ws : List (List UInt8)) (col : Nat)
theorem rnext_c (s : Rst) (w : World) (h : RrC w base g ws col s) : Calls Tryz.prog 94 #[.pointer (some ⟨g, 0, none⟩)] w (Ret w (.string (bs (nextR ws s)))) := by
  obtain ⟨a, e, c⟩ := s
  obtain ⟨D, dc, hal, hB, hO⟩ := h
  dsimp only at *
  have c0 : w.cell? ⟨g, 0, none⟩ = some (.slice D (ws.length - a) dc) := hB.cell 0
  have lg := hB.lt
  unfold nextR
  by_cases ha : a < ws.length
  · obtain ⟨W, hW⟩ : ∃ W, ws[a]? = some W := ⟨_, List.getElem?_eq_getElem ha⟩
    obtain ⟨n, hn⟩ : ∃ n, ws.length - a = n + 1 := ⟨ws.length - a - 1, by omega⟩
    rw [hn] at c0 hO
    obtain ⟨b, o, cap, hv, hcap, -, -, hbl, hcell⟩ := hO.open_ (by omega)
    cases hv
    have d0 : w.cell? ⟨b, o, none⟩ = some (.string (bs W)) := hcell 0 _ (strV_get (by rw [List.getElem?_drop]; exact hW))
    have b1 : ((n : Int) + 1 == 0) = false := beq_eq_false_iff_ne.2 (by omega)
    have m1 : (0 : Int) < (n : Int) + 1 := by omega
    dsimp only
    rw [hW]
    clear hB hO hW hal hcell hn ha hcap
    go_enter Tryz.func94, Tryz.ntmps94
    go_wp2_with fail
    go_ret
    exact Ret.mk rfl (Ex.refl _)
  · rw [show ws.length - a = 0 by omega] at c0
    dsimp only
    rw [List.getElem?_eq_none (by omega)]
    clear hB hO hal ha
    go_enter Tryz.func94, Tryz.ntmps94
    go_wp2_with fail
    go_ret
    exact Ret.mk rfl (Ex.refl _)
theorem rfail_c (E : Int) (s : Rst) (w : World) (h : RrC w base g ws col s) : Calls Tryz.prog 95 #[.pointer (some ⟨g, 0, none⟩), .int .i64 E] w (Rrr w base g ws col (.tuple #[]) (failR ws col E s)) := by
  have HR := Lib.hid h
  have lg := h.lt
  have c1 := h.cell1
  have c2 := h.cell2
  have c3 := h.cell3
  have f2 := h.frozen 2
  have f3 := h.frozen 3
  obtain ⟨a, e, c⟩ := s
  dsimp only at *
  unfold failR
  dsimp only
  by_cases he : e = 0
  · subst he
    rw [if_pos rfl]
    have HN := Lib.hid (h.err E (colA ws col a))
    clear h
    generalize colA ws col a = C at *
    unfold Rrr
    go_enter Tryz.func95, Tryz.ntmps95
    go_wp2_with fail
    go_end0
    exact ⟨rfl, HN.out, ((Exg.refl g w).seto _ _).seto _ _⟩
  · rw [if_neg he]
    have be : (e == 0) = false := beq_eq_false_iff_ne.2 he
    clear h he
    unfold Rrr
    go_enter Tryz.func95, Tryz.ntmps95
    go_wp2_with fail
    go_end0
    exact ⟨rfl, HR.out, Exg.refl g w⟩
theorem rmissing_c (en : Nat) (s : Rst) (w : World) (h : RrC w base g ws col s) : Calls Tryz.prog 97 #[.pointer (some ⟨g, 0, none⟩), .int .i64 (en : Int)] w (Rrr w base g ws col (.tuple #[]) (missR ws en s)) := by
  have HR := Lib.hid h
  have lg := h.lt
  have c2 := h.cell2
  have c3 := h.cell3
  have f2 := h.frozen 2
  have f3 := h.frozen 3
  obtain ⟨D, dc, c0, -⟩ := h.cell0
  obtain ⟨a, e, c⟩ := s
  dsimp only at *
  unfold missR
  dsimp only
  by_cases ha : ws.length ≤ a
  · rw [show ws.length - a = 0 by omega] at c0
    by_cases he : e = 0
    · subst he
      rw [if_pos ⟨ha, rfl⟩]
      have HN := Lib.hid (h.err 3 en)
      clear h ha
      unfold Rrr
      go_enter Tryz.func97, Tryz.ntmps97
      go_wp2_with fail
      go_end0
      exact ⟨rfl, HN.out, ((Exg.refl g w).seto _ _).seto _ _⟩
    · rw [if_neg (fun h => he h.2)]
      have be : (e == 0) = false := beq_eq_false_iff_ne.2 he
      clear h ha he
      unfold Rrr
      go_enter Tryz.func97, Tryz.ntmps97
      go_wp2_with fail
      go_end0
      exact ⟨rfl, HR.out, Exg.refl g w⟩
  · obtain ⟨n, hn⟩ : ∃ n, ws.length - a = n + 1 := ⟨ws.length - a - 1, by omega⟩
    rw [hn] at c0
    rw [if_neg (fun h => ha h.1)]
    have b1 : ((n : Int) + 1 == 0) = false := beq_eq_false_iff_ne.2 (by omega)
    clear h ha hn
    unfold Rrr
    go_enter Tryz.func97, Tryz.ntmps97
    go_wp2_with fail
    go_end0
    exact ⟨rfl, HR.out, Exg.refl g w⟩
set_option maxRecDepth 20000 in
set_option maxHeartbeats 3200000 in
theorem rskip_c (s : Rst) (w : World) (h : RrC w base g ws col s) (hcw : col + wsL ws ≤ 200000) : Calls Tryz.prog 96 #[.pointer (some ⟨g, 0, none⟩)] w (Rrr w base g ws col (.tuple #[]) (skipR ws s)) := by
  have HR := Lib.hid h
  have c1 := h.cell1
  have f0 := h.frozen 0
  have f1 := h.frozen 1
  obtain ⟨a, e, c⟩ := s
  obtain ⟨D, dc, hal, hB, hO⟩ := h
  dsimp only at *
  have c0 : w.cell? ⟨g, 0, none⟩ = some (.slice D (ws.length - a) dc) := hB.cell 0
  have lg := hB.lt
  unfold skipR
  dsimp only
  by_cases ha : a < ws.length
  · rw [if_pos ha]
    obtain ⟨W, hW⟩ : ∃ W, ws[a]? = some W := ⟨_, List.getElem?_eq_getElem ha⟩
    obtain ⟨n, hn⟩ : ∃ n, ws.length - a = n + 1 := ⟨ws.length - a - 1, by omega⟩
    have hn2 : ws.length - (a + 1) = n := by omega
    rw [hn] at c0 hO
    have hne := RrC.own_ne hO hB
    obtain ⟨b, o, cap, hv, hcap, -, -, hbl, hcell⟩ := hO.open_ (by omega)
    cases hv
    have d0 : w.cell? ⟨b, o, none⟩ = some (.string (bs W)) := hcell 0 _ (strV_get (by rw [List.getElem?_drop]; exact hW))
    have hdr : (strV (ws.drop a)).drop 1 = strV (ws.drop (a + 1)) := by
      unfold strV
      rw [← List.map_drop, List.drop_drop]
    have HTl1 : Hid (dc = 1 → OwnO w base 9 1 (.slice (some ⟨b, o, none⟩) n 0) n (strV (ws.drop (a + 1)))) := fun h1 => by
      subst h1
      have hr0 : n = 0 := by omega
      subst hr0
      have h2 := hO.tail1
      have h3 : strV (ws.drop (a + 1)) = [] := by rw [List.drop_of_length_le (by omega)]; rfl
      rw [h3]
      exact h2
    have HTl2 : Hid (OwnO w base 9 1 (.slice (some ⟨b, o + 1, none⟩) n (dc - 1)) n (strV (ws.drop (a + 1)))) := by
      have h2 := hO.tail
      rw [hdr] at h2
      exact h2
    have hcs := colA_succ col hW
    have hcl := colA_le ws col (a + 1)
    have HD : Hid (∀ v, OwnO w base 9 1 v n (strV (ws.drop (a + 1))) → v.ownBlock ≠ some g → ∀ A m, v = .slice A n m → RrC ((w.setCell ⟨g, 1, none⟩ (.int .i64 ((colA ws col (a + 1) : Nat) : Int))).setCell ⟨g, 0, none⟩ v) base g ws col ⟨a + 1, e, c⟩) := fun v h1 h2 A m hv => by
      subst hv
      refine ⟨A, m, ha, ?_, ?_⟩
      · rw [hn2]
        exact (hB.set_ 1 _).set_ 0 _
      · rw [hn2]
        exact (h1.set_ (p := ⟨g, 1, none⟩) h2 _).set_ (p := ⟨g, 0, none⟩) h2 _
    have hbg : b ≠ g := fun e => hne (by rw [← e]; rfl)
    have hgb : g ≠ b := fun e => hbg e.symm
    have hsW : (bs W).size = W.length := rfl
    generalize colA ws col (a + 1) = K2 at *
    generalize colA ws col a = K at *
    have q1 : IntKind.i64.wrap ((K : Int) + (W.length : Int)) = (K : Int) + (W.length : Int) := IntWalk.i64_in _ (by omega)
    have q2 : IntKind.i64.wrap ((K : Int) + (W.length : Int) + 1) = (K2 : Int) := by rw [IntWalk.i64_in _ (by omega)]; omega
    have m1 : (0 : Int) < (n : Int) + 1 := by omega
    have t1 : decide ((0 : Int) < (n : Int) + 1) = true := decide_eq_true m1
    have m9 : (1 : Int) ≤ (n : Int) + 1 := by omega
    have m10 : 1 ≤ dc := by omega
    have hne2 : ∀ (A : Addr) m k, A.block = b → (Value.slice (some A) m k).ownBlock ≠ some g := fun A m k h1 h2 => by
      simp only [Value.ownBlock, Option.some.injEq] at h2
      exact hbg (h1.symm.trans h2)
    have HNe := Lib.hid hne2
    generalize bs W = TW at *
    clear hB hO hW hal hcell hn hn2 ha hdr hne hcs hcl hne2
    unfold Rrr
    by_cases hd : dc = 1
    · have HT := Lib.hid (HD.out _ (HTl1.out hd) (HNe.out _ _ _ rfl) _ _ rfl)
      clear HD HTl1 HTl2 HNe
      go_enter Tryz.func96, Tryz.ntmps96
      go_upto_region 1 with fail
      go_region
      go_wp2_with fail
      go_end0
      exact ⟨rfl, HT.out.ex (Ex.refl _).drew, (((Exg.refl g w).seto _ _).seto _ _).drew⟩
    · have HT := Lib.hid (HD.out _ HTl2.out (HNe.out _ _ _ rfl) _ _ rfl)
      clear HD HTl1 HTl2 HNe
      go_enter Tryz.func96, Tryz.ntmps96
      go_upto_region 1 with fail
      go_region
      go_wp2_with fail
      go_end0
      exact ⟨rfl, HT.out.ex (Ex.refl _).drew, (((Exg.refl g w).seto _ _).seto _ _).drew⟩
  · rw [if_neg ha]
    rw [show ws.length - a = 0 by omega] at c0
    clear hB hO hal ha
    unfold Rrr
    go_enter Tryz.func96, Tryz.ntmps96
    go_wp2_with fail
    go_end0
    exact ⟨rfl, HR.out, Exg.refl g w⟩
end
end
section
open Go.RowKit Nu
theorem nextR_len (ws : List (List UInt8)) (hws : ∀ w ∈ ws, w.length ≤ 20000) (s : Rst) : (nextR ws s).length ≤ 20000 := by
  unfold nextR
  cases hw : ws[s.at_]? with
  | none => simp
  | some w => exact hws w (List.mem_of_getElem? hw)
section
variable (base g : Nat) (ws : List (List UInt8)) (col : Nat)
set_option maxRecDepth 20000 in
set_option maxHeartbeats 3200000 in
theorem rname_r (hws : ∀ w ∈ ws, w.length ≤ 20000) (hcw : col + wsL ws ≤ 200000) (s : Rst) (w : World) (h : RrC w base g ws col s) :
    Calls Tryz.prog 98 #[.pointer (some ⟨g, 0, none⟩)] w (Rrr w base g ws col (.string (bs (nameR ws col s).1)) (nameR ws col s).2) := by
  have HR := Lib.hid h
  have HN := Lib.hid (rnext_c base g ws col s w h)
  have hlen := nextR_len ws hws s
  have HF := Lib.hid (fun w' (h : RrC w' base g ws col s) => rfail_c base g ws col 3 s w' h)
  have HS := Lib.hid (fun s w' (h : RrC w' base g ws col s) => rskip_c base g ws col s w' h hcw)
  unfold nameR
  dsimp only
  generalize nextR ws s = l at *
  have HNm := Lib.hid (fun w' => rName_c (bs l) w' (by show l.length ≤ _; unfold maxLen; omega))
  generalize bs l = SL at *
  unfold Rrr at *
  clear h hlen hws hcw
  cases hb : nameB SL with
  | true =>
    rw [hb] at HNm
    rw [if_pos rfl]
    have HSs := Lib.hid (HS.out s)
    generalize skipR ws s = s2 at *
    clear HF hb HS
    go_enter Tryz.func98, Tryz.ntmps98
    go_wp2_with fail
    refine (HN.out).mono ?_
    rintro e9 w1 ⟨rfl, hx⟩
    have HX1 := Lib.hid hx
    clear hx
    go_wp2_with fail
    refine (HNm.out _).mono ?_
    rintro e9 w2 ⟨rfl, hx⟩
    have HX2 := Lib.hid (HX1.out.trans hx)
    clear hx
    go_wp2_with fail
    refine (HSs.out _ (HR.out.ex HX2.out)).mono ?_
    rintro e9 w3 ⟨rfl, h1, h2⟩
    have HR3 := Lib.hid h1
    have HG3 := Lib.hid ((Exg.of HX2.out).trans h2)
    clear h1 h2
    go_wp2_with fail
    go_ret
    exact ⟨rfl, HR3.out, HG3.out⟩
  | false =>
    rw [hb] at HNm
    rw [if_neg (by decide)]
    have HSs := Lib.hid (HS.out (failR ws col 3 s))
    generalize failR ws col 3 s = s1 at *
    generalize skipR ws s1 = s2 at *
    clear hb HS
    go_enter Tryz.func98, Tryz.ntmps98
    go_wp2_with fail
    refine (HN.out).mono ?_
    rintro e9 w1 ⟨rfl, hx⟩
    have HX1 := Lib.hid hx
    clear hx
    go_wp2_with fail
    refine (HNm.out _).mono ?_
    rintro e9 w2 ⟨rfl, hx⟩
    have HX2 := Lib.hid (HX1.out.trans hx)
    clear hx
    go_wp2_with fail
    refine (HF.out _ (HR.out.ex HX2.out)).mono ?_
    rintro e9 w3 ⟨rfl, h1, h2⟩
    have HR3 := Lib.hid h1
    have HG3 := Lib.hid ((Exg.of HX2.out).trans h2)
    clear h1 h2
    go_wp2_with fail
    refine (HSs.out _ HR3.out).mono ?_
    rintro e9 w4 ⟨rfl, h1, h2⟩
    have HR4 := Lib.hid h1
    have HG4 := Lib.hid (HG3.out.trans h2)
    clear h1 h2
    go_wp2_with fail
    go_ret
    exact ⟨rfl, HR4.out, HG4.out⟩
set_option maxRecDepth 20000 in
set_option maxHeartbeats 3200000 in
theorem rinteger_c (hws : ∀ w ∈ ws, w.length ≤ 20000) (hcw : col + wsL ws ≤ 200000) (b : List UInt8) (hbl : b.length ≤ 20001) (s : Rst) (w : World) (h : RrC w base g ws col s) :
    Calls Tryz.prog 99 #[.pointer (some ⟨g, 0, none⟩), .string (bs b)] w (Rrr w base g ws col (.int .i64 (intR ws col b s).1) (intR ws col b s).2) := by
  have HR := Lib.hid h
  have HN := Lib.hid (rnext_c base g ws col s w h)
  have hlen := nextR_len ws hws s
  have HF := Lib.hid (fun E w' (h : RrC w' base g ws col s) => rfail_c base g ws col E s w' h)
  have HS := Lib.hid (fun s w' (h : RrC w' base g ws col s) => rskip_c base g ws col s w' h hcw)
  unfold intR
  generalize nextR ws s = l at *
  have hz1 : (bs l).size = l.length := rfl
  have hz2 : (bs b).size = b.length := rfl
  by_cases hlt : l.length < b.length
  · have hp : b.isPrefixOf l = false := by
      rw [Bool.eq_false_iff]
      intro hp
      have := (List.isPrefixOf_iff_prefix.1 hp).length_le
      omega
    have d1 : decide ((l.length : Int) < (b.length : Int)) = true := decide_eq_true (by omega)
    rw [hp, if_neg (by decide)]
    have HSs := Lib.hid (HS.out (failR ws col 3 s))
    have HFs := Lib.hid (HF.out 3)
    generalize failR ws col 3 s = s1 at *
    generalize skipR ws s1 = s2 at *
    unfold Rrr at *
    clear hp h hlen hws hcw HS HF hbl
    generalize bs l = SL at *
    generalize bs b = SB at *
    go_enter Tryz.func99, Tryz.ntmps99
    go_wp2_with fail
    refine (HN.out).mono ?_
    rintro e9 w1 ⟨rfl, hx⟩
    have HX1 := Lib.hid hx
    clear hx
    go_wp2_with fail
    refine (HFs.out _ (HR.out.ex HX1.out)).mono ?_
    rintro e9 w3 ⟨rfl, h1, h2⟩
    have HR3 := Lib.hid h1
    have HG3 := Lib.hid ((Exg.of HX1.out).trans h2)
    clear h1 h2
    go_wp2_with fail
    refine (HSs.out _ HR3.out).mono ?_
    rintro e9 w4 ⟨rfl, h1, h2⟩
    have HR4 := Lib.hid h1
    have HG4 := Lib.hid (HG3.out.trans h2)
    clear h1 h2
    go_wp2_with fail
    go_ret
    exact ⟨rfl, HR4.out, HG4.out⟩
  have d1 : decide ((l.length : Int) < (b.length : Int)) = false := decide_eq_false (by omega)
  have hle : b.length ≤ l.length := by omega
  have hP : (bs l).extract 0 b.length = bs (l.take b.length) := by rw [ext_data]; rfl
  have hpe : ((bs (l.take b.length)).toList == (bs b).toList) = b.isPrefixOf l := by
    rw [bytes_dec, Bool.eq_iff_iff, decide_eq_true_eq, List.isPrefixOf_iff_prefix]
    constructor
    · intro h
      have h2 : l.take b.length = b := congrArg (fun x : ByteArray => x.data.toList) h
      have h3 := List.take_append_drop b.length l
      rw [h2] at h3
      exact ⟨_, h3⟩
    · rintro ⟨r, rfl⟩
      simp
  have hnl : ¬ l.length < b.length := hlt
  cases hp : b.isPrefixOf l with
  | false =>
    rw [hp] at hpe
    generalize bs (l.take b.length) = SP at *
    have hne2 : (!SP.toList == (bs b).toList) = true := by rw [hpe]; rfl
    rw [if_neg (by decide)]
    have HSs := Lib.hid (HS.out (failR ws col 3 s))
    have HFs := Lib.hid (HF.out 3)
    generalize failR ws col 3 s = s1 at *
    generalize skipR ws s1 = s2 at *
    unfold Rrr at *
    clear hp h hlen hws hcw HS HF hbl hlt
    generalize bs l = SL at *
    generalize bs b = SB at *
    go_enter Tryz.func99, Tryz.ntmps99
    go_wp2_with fail
    refine (HN.out).mono ?_
    rintro e9 w1 ⟨rfl, hx⟩
    have HX1 := Lib.hid hx
    clear hx
    go_wp2_with fail
    refine (HFs.out _ (HR.out.ex HX1.out)).mono ?_
    rintro e9 w3 ⟨rfl, h1, h2⟩
    have HR3 := Lib.hid h1
    have HG3 := Lib.hid ((Exg.of HX1.out).trans h2)
    clear h1 h2
    go_wp2_with fail
    refine (HSs.out _ HR3.out).mono ?_
    rintro e9 w4 ⟨rfl, h1, h2⟩
    have HR4 := Lib.hid h1
    have HG4 := Lib.hid (HG3.out.trans h2)
    clear h1 h2
    go_wp2_with fail
    go_ret
    exact ⟨rfl, HR4.out, HG4.out⟩
  | true =>
    rw [hp] at hpe
    generalize bs (l.take b.length) = SP at *
    have hne2 : (!SP.toList == (bs b).toList) = false := by rw [hpe]; rfl
    rw [if_pos rfl]
    have hQ : (bs l).extract b.length l.length = bs (l.drop b.length) := by
      rw [ext_data]
      show bs ((l.drop b.length).take (l.length - b.length)) = _
      rw [List.take_of_length_le (by rw [List.length_drop]; exact Nat.le_refl _)]
    have HNu := Lib.hid (fun w' => rnumber_c (bs (l.drop b.length)) w' (by show (l.drop b.length).length ≤ _; rw [List.length_drop]; omega))
    have hbb : (bs (l.drop b.length)).data.toList = l.drop b.length := rfl
    rw [hbb] at HNu
    unfold Two at HNu
    generalize bs (l.drop b.length) = SQ at *
    generalize parV (l.drop b.length) = pv at *
    generalize parE (l.drop b.length) = pe at *
    by_cases he : pe = 0
    · rw [if_pos he]
      subst he
      have HSs := Lib.hid (HS.out s)
      generalize skipR ws s = s2 at *
      unfold Rrr at *
      clear hp h hlen hws hcw HS HF hbl hlt hbb
      generalize bs l = SL at *
      generalize bs b = SB at *
      go_enter Tryz.func99, Tryz.ntmps99
      go_wp2_with fail
      refine (HN.out).mono ?_
      rintro e9 w1 ⟨rfl, hx⟩
      have HX1 := Lib.hid hx
      clear hx
      go_wp2_with fail
      refine (HNu.out _).mono ?_
      rintro e9 w2 ⟨rfl, hx⟩
      have HX2 := Lib.hid (HX1.out.trans hx)
      clear hx
      go_wp2_with fail
      refine (HSs.out _ (HR.out.ex HX2.out)).mono ?_
      rintro e9 w4 ⟨rfl, h1, h2⟩
      have HR4 := Lib.hid h1
      have HG4 := Lib.hid ((Exg.of HX2.out).trans h2)
      clear h1 h2
      go_wp2_with fail
      go_ret
      exact ⟨rfl, HR4.out, HG4.out⟩
    · rw [if_neg he]
      have be : (pe != 0) = true := bne_iff_ne.2 he
      have HSs := Lib.hid (HS.out (failR ws col pe s))
      have HFs := Lib.hid (HF.out pe)
      generalize failR ws col pe s = s1 at *
      generalize skipR ws s1 = s2 at *
      unfold Rrr at *
      clear hp h hlen hws hcw HS HF hbl hlt hbb he
      generalize bs l = SL at *
      generalize bs b = SB at *
      go_enter Tryz.func99, Tryz.ntmps99
      go_wp2_with fail
      refine (HN.out).mono ?_
      rintro e9 w1 ⟨rfl, hx⟩
      have HX1 := Lib.hid hx
      clear hx
      go_wp2_with fail
      refine (HNu.out _).mono ?_
      rintro e9 w2 ⟨rfl, hx⟩
      have HX2 := Lib.hid (HX1.out.trans hx)
      clear hx
      go_wp2_with fail
      refine (HFs.out _ (HR.out.ex HX2.out)).mono ?_
      rintro e9 w3 ⟨rfl, h1, h2⟩
      have HR3 := Lib.hid h1
      have HG3 := Lib.hid ((Exg.of HX2.out).trans h2)
      clear h1 h2
      go_wp2_with fail
      refine (HSs.out _ HR3.out).mono ?_
      rintro e9 w4 ⟨rfl, h1, h2⟩
      have HR4 := Lib.hid h1
      have HG4 := Lib.hid (HG3.out.trans h2)
      clear h1 h2
      go_wp2_with fail
      go_ret
      exact ⟨rfl, HR4.out, HG4.out⟩
end
end
section
open Go.RowKit Nu
section
variable (base g : Nat) (ws : List (List UInt8)) (col : Nat)
set_option maxRecDepth 20000 in
set_option maxHeartbeats 3200000 in
theorem rpair_c (hws : ∀ w ∈ ws, w.length ≤ 20000) (hcw : col + wsL ws ≤ 200000) (s : Rst) (w : World) (h : RrC w base g ws col s) :
    Calls Tryz.prog 100 #[.pointer (some ⟨g, 0, none⟩)] w (Rrr w base g ws col (.tuple #[.string (bs (pairR ws col s).1), .int .i64 (pairR ws col s).2.1]) (pairR ws col s).2.2) := by
  have HR := Lib.hid h
  have HN := Lib.hid (rnext_c base g ws col s w h)
  have hlen := nextR_len ws hws s
  have HF := Lib.hid (fun w' (h : RrC w' base g ws col s) => rfail_c base g ws col 3 s w' h)
  have HS := Lib.hid (fun w' (h : RrC w' base g ws col (failR ws col 3 s)) => rskip_c base g ws col (failR ws col 3 s) w' h hcw)
  have HI := Lib.hid (fun b (hb : b.length ≤ 20001) w' (h : RrC w' base g ws col s) => rinteger_c base g ws col hws hcw b hb s w' h)
  unfold pairR
  generalize nextR ws s = l at *
  obtain ⟨SL, hSL⟩ : ∃ SL, SL = bs l := ⟨_, rfl⟩
  have hSd : SL.data.toList = l := by rw [hSL]
  have hsz : SL.size = l.length := by rw [hSL]; rfl
  rw [← hSL] at HN
  have HX0 := Lib.hid (Ex.refl w)
  cases hc : cutC 61 l with
  | none =>
    have HNe : Hid (∀ k, (h : k < SL.size) → ((SL[k].toNat : Int) == 61) = false) := fun k h => by
      have h2 := get_idx h
      rw [hSd] at h2
      apply beq_eq_false_iff_ne.2
      intro h3
      apply cutC_none.1 hc
      have h4 : SL[k] = 61 := by rw [← UInt8.toNat_inj]; show SL[k].toNat = 61; omega
      rw [h4] at h2
      exact List.mem_of_getElem? h2
    dsimp only
    generalize failR ws col 3 s = s1 at *
    generalize skipR ws s1 = s2 at *
    unfold Rrr at *
    have hsz2 : SL.size ≤ 20000 := by omega
    clear h hws hcw hlen hSL hSd hsz hc HI
    go_enter Tryz.func100, Tryz.ntmps100
    go_wp2_with fail
    refine (HN.out).mono ?_
    rintro e9 w1 ⟨rfl, hx⟩
    have HX1 := Lib.hid hx
    clear hx
    go_wp2_with fail
    go_loopg [5] SL.size (fun gg q wr => ∃ k : Nat, q = .int .i64 (k : Int) ∧ k ≤ SL.size ∧ SL.size ≤ k + gg ∧ Hid (Ex w wr))
    case atStart => exact ⟨0, rfl, Nat.zero_le _, by omega, HX1⟩
    case round =>
      obtain ⟨k, rfl, hk, hkg, HH⟩ := hrel
      by_cases hkl : k < SL.size
      · obtain ⟨n8, rfl⟩ : ∃ n8, gk = n8 + 1 := ⟨gk - 1, by omega⟩
        have m1 : (k : Int) < (SL.size : Int) := by omega
        have c1 := HNe.out k hkl
        go_wp2_with fail
        go_roundg n8
        case measure => omega
        case rel => exact ⟨k + 1, by go_num, by omega, by omega, HH⟩
      · obtain rfl : k = SL.size := by omega
        have m1 : decide ((SL.size : Int) < (SL.size : Int)) = false := decide_eq_false (by omega)
        go_wp2_with fail
        refine (HF.out _ (HR.out.ex HH.out)).mono ?_
        rintro e9 w3 ⟨rfl, h1, h2⟩
        have HR3 := Lib.hid h1
        have HG3 := Lib.hid ((Exg.of HH.out).trans h2)
        clear h1 h2
        go_wp2_with fail
        refine (HS.out _ HR3.out).mono ?_
        rintro e9 w4 ⟨rfl, h1, h2⟩
        have HR4 := Lib.hid h1
        have HG4 := Lib.hid (HG3.out.trans h2)
        clear h1 h2
        go_wp2_with fail
        go_ret2
        exact ⟨rfl, HR4.out, HG4.out⟩
  | some x =>
    obtain ⟨n, v⟩ := x
    obtain ⟨hl, hna⟩ := cutC_some hc
    have hln : l.length = n.length + 1 + v.length := by rw [hl]; simp; omega
    have HNe : Hid (∀ k, (h : k < SL.size) → k < n.length → ((SL[k].toNat : Int) == 61) = false) := fun k h hk => by
      have h2 := get_idx h
      rw [hSd, hl, List.getElem?_append_left hk] at h2
      apply beq_eq_false_iff_ne.2
      intro h3
      apply hna
      have h4 : SL[k] = 61 := by rw [← UInt8.toNat_inj]; show SL[k].toNat = 61; omega
      rw [h4] at h2
      exact List.mem_of_getElem? h2
    have HEq : Hid (∀ k, (h : k < SL.size) → k = n.length → ((SL[k].toNat : Int) == 61) = true) := fun k h hk => by
      subst hk
      have h2 := get_idx h
      rw [hSd, hl, List.getElem?_append_right (Nat.le_refl _), Nat.sub_self] at h2
      have h4 : SL[n.length] = 61 := (Option.some.inj h2).symm
      rw [h4]; rfl
    have hEa : SL.extract 0 n.length = bs n := by
      rw [ext_data, hSd, hl]
      simp
    have HNm := Lib.hid (fun w' => rName_c (bs n) w' (by show n.length ≤ _; unfold maxLen; omega))
    have HIn := Lib.hid (HI.out (n ++ [61]) (by simp; omega))
    have hsum : bs n ++ (⟨#[61]⟩ : ByteArray) = bs (n ++ [61]) := by
      apply ByteArray.ext
      apply Array.toList_inj.1
      simp
    have hnz : (bs n).size = n.length := rfl
    have hz1 : ¬ 9223372036854775807 < n.length + 1 := by omega
    obtain ⟨K, hK⟩ : ∃ K, K = n.length := ⟨_, rfl⟩
    rw [← hK] at HNe HEq hEa hln hnz hz1
    dsimp only
    generalize intR ws col (n ++ [61]) s = I at *
    obtain ⟨iv, s3⟩ := I
    generalize failR ws col 3 s = s1 at *
    generalize skipR ws s1 = s2 at *
    unfold Rrr at *
    have hsz2 : SL.size ≤ 20000 := by omega
    have HKl : Hid (K < SL.size) := by exact Lib.hid (by omega)
    cases hb : nameB (bs n) with
    | true =>
      rw [hb] at HNm
      rw [if_pos rfl]
      dsimp only
      dsimp only at HIn
      generalize bs (n ++ [61]) = SB at *
      generalize bs n = SN at *
      clear h hws hcw hlen hSL hSd hsz hc HI hl hna hln hK HF HS hb
      go_enter Tryz.func100, Tryz.ntmps100
      go_wp2_with fail
      refine (HN.out).mono ?_
      rintro e9 w1 ⟨rfl, hx⟩
      have HX1 := Lib.hid hx
      clear hx
      go_wp2_with fail
      go_loopg [5] K (fun gg q wr => ∃ k : Nat, q = .int .i64 (k : Int) ∧ k ≤ K ∧ K ≤ k + gg ∧ Hid (Ex w wr))
      case atStart => exact ⟨0, rfl, Nat.zero_le _, by omega, HX1⟩
      case round =>
        obtain ⟨k, rfl, hk, hkg, HH⟩ := hrel
        have hks : k < SL.size := by have := HKl.out; omega
        have m1 : (k : Int) < (SL.size : Int) := by omega
        by_cases hkl : k < K
        · obtain ⟨n8, rfl⟩ : ∃ n8, gk = n8 + 1 := ⟨gk - 1, by omega⟩
          have c1 := HNe.out k hks hkl
          go_wp2_with fail
          go_roundg n8
          case measure => omega
          case rel => exact ⟨k + 1, by go_num, by omega, by omega, HH⟩
        · obtain rfl : k = K := by omega
          have c1 := HEq.out k hks rfl
          have hkz : k ≤ SL.size := by omega
          clear HNe HEq
          go_wp2_with fail
          refine (HNm.out _).mono ?_
          rintro e9 w3 ⟨rfl, hx⟩
          have HX3 := Lib.hid (HH.out.trans hx)
          clear hx
          go_wp2_with fail
          refine (HIn.out _ (HR.out.ex HX3.out)).mono ?_
          rintro e9 w4 ⟨rfl, h1, h2⟩
          have HR4 := Lib.hid h1
          have HG4 := Lib.hid ((Exg.of HX3.out).trans h2)
          clear h1 h2
          go_wp2_with fail
          go_ret2
          exact ⟨rfl, HR4.out, HG4.out⟩
    | false =>
      rw [hb] at HNm
      rw [if_neg (by decide)]
      dsimp only
      clear hsum
      generalize bs n = SN at *
      clear h hws hcw hlen hSL hSd hsz hc HI hl hna hln hK HIn hb
      go_enter Tryz.func100, Tryz.ntmps100
      go_wp2_with fail
      refine (HN.out).mono ?_
      rintro e9 w1 ⟨rfl, hx⟩
      have HX1 := Lib.hid hx
      clear hx
      go_wp2_with fail
      go_loopg [5] K (fun gg q wr => ∃ k : Nat, q = .int .i64 (k : Int) ∧ k ≤ K ∧ K ≤ k + gg ∧ Hid (Ex w wr))
      case atStart => exact ⟨0, rfl, Nat.zero_le _, by omega, HX1⟩
      case round =>
        obtain ⟨k, rfl, hk, hkg, HH⟩ := hrel
        have hks : k < SL.size := by have := HKl.out; omega
        have m1 : (k : Int) < (SL.size : Int) := by omega
        by_cases hkl : k < K
        · obtain ⟨n8, rfl⟩ : ∃ n8, gk = n8 + 1 := ⟨gk - 1, by omega⟩
          have c1 := HNe.out k hks hkl
          go_wp2_with fail
          go_roundg n8
          case measure => omega
          case rel => exact ⟨k + 1, by go_num, by omega, by omega, HH⟩
        · obtain rfl : k = K := by omega
          have c1 := HEq.out k hks rfl
          have hkz : k ≤ SL.size := by omega
          clear HNe HEq
          go_wp2_with fail
          refine (HNm.out _).mono ?_
          rintro e9 w3 ⟨rfl, hx⟩
          have HX3 := Lib.hid (HH.out.trans hx)
          clear hx
          go_wp2_with fail
          refine (HF.out _ (HR.out.ex HX3.out)).mono ?_
          rintro e9 w4 ⟨rfl, h1, h2⟩
          have HR4 := Lib.hid h1
          have HG4 := Lib.hid ((Exg.of HX3.out).trans h2)
          clear h1 h2
          go_wp2_with fail
          refine (HS.out _ HR4.out).mono ?_
          rintro e9 w5 ⟨rfl, h1, h2⟩
          have HR5 := Lib.hid h1
          have HG5 := Lib.hid (HG4.out.trans h2)
          clear h1 h2
          go_wp2_with fail
          go_ret2
          exact ⟨rfl, HR5.out, HG5.out⟩
end
end
section
open Go.RowKit Nu
def REvV (F : EvF) (B : Option Addr) (c : Nat) : Value := .tuple #[.agg #[.int .i64 F.kind, .int .i64 0, .int .i64 F.msg, .int .i64 F.time, .slice B F.asg.length c, .string (bs F.peer), .int .i64 (F.pcol : Int)], .int .i64 F.s.e, .int .i64 (F.s.c : Int)]
/-- what the reference's event leaves -/
def REvR (w : World) (F : EvF) (e : Ending) (w' : World) : Prop :=
  ∃ B c, e = .returned (REvV F B c) ∧ OwnO w' w.heap.size 102 2 (.slice B F.asg.length c) F.asg.length (asgV F.asg) ∧ Ex w w'
def z7 : List Value := [.int .i64 0, .int .i64 0, .int .i64 0, .int .i64 0, .slice none 0 0, .string ⟨#[]⟩, .int .i64 0]
theorem results_rev {fn : Func} {p q s r : Nat} {a b c d e f h x y : Value} {w : World} {tmps : Array Value} (hr : fn.results = #[.cell p 117, .tmp q, .tmp s]) (hp : tmps.getD p undef = .pointer (some ⟨r, 0, none⟩)) (hq : tmps.getD q undef = x) (hs : tmps.getD s undef = y) (hB : Blk w r 117 [a, b, c, d, e, f, h]) :
    (results fn tmps).run Tryz.prog w = .ok (.tuple #[.agg #[a, b, c, d, e, f, h], x, y]) w := by
  have h0 : w.cell? ⟨r, 0, none⟩ = some a := hB.cell 0
  have h1 : w.cell? ⟨r, 1, none⟩ = some b := hB.cell 1
  have h2 : w.cell? ⟨r, 2, none⟩ = some c := hB.cell 2
  have h3 : w.cell? ⟨r, 3, none⟩ = some d := hB.cell 3
  have h4 : w.cell? ⟨r, 4, none⟩ = some e := hB.cell 4
  have h5 : w.cell? ⟨r, 5, none⟩ = some f := hB.cell 5
  have h6 : w.cell? ⟨r, 6, none⟩ = some h := hB.cell 6
  rw [Array.getD_eq_getD_getElem?] at hp hq hs
  simp [results, hr, hp, hq, hs, go_sem, h0, h1, h2, h3, h4, h5, h6]
/-- the memory while a line is read: what is read at eb, the result at rb, the reader at g -/
structure REg (T : TypeId) (zs : List Value) (w : World) (rb g eb : Nat) (ws : List (List UInt8)) (col : Nat) (cs : List Value) (s : Rst) (wx : World) : Prop where
  ev : Blk wx eb T cs
  res : Blk wx rb T zs
  rd : RrC wx w.heap.size g ws col s
  ex : Ex w wx
  lr : w.heap.size ≤ rb
  lg : w.heap.size ≤ g
  le : w.heap.size ≤ eb
  ne1 : eb ≠ g
  ne2 : rb ≠ g
  ne3 : rb ≠ eb
abbrev RE7 := REg 117 z7
section
variable {T : TypeId} {zs : List Value} {w wx w1 : World} {rb g eb : Nat} {ws : List (List UInt8)} {col : Nat} {cs : List Value} {s s' : Rst}
theorem REg.exx (h : REg T zs w rb g eb ws col cs s wx) (hx : Ex wx w1) : REg T zs w rb g eb ws col cs s w1 :=
  ⟨h.ev.ex hx, h.res.ex hx, h.rd.ex hx, h.ex.trans hx, h.lr, h.lg, h.le, h.ne1, h.ne2, h.ne3⟩
/-- the reader's own change -/
theorem REg.call (h : REg T zs w rb g eb ws col cs s wx) (hr : RrC w1 w.heap.size g ws col s') (hg : Exg g wx w1) : REg T zs w rb g eb ws col cs s' w1 :=
  ⟨hg.blk h.ev h.ne1, hg.blk h.res h.ne2, hr, Exg.out h.ex hg h.lg, h.lr, h.lg, h.le, h.ne1, h.ne2, h.ne3⟩
theorem REg.set (h : REg T zs w rb g eb ws col cs s wx) (i : Nat) (u : Value) (h1 : 156 ≠ T := by decide) (h2 : 9 ≠ T := by decide) : REg T zs w rb g eb ws col (cs.set i u) s (wx.setCell ⟨eb, i, none⟩ u) :=
  ⟨h.ev.set_ i u, h.res.far (p := ⟨eb, i, none⟩) h.ne3 u, h.rd.chg (Chg.set ⟨_, h.ev⟩ i u) h1 h2, h.ex.setCell (p := ⟨eb, i, none⟩) h.le u, h.lr, h.lg, h.le, h.ne1, h.ne2, h.ne3⟩
/-- the error and its place are written -/
theorem REg.err (h : REg T zs w rb g eb ws col cs s wx) (e' : Int) (c' : Nat) : REg T zs w rb g eb ws col cs ⟨s.at_, e', c'⟩ ((wx.setCell ⟨g, 2, none⟩ (.int .i64 e')).setCell ⟨g, 3, none⟩ (.int .i64 (c' : Int))) := by
  obtain ⟨a, e, c⟩ := s
  exact h.call (h.rd.err e' c') (((Exg.refl g wx).seto _ _).seto _ _)
theorem RrC.own_neB {base n T' size : Nat} {v : Value} {xs : List Value} (ho : OwnO wx base T' size v n xs) (h : RrC wx w.heap.size g ws col s) (hT : 156 ≠ T') : v.ownBlock ≠ some g := by
  obtain ⟨_, _, _, hb, _⟩ := h
  exact fun e => OwnO.ne ho hb hT e.symm
theorem REg.chg {T' : TypeId} {row : Option Nat} (h : REg T zs w rb g eb ws col cs s wx) (hc : Chg T' wx w1 row) (hx : Ex w w1) (h1 : T ≠ T') (h2 : 156 ≠ T') (h3 : 9 ≠ T') : REg T zs w rb g eb ws col cs s w1 :=
  ⟨h.ev.chg hc h1, h.res.chg hc h1, h.rd.chg hc h2 h3, hx, h.lr, h.lg, h.le, h.ne1, h.ne2, h.ne3⟩
end
def put7 (w : World) (g : Nat) (a b c d e f h : Value) : World := ((((((w.setCell ⟨g, 0, none⟩ a).setCell ⟨g, 1, none⟩ b).setCell ⟨g, 2, none⟩ c).setCell ⟨g, 3, none⟩ d).setCell ⟨g, 4, none⟩ e).setCell ⟨g, 5, none⟩ f).setCell ⟨g, 6, none⟩ h
theorem put7_blk {w : World} {g : Nat} {a b c d e f h : Value} (hB : Blk w g 117 z7) : Blk (put7 w g a b c d e f h) g 117 [a, b, c, d, e, f, h] :=
  ((((((hB.set_ 0 a).set_ 1 b).set_ 2 c).set_ 3 d).set_ 4 e).set_ 5 f).set_ 6 h
theorem put7_ex {W w : World} {g : Nat} {a b c d e f h : Value} (hx : Ex W w) (hg : W.heap.size ≤ g) : Ex W (put7 w g a b c d e f h) :=
  ((((((hx.setCell (p := ⟨g, 0, none⟩) hg a).setCell (p := ⟨g, 1, none⟩) hg b).setCell (p := ⟨g, 2, none⟩) hg c).setCell (p := ⟨g, 3, none⟩) hg d).setCell (p := ⟨g, 4, none⟩) hg e).setCell (p := ⟨g, 5, none⟩) hg f).setCell (p := ⟨g, 6, none⟩) hg h
theorem put7_own {w : World} {g n base : Nat} {v : Value} {xs : List Value} {a b c d e f h : Value} (ho : OwnO w base 102 2 v n xs) (hB : Blk w g 117 z7) : OwnO (put7 w g a b c d e f h) base 102 2 v n xs := by
  have b1 := hB.set_ 0 a
  have b2 := b1.set_ 1 b
  have b3 := b2.set_ 2 c
  have b4 := b3.set_ 3 d
  have b5 := b4.set_ 4 e
  have b6 := b5.set_ 5 f
  exact ((((((ho.chg (Chg.set ⟨_, hB⟩ 0 a) (by decide)).chg (Chg.set ⟨_, b1⟩ 1 b) (by decide)).chg (Chg.set ⟨_, b2⟩ 2 c) (by decide)).chg (Chg.set ⟨_, b3⟩ 3 d) (by decide)).chg (Chg.set ⟨_, b4⟩ 4 e) (by decide)).chg (Chg.set ⟨_, b5⟩ 5 f) (by decide)).chg (Chg.set ⟨_, b6⟩ 6 h) (by decide)
/-- the end: the event is handed back -/
theorem revEnd {w wx : World} {rb g eb : Nat} {ws : List (List UInt8)} {col : Nat} {k p3 tv : Int} {p1 : List UInt8} {p2 : Nat} {l : List (Int × Int)} {B : Option Addr} {bc : Nat} {s : Rst} {tmps : Array Value} {cs : List Value}
    (hR : RE7 w rb g eb ws col cs s wx) (hO : OwnO wx w.heap.size 102 2 (.slice B l.length bc) l.length (asgV l)) (hp : tmps.getD 6 undef = .pointer (some ⟨rb, 0, none⟩)) (hq : tmps.getD 7 undef = .int .i64 s.e) (hs : tmps.getD 8 undef = .int .i64 (s.c : Int)) :
    bodyPost Tryz.prog Tryz.f60 (REvR w ⟨k, p1, p2, p3, tv, l, s⟩) .ret ⟨tmps, []⟩ (put7 wx rb (.int .i64 k) (.int .i64 0) (.int .i64 p3) (.int .i64 tv) (.slice B l.length bc) (.string (bs p1)) (.int .i64 (p2 : Int))).drew :=
  bodyPost_ret (results_rev rfl hp hq hs (put7_blk hR.res).drew) rfl ⟨B, bc, rfl, (put7_own hO hR.res).ex (Ex.refl _).drew, (put7_ex hR.ex hR.lr).drew⟩
/-- the first variable with a name, among the first ones -/
def fstV (nm : ByteArray) (vars : List (ByteArray × Int)) (j : Nat) : Int := match vIdx nm (vars.take j) with | some i => (i : Int) | none => -1
theorem vIdx_snoc (n : ByteArray) (v : ByteArray × Int) : ∀ a : List (ByteArray × Int), vIdx n (a ++ [v]) = match vIdx n a with | some i => some i | none => if v.1 = n then some a.length else none
  | [] => by
    show (if v.1 = n then some 0 else (vIdx n []).map (· + 1)) = _
    rfl
  | x :: a => by
    rw [List.cons_append]
    unfold vIdx
    by_cases h : x.1 = n
    · rw [if_pos h, if_pos h]
    · rw [if_neg h, if_neg h, vIdx_snoc n v a]
      cases vIdx n a with
      | some i => rfl
      | none =>
        dsimp only [Option.map]
        by_cases h2 : v.1 = n
        · rw [if_pos h2, if_pos h2]; rfl
        · rw [if_neg h2, if_neg h2]
theorem fst_step {vars : List (ByteArray × Int)} {j : Nat} {v : ByteArray × Int} (h : vars[j]? = some v) (nm : ByteArray) : fstV nm vars (j + 1) = if v.1 = nm ∧ fstV nm vars j < 0 then (j : Int) else fstV nm vars j := by
  obtain ⟨hj, rfl⟩ := List.getElem?_eq_some_iff.1 h
  have hl : (vars.take j).length = j := by rw [List.length_take]; omega
  unfold fstV
  rw [List.take_succ_eq_append_getElem hj, vIdx_snoc, hl]
  cases vIdx nm (vars.take j) with
  | some i => dsimp only; rw [if_neg (by rintro ⟨-, h⟩; omega)]
  | none =>
    dsimp only
    by_cases h2 : vars[j].1 = nm
    · rw [if_pos h2, if_pos ⟨h2, by decide⟩]
    · rw [if_neg h2, if_neg (fun h => h2 h.1)]
theorem fst_zero (nm : ByteArray) (vars : List (ByteArray × Int)) : fstV nm vars 0 = -1 := rfl
theorem fst_all (nm : ByteArray) (vars : List (ByteArray × Int)) : fstV nm vars vars.length = match vIdx nm vars with | some i => (i : Int) | none => -1 := by unfold fstV; rw [List.take_length]
theorem evRD_succ (ws : List (List UInt8)) (col : Nat) (vars : List (ByteArray × Int)) (n : Nat) (s : Rst) (l : List (Int × Int)) (h : moreF ws s = true) : evRD ws col vars (n + 1) s l = if (pairR ws col s).2.2.e = 0 then
      (match vIdx (bs (pairR ws col s).1) vars with
        | some i => evRD ws col vars n (pairR ws col s).2.2 (l ++ [((i : Int), (pairR ws col s).2.1)])
        | none => evRD ws col vars n ⟨(pairR ws col s).2.2.at_, 13, colA ws col s.at_⟩ (l ++ [(-1, (pairR ws col s).2.1)]))
    else (l, (pairR ws col s).2.2) := by
  conv => lhs; unfold evRD
  rw [h, if_pos rfl]
  rfl
theorem pair_adv (ws : List (List UInt8)) (col : Nat) (s : Rst) (he : s.e = 0) (hl : s.at_ < ws.length) : (pairR ws col s).2.2.at_ = s.at_ + 1 := by
  obtain ⟨a, e, c⟩ := s
  dsimp only at he hl ⊢
  subst he
  have h := pairR_at (col := col) (c := c) (List.getElem?_eq_getElem hl)
  cases ha : asgO ws[a] with
  | error e =>
    rw [ha] at h
    rw [h.1]
  | ok x =>
    obtain ⟨n, v⟩ := x
    rw [ha] at h
    rw [h.2]
theorem varV_get : ∀ (l : List (ByteArray × Int)) (j : Nat) (v : ByteArray × Int), l[j]? = some v → (varV l)[j * 2]? = some (.string v.1)
  | [], j, v, h => by simp at h
  | x :: l, 0, v, h => by cases h; rfl
  | x :: l, j + 1, v, h => by
    have := varV_get l j v (by simpa using h)
    unfold varV at this ⊢
    rw [List.flatMap_cons, List.getElem?_append_right (by show 2 ≤ _; omega), show (j + 1) * 2 - ([Value.string x.1, .int .i64 x.2] : List Value).length = j * 2 by show (j + 1) * 2 - 2 = _; omega]
    exact this

set_option maxRecDepth 100000 in
set_option maxHeartbeats 12800000 in
theorem revent_c (l : List UInt8) (col : Nat) (vars : List (ByteArray × Int)) (V : Option Addr) (vc : Nat) (w : World) (hl : l.length ≤ 20000) (hcol : col ≤ 100) (hV : Row w V (varV vars)) (hvl : vars.length ≤ 20000) :
    Calls Tryz.prog 60 #[.string (bs l), .int .i64 (col : Int), .slice V vars.length vc] w (REvR w (evR vars (spl 32 l) col (col + l.length) (spl 32 l).length ⟨0, 0, 0⟩)) := by
  obtain ⟨i0, hi0, hz0, hz1, hz2⟩ := info_parts infoAsg
  obtain ⟨hsl, hsw⟩ := spl_lens 32 l
  have hwl := wsL_spl 32 l
  have hsz : (bs l).size = l.length := rfl
  have HWd := Lib.hid (fun w' => words_c (bs l) w' (by show l.length ≤ _; omega))
  have hbl : (bs l).data.toList = l := rfl
  rw [hbl] at HWd
  have hpos : 0 < (spl 32 l).length := List.length_pos_iff.2 (spl_ne 32 l)
  obtain ⟨F, hF⟩ : ∃ F, F = evR vars (spl 32 l) col (col + l.length) (spl 32 l).length ⟨0, 0, 0⟩ := ⟨_, rfl⟩
  rw [← hF]
  have q1 : IntKind.i64.wrap ((col : Int) + (l.length : Int)) = ((col + l.length : Nat) : Int) := by rw [show (col : Int) + (l.length : Int) = ((col + l.length : Nat) : Int) by omega]; exact IntWalk.i64_in _ (by omega)
  generalize spl 32 l = ws at *
  generalize col + l.length = en at *
  have hcw : col + wsL ws ≤ 200000 := by omega
  have hws : ∀ w ∈ ws, w.length ≤ 20000 := fun x hx => Nat.le_trans (hsw x hx) (by omega)
  have HNx := Lib.hid (fun g s w' (h : RrC w' w.heap.size g ws col s) => rnext_c w.heap.size g ws col s w' h)
  have HFl := Lib.hid (fun g E s w' (h : RrC w' w.heap.size g ws col s) => rfail_c w.heap.size g ws col E s w' h)
  have HSk := Lib.hid (fun g s w' (h : RrC w' w.heap.size g ws col s) => rskip_c w.heap.size g ws col s w' h hcw)
  have HMi := Lib.hid (fun g s w' (h : RrC w' w.heap.size g ws col s) => rmissing_c w.heap.size g ws col en s w' h)
  have HNm := Lib.hid (fun g s w' (h : RrC w' w.heap.size g ws col s) => rname_r w.heap.size g ws col hws hcw s w' h)
  have HIe := Lib.hid (fun g s w' (h : RrC w' w.heap.size g ws col s) => rinteger_c w.heap.size g ws col hws hcw [] (by simp) s w' h)
  have HIa := Lib.hid (fun g s w' (h : RrC w' w.heap.size g ws col s) => rinteger_c w.heap.size g ws col hws hcw [64] (by simp) s w' h)
  have HPr := Lib.hid (fun g s w' (h : RrC w' w.heap.size g ws col s) => rpair_c w.heap.size g ws col hws hcw s w' h)
  unfold Rrr at *
  have HVr : Hid (∀ w', Ex w w' → Row w' V (varV vars)) := fun w' h => hV.ex h
  have HF := Lib.hid hF
  have hwsl : ws.length ≤ 30000 := by omega
  have HRow : Hid (∀ (j : Nat) (v : ByteArray × Int), vars[j]? = some v → ∀ w', Ex w w' → ∃ b o, V = some ⟨b, o, none⟩ ∧ b < w'.heap.size ∧ w'.cell? ⟨b, o + j * 2, none⟩ = some (.string v.1)) := fun j v hj w' hx => by
    have hg := varV_get vars j v hj
    rcases hV.ex hx with h0 | ⟨b, o, hA, hb, hc⟩
    · rw [h0] at hg; simp at hg
    · exact ⟨b, o, hA, hb, hc _ _ hg⟩
  obtain ⟨bse, hbse⟩ : ∃ bse, bse = w.heap.size := ⟨_, rfl⟩
  have HBse := Lib.hid hbse
  have hz1' : ∀ (X : World) (o : Obj), (X.alloc o).heap.size = X.heap.size + 1 := fun X o => Array.size_push _
  have hB0 := Blk.new w 117 z7
  have hX0 : Ex w (w.alloc (.cells z7.toArray 117)) := (Ex.refl w).alloc _
  have HRd0 : Hid (∀ (w1 : World) (D : Option Addr) (dc : Nat), Ex (w.alloc (.cells z7.toArray 117)) w1 → OwnO w1 (w.alloc (.cells z7.toArray 117)).heap.size 9 1 (.slice D ws.length dc) ws.length (strV ws) →
      RE7 w w.heap.size w1.heap.size (w1.heap.size + 1) ws col z7 ⟨0, 0, 0⟩ ((w1.alloc (.cells #[.slice D ws.length dc, .int .i64 (col : Int), .int .i64 0, .int .i64 0] 156)).alloc (.cells z7.toArray 117))) := fun w1 D dc hx ho => by
    have hlt := hx.below.size
    rw [hz1'] at hlt
    have hb1 := (Blk.new w1 156 [.slice D ws.length dc, .int .i64 (col : Int), .int .i64 0, .int .i64 0])
    have hb2 := Blk.new (w1.alloc (.cells #[.slice D ws.length dc, .int .i64 (col : Int), .int .i64 0, .int .i64 0] 156)) 117 z7
    rw [hz1'] at hb2
    have hxx : Ex w1 ((w1.alloc (.cells #[.slice D ws.length dc, .int .i64 (col : Int), .int .i64 0, .int .i64 0] 156)).alloc (.cells z7.toArray 117)) := ((Ex.refl w1).alloc _).alloc _
    refine ⟨hb2, (hB0.ex hx).ex hxx, ⟨D, dc, Nat.zero_le _, ?_, ?_⟩, (hX0.trans hx).trans hxx, Nat.le_refl _, by omega, by omega, by omega, by omega, by omega⟩
    · have := hb1.alloc (.cells z7.toArray 117)
      rw [colA_zero]
      exact this
    · have := (ho.ex hxx).mono (b := w.heap.size) (by rw [hz1']; omega)
      exact this
  unfold z7 at HRd0
  clear hF hsw hwl hcw hws hV hB0 hX0 hbl hbse hz1'
  have HWl := Lib.hid hpos
  clear hpos
  go_enter Tryz.func60, Tryz.ntmps60
  go_wp2_with fail
  refine (HWd.out _).mono ?_
  rintro e9 w1 ⟨D, dc, rfl, ho, hx⟩
  have HR0 := Lib.hid (HRd0.out w1 D dc hx ho)
  clear ho hx HRd0 HWd
  go_upto_region 3 with fail
  generalize (w1.alloc (.cells #[.slice D ws.length dc, .int .i64 (col : Int), .int .i64 0, .int .i64 0] 156)).alloc (.cells #[.int .i64 0, .int .i64 0, .int .i64 0, .int .i64 0, .slice none 0 0, .string ⟨#[]⟩, .int .i64 0] 117) = W2 at *
  generalize w1.heap.size + 1 = eb at *
  generalize w1.heap.size = g at *
  go_wp2_with fail
  refine (HNx.out g _ _ HR0.out.rd).mono ?_
  rintro e9 w2 ⟨rfl, hx⟩
  have HR1 := Lib.hid (HR0.out.exx hx)
  clear hx HR0
  go_upto_if 25 with fail
  go_cut [] from 24 (fun wx => ∃ (k : Int) (s : Rst), Hid (k = (evRA ws col ⟨0, 0, 0⟩).1 ∧ skipR ws s = (evRA ws col ⟨0, 0, 0⟩).2) ∧ Hid (RE7 w w.heap.size g eb ws col [.int .i64 k, .int .i64 0, .int .i64 0, .int .i64 0, .slice none 0 0, .string ⟨#[]⟩, .int .i64 0] s wx))
  case first =>
    obtain ⟨b1, b2, b3, -⟩ := kind_str (nextR ws ⟨0, 0, 0⟩)
    have HEA : Hid (evRA ws col ⟨0, 0, 0⟩ = (kindF (nextR ws ⟨0, 0, 0⟩), skipR ws (if kindF (nextR ws ⟨0, 0, 0⟩) = 0 then failR ws col 3 ⟨0, 0, 0⟩ else ⟨0, 0, 0⟩))) := rfl
    generalize nextR ws ⟨0, 0, 0⟩ = l0 at *
    have x0 := HR1.out.ev.cell 0
    have xl := HR1.out.ev.lt
    have xf := HR1.out.ev.frozen 0

    by_cases h1 : l0 = wLocal
    · rw [decide_eq_true h1] at b1
      have HK : Hid (kindF l0 = 1) := by unfold kindF; rw [if_pos h1]; exact Lib.hid rfl
      have HR2 := Lib.hid (HR1.out.set 0 (.int .i64 1))
      have HEq : Hid (skipR ws ⟨0, 0, 0⟩ = (evRA ws col ⟨0, 0, 0⟩).2) := by rw [HEA.out, HK.out]; exact Lib.hid rfl
      clear h1 b2 b3
      rw [b1]
      go_wp2_with fail
      go_meet
      case rel => exact ⟨1, _, Lib.hid ⟨by rw [HEA.out, HK.out], HEq.out⟩, Lib.hid HR2.out⟩
    rw [decide_eq_false h1] at b1
    by_cases h2 : l0 = wSend
    · rw [decide_eq_true h2] at b2
      have HK : Hid (kindF l0 = 2) := by unfold kindF; rw [if_neg h1, if_pos h2]; exact Lib.hid rfl
      have HR2 := Lib.hid (HR1.out.set 0 (.int .i64 2))
      have HEq : Hid (skipR ws ⟨0, 0, 0⟩ = (evRA ws col ⟨0, 0, 0⟩).2) := by rw [HEA.out, HK.out]; exact Lib.hid rfl
      clear h1 h2 b3
      rw [b1]
      go_wp2_with fail
      go_meet
      case rel => exact ⟨2, _, Lib.hid ⟨by rw [HEA.out, HK.out], HEq.out⟩, Lib.hid HR2.out⟩
    rw [decide_eq_false h2] at b2
    by_cases h3 : l0 = wReceive
    · rw [decide_eq_true h3] at b3
      have HK : Hid (kindF l0 = 3) := by unfold kindF; rw [if_neg h1, if_neg h2, if_pos h3]; exact Lib.hid rfl
      have HR2 := Lib.hid (HR1.out.set 0 (.int .i64 3))
      have HEq : Hid (skipR ws ⟨0, 0, 0⟩ = (evRA ws col ⟨0, 0, 0⟩).2) := by rw [HEA.out, HK.out]; exact Lib.hid rfl
      clear h1 h2 h3 
      rw [b1]
      go_wp2_with fail
      go_meet
      case rel => exact ⟨3, _, Lib.hid ⟨by rw [HEA.out, HK.out], HEq.out⟩, Lib.hid HR2.out⟩
    rw [decide_eq_false h3] at b3
    have HK : Hid (kindF l0 = 0) := by unfold kindF; rw [if_neg h1, if_neg h2, if_neg h3]; exact Lib.hid rfl
    have HFs := Lib.hid (HFl.out g 3 ⟨0, 0, 0⟩ _ HR1.out.rd)
    have HEq : Hid (skipR ws (failR ws col 3 ⟨0, 0, 0⟩) = (evRA ws col ⟨0, 0, 0⟩).2) := by rw [HEA.out, HK.out]; exact Lib.hid rfl
    clear h1 h2 h3
    rw [b1]
    go_wp2_with fail
    refine (HFs.out).mono ?_
    rintro e9 w3 ⟨rfl, g1, g2⟩
    have HR3 := Lib.hid (HR1.out.call g1 g2)
    clear g1 g2 x0 xl xf
    go_wp2_with fail
    go_meet
    case rel => exact ⟨0, _, Lib.hid ⟨by rw [HEA.out, HK.out], HEq.out⟩, Lib.hid HR3.out⟩
  case rest =>
    clear HR1
    obtain ⟨k, s0, HK, HC0⟩ := hcut
    have HSs := Lib.hid (HSk.out g s0 _ HC0.out.rd)
    generalize skipR ws s0 = s at *
    go_wp2_with fail
    refine (HSs.out).mono ?_
    rintro e9 w3 ⟨rfl, g1, g2⟩
    have HC := Lib.hid (HC0.out.call g1 g2)
    clear g1 g2 HC0 HSs
    have x0 : _ = some (Value.int .i64 k) := HC.out.ev.cell 0
    have xl := HC.out.ev.lt
    have HE1 : Hid (∃ b, b = evRB ws col en k s) := ⟨_, rfl⟩
    obtain ⟨EB, hEB⟩ := HE1.out
    have HEB := Lib.hid hEB
    clear hEB HE1
    obtain ⟨p1, p2, p3, p4⟩ := EB
    go_upto_region 12 with fail
    have HCx := HC
    go_cut [49] from 40 (fun b wx => b = .bool (decide (k = 2 ∨ k = 3)) ∧ wx = w3)
    case first =>
      clear HEB HK HF HCx
      by_cases k2 : k = 2
      · have d2 : (k == 2) = true := beq_iff_eq.2 k2
        go_wp2_with fail
        go_meet
        case rel => exact ⟨congrArg Value.bool (decide_eq_true (.inl k2)).symm, rfl⟩
      · have d2 : (k == 2) = false := beq_eq_false_iff_ne.2 k2
        by_cases k3 : k = 3
        · have d3 : (k == 3) = true := beq_iff_eq.2 k3
          go_wp2_with fail
          go_meet
          case rel => exact ⟨congrArg Value.bool (decide_eq_true (.inr k3)).symm, rfl⟩
        · have d3 : (k == 3) = false := beq_eq_false_iff_ne.2 k3
          go_wp2_with fail
          go_meet
          case rel => exact ⟨congrArg Value.bool (decide_eq_false (by rintro (h | h); exact k2 h; exact k3 h)).symm, rfl⟩
    obtain ⟨rfl, rfl⟩ := hcut
    clear x0 xl
    go_step
    go_cut [] from 40 (fun wx => Hid (RE7 w w.heap.size g eb ws col [.int .i64 k, .int .i64 0, .int .i64 p3, .int .i64 0, .slice none 0 0, .string (bs p1), .int .i64 (p2 : Int)] p4 wx))

    case first =>
      clear HK HF
      by_cases hk : k = 2 ∨ k = 3
      · have HEq : Hid ((p1, p2, p3, p4) = ((nameR ws col (missR ws en s)).1, colA ws col (missR ws en s).at_, intR ws col [] (missR ws en (nameR ws col (missR ws en s)).2))) := by
          rw [HEB.out]; unfold evRB; rw [if_pos hk]; exact Lib.hid rfl
        have e := HEq.out
        simp only [Prod.mk.injEq] at e
        clear HEq HEB
        have HM1 := Lib.hid (HMi.out g s _ HC.out.rd)
        generalize missR ws en s = s1 at *
        have HN1 := Lib.hid (fun w' (h : RrC w' w.heap.size g ws col s1) => HNm.out g s1 w' h)
        generalize nameR ws col s1 = N at *
        obtain ⟨nl, s2⟩ := N
        dsimp only at *
        have HM2 := Lib.hid (fun w' (h : RrC w' w.heap.size g ws col s2) => HMi.out g s2 w' h)
        generalize missR ws en s2 = s3 at *
        have HI3 := Lib.hid (fun w' (h : RrC w' w.heap.size g ws col s3) => HIe.out g s3 w' h)
        generalize intR ws col [] s3 = Q at *
        obtain ⟨qv, s4⟩ := Q
        dsimp only at *
        obtain ⟨rfl, e2, rfl, rfl⟩ := e
        have HE2 := Lib.hid e2
        clear e2
        rw [decide_eq_true hk]
        have k23 : ((k == 2) = true) ∨ ((k == 2) = false ∧ (k == 3) = true) := by
          rcases hk with rfl | rfl
          · exact .inl rfl
          · exact .inr ⟨rfl, rfl⟩
        clear hk
        clear k23
        · go_wp2_with fail
          refine (HM1.out).mono ?_
          rintro e9 w3 ⟨rfl, g1, g2⟩
          have HR3 := Lib.hid (HC.out.call g1 g2)
          clear g1 g2
          have c1 := HR3.out.rd.cell1
          rw [← HE2.out] at c1
          have rl := HR3.out.rd.lt
          have yf := HR3.out.ev.frozen 6
          have yl := HR3.out.ev.lt
          have y6 : w3.cell? ⟨eb, 6, none⟩ = some (.int .i64 0) := HR3.out.ev.cell 6
          have HR4 := Lib.hid (HR3.out.set 6 (.int .i64 (p2 : Int)))
          have HN4 := Lib.hid (HN1.out _ HR4.out.rd)
          go_wp2_with fail
          refine (HN4.out).mono ?_
          rintro e9 w5 ⟨rfl, g1, g2⟩
          have HR5 := Lib.hid (HR4.out.call g1 g2)
          clear g1 g2 c1 rl yf yl y6 HR3
          have yf := HR5.out.ev.frozen 5
          have yl := HR5.out.ev.lt
          have y5 : w5.cell? ⟨eb, 5, none⟩ = some (.string ⟨#[]⟩) := HR5.out.ev.cell 5
          have HR6 := Lib.hid (HR5.out.set 5 (.string (bs p1)))
          go_wp2_with fail
          refine (HM2.out _ HR6.out.rd).mono ?_
          rintro e9 w7 ⟨rfl, g1, g2⟩
          have HR7 := Lib.hid (HR6.out.call g1 g2)
          clear g1 g2 yf yl y5 HR5
          go_wp2_with fail
          refine (HI3.out _ HR7.out.rd).mono ?_
          rintro e9 w8 ⟨rfl, g1, g2⟩
          have HR8 := Lib.hid (HR7.out.call g1 g2)
          clear g1 g2 HR7
          have yf := HR8.out.ev.frozen 2
          have yl := HR8.out.ev.lt
          have y2 : w8.cell? ⟨eb, 2, none⟩ = some (.int .i64 0) := HR8.out.ev.cell 2
          have HR9 := Lib.hid (HR8.out.set 2 (.int .i64 p3))
          go_wp2_with fail
          go_meet
          case rel => exact Lib.hid HR9.out
      · have HEq : Hid ((p1, p2, p3, p4) = (([] : List UInt8), 0, (0 : Int), s)) := by
          rw [HEB.out]; unfold evRB; rw [if_neg hk]; exact Lib.hid rfl
        have e := HEq.out
        simp only [Prod.mk.injEq] at e
        obtain ⟨rfl, rfl, rfl, rfl⟩ := e
        rw [decide_eq_false hk]
        clear hk HEq HEB
        go_wp2_with fail
        go_meet
        case rel => exact Lib.hid HC.out
    case rest =>
      have HFq : Hid (F = ⟨k, p1, p2, p3, (evRC ws col en p4).1, (evRD ws col vars ws.length (evRC ws col en p4).2 []).1, (evRD ws col vars ws.length (evRC ws col en p4).2 []).2⟩) := by
        rw [HF.out]
        unfold evR
        dsimp only
        rw [← HK.out.1, ← HK.out.2, ← HEB.out]
        exact Lib.hid rfl
      clear HK HEB HF HC
      unfold evRC at HFq
      have HM1 := Lib.hid (HMi.out g p4 _ hcut.out.rd)
      generalize missR ws en p4 = s5 at *
      have HI5 := Lib.hid (fun w' (h : RrC w' w.heap.size g ws col s5) => HIa.out g s5 w' h)
      generalize intR ws col [64] s5 = Q at *
      obtain ⟨tv, s7⟩ := Q
      dsimp only at *
      go_wp2_with fail
      refine (HM1.out).mono ?_
      rintro e9 w3 ⟨rfl, g1, g2⟩
      have HR3 := Lib.hid (hcut.out.call g1 g2)
      clear g1 g2 hcut HM1
      go_wp2_with fail
      refine (HI5.out _ HR3.out.rd).mono ?_
      rintro e9 w4 ⟨rfl, g1, g2⟩
      have HR4 := Lib.hid (HR3.out.call g1 g2)
      clear g1 g2 HR3 HI5
      have yf := HR4.out.ev.frozen 3
      have yl := HR4.out.ev.lt
      have y3 : w4.cell? ⟨eb, 3, none⟩ = some (.int .i64 0) := HR4.out.ev.cell 3
      have HR5 := Lib.hid (HR4.out.set 3 (.int .i64 tv))
      clear HMi HNm HIe HIa HNx HFl HSk HR4
      go_wp2_with fail
      clear yf yl y3
      go_loopg [12] ws.length (fun gg _ w8 => ∃ (s : Rst) (l : List (Int × Int)) (B : Option Addr) (c : Nat), l.length ≤ 100000 ∧ Hid (evRD ws col vars gg s l = evRD ws col vars ws.length s7 [] ∧ l.length + gg ≤ ws.length ∧ (s.e = 0 → ws.length ≤ gg + s.at_)) ∧
          Hid (RE7 w w.heap.size g eb ws col [.int .i64 k, .int .i64 0, .int .i64 p3, .int .i64 tv, .slice B l.length c, .string (bs p1), .int .i64 (p2 : Int)] s w8 ∧ OwnO w8 w.heap.size 102 2 (.slice B l.length c) l.length (asgV l)))
      case atStart => exact ⟨s7, [], none, 0, by simp, Lib.hid ⟨rfl, by simp, fun _ => by omega⟩, Lib.hid ⟨HR5.out, OwnO.nil _ _ _ _⟩⟩
      case round =>
        obtain ⟨s, l, B, c, hll, HD, HH⟩ := hrel
        have HR := Lib.hid HH.out.1
        have HO := Lib.hid HH.out.2
        clear HH HR5
        have e2 := HR.out.rd.cell2
        obtain ⟨Dw, dw, e0, -⟩ := HR.out.rd.cell0
        have rl := HR.out.rd.lt
        cases hm : moreF ws s with
        | false =>
          have HFin : Hid (F = ⟨k, p1, p2, p3, tv, l, s⟩) := by
            rw [HFq.out, ← HD.out.1]
            cases gk with
            | zero => exact Lib.hid rfl
            | succ n =>
              unfold evRD
              rw [hm]
              exact Lib.hid rfl
          have hmo : s.e ≠ 0 ∨ (s.e = 0 ∧ ws.length - s.at_ = 0) := by
            unfold moreF at hm
            by_cases he : s.e = 0
            · right
              refine ⟨he, ?_⟩
              by_cases ha : s.at_ < ws.length
              · rw [decide_eq_true he, decide_eq_true ha] at hm; cases hm
              · omega
            · exact .inl he
          clear hm HFq HD HPr
          rcases hmo with he | ⟨he, hn⟩
          · have b1 : (s.e == 0) = false := beq_eq_false_iff_ne.2 he
            clear he
            go_wp2_with fail
            clear e0 rl

            have hre := HR.out
            have e2 := hre.rd.cell2
            have e3 := hre.rd.cell3
            have rl := hre.rd.lt
            have v0 : _ = some (Value.int .i64 k) := hre.ev.cell 0
            have v1 : _ = some (Value.int .i64 0) := hre.ev.cell 1
            have v2 : _ = some (Value.int .i64 p3) := hre.ev.cell 2
            have v3 : _ = some (Value.int .i64 tv) := hre.ev.cell 3
            have v4 : _ = some (Value.slice B l.length c) := hre.ev.cell 4
            have v5 : _ = some (Value.string (bs p1)) := hre.ev.cell 5
            have v6 : _ = some (Value.int .i64 (p2 : Int)) := hre.ev.cell 6
            have vl := hre.ev.lt
            have u0 : _ = some (Value.int .i64 0) := hre.res.cell 0
            have u1 : _ = some (Value.int .i64 0) := hre.res.cell 1
            have u2 : _ = some (Value.int .i64 0) := hre.res.cell 2
            have u3 : _ = some (Value.int .i64 0) := hre.res.cell 3
            have u4 : _ = some (Value.slice none 0 0) := hre.res.cell 4
            have u5 : _ = some (Value.string ⟨#[]⟩) := hre.res.cell 5
            have u6 : _ = some (Value.int .i64 0) := hre.res.cell 6
            have ul := hre.res.lt
            have f0 := hre.res.frozen 0
            have f1 := hre.res.frozen 1
            have f2 := hre.res.frozen 2
            have f3 := hre.res.frozen 3
            have f4 := hre.res.frozen 4
            have f5 := hre.res.frozen 5
            have f6 := hre.res.frozen 6
            have n1 := hre.ne1
            have n1' := hre.ne1.symm
            have n2 := hre.ne2
            have n2' := hre.ne2.symm
            have n3 := hre.ne3
            have n3' := hre.ne3.symm
            clear hre
            go_upto_region 33 with fail
            go_region
            go_wp2_with fail
            rw [HFin.out]
            exact revEnd HR.out HO.out rfl (by first | rfl | (rw [he]; rfl)) rfl
          · rw [hn] at e0
            rw [he] at e2
            go_wp2_with fail
            clear e0 e2 rl

            have hre := HR.out
            have e2 := hre.rd.cell2
            have e3 := hre.rd.cell3
            have rl := hre.rd.lt
            have v0 : _ = some (Value.int .i64 k) := hre.ev.cell 0
            have v1 : _ = some (Value.int .i64 0) := hre.ev.cell 1
            have v2 : _ = some (Value.int .i64 p3) := hre.ev.cell 2
            have v3 : _ = some (Value.int .i64 tv) := hre.ev.cell 3
            have v4 : _ = some (Value.slice B l.length c) := hre.ev.cell 4
            have v5 : _ = some (Value.string (bs p1)) := hre.ev.cell 5
            have v6 : _ = some (Value.int .i64 (p2 : Int)) := hre.ev.cell 6
            have vl := hre.ev.lt
            have u0 : _ = some (Value.int .i64 0) := hre.res.cell 0
            have u1 : _ = some (Value.int .i64 0) := hre.res.cell 1
            have u2 : _ = some (Value.int .i64 0) := hre.res.cell 2
            have u3 : _ = some (Value.int .i64 0) := hre.res.cell 3
            have u4 : _ = some (Value.slice none 0 0) := hre.res.cell 4
            have u5 : _ = some (Value.string ⟨#[]⟩) := hre.res.cell 5
            have u6 : _ = some (Value.int .i64 0) := hre.res.cell 6
            have ul := hre.res.lt
            have f0 := hre.res.frozen 0
            have f1 := hre.res.frozen 1
            have f2 := hre.res.frozen 2
            have f3 := hre.res.frozen 3
            have f4 := hre.res.frozen 4
            have f5 := hre.res.frozen 5
            have f6 := hre.res.frozen 6
            have n1 := hre.ne1
            have n1' := hre.ne1.symm
            have n2 := hre.ne2
            have n2' := hre.ne2.symm
            have n3 := hre.ne3
            have n3' := hre.ne3.symm
            clear hre
            go_upto_region 33 with fail
            go_region
            go_wp2_with fail
            rw [HFin.out]
            exact revEnd HR.out HO.out rfl (by first | rfl | (rw [he]; rfl)) rfl
        | true =>
          have hm2 : s.e = 0 ∧ s.at_ < ws.length := by
            unfold moreF at hm
            simpa using hm
          have hAd := pair_adv ws col s hm2.1 hm2.2
          have hgk := HD.out.2.2 hm2.1
          obtain ⟨n, rfl⟩ : ∃ n, gk = n + 1 := ⟨gk - 1, by omega⟩
          have hD1 := HD.out.1
          rw [evRD_succ ws col vars n s l hm] at hD1
          have hlg := HD.out.2.1
          have HPs := Lib.hid (HPr.out g s _ HR.out.rd)
          have c1 := HR.out.rd.cell1
          obtain ⟨m, hmm⟩ : ∃ m, ws.length - s.at_ = m + 1 := ⟨ws.length - s.at_ - 1, by omega⟩
          rw [hmm] at e0
          rw [hm2.1] at e2
          have t1 : decide ((0 : Int) < (m : Int) + 1) = true := decide_eq_true (by omega)
          have m8 : (0 : Int) < (m : Int) + 1 := by omega
          generalize colA ws col s.at_ = at9 at *
          generalize pairR ws col s = M at *
          obtain ⟨nm, nv, s2⟩ := M
          dsimp only at *
          generalize bs nm = NM at *
          clear hm HD hmm
          go_wp2_with fail
          refine (HPs.out).mono ?_
          rintro e9 w9 ⟨rfl, g1, g2⟩
          have HRp := Lib.hid (HR.out.call g1 g2)
          have hrd := HR.out.rd
          have HOp : Hid (OwnO w9 w.heap.size 102 2 (.slice B l.length c) l.length (asgV l)) := by
            obtain ⟨_, _, _, hb, _⟩ := hrd
            exact Lib.hid (HO.out.kept g2.grown (.inr fun e => OwnO.ne HO.out hb (by decide) e.symm))
          clear g1 g2 e0 e2 rl c1 HR HO HPs hrd t1 m8
          have e2 := HRp.out.rd.cell2
          have rl := HRp.out.rd.lt
          by_cases he : s2.e = 0
          case neg =>
            rw [if_neg he] at hD1
            have HFin : Hid (F = ⟨k, p1, p2, p3, tv, l, s2⟩) := by
              rw [HFq.out, ← hD1]
              exact Lib.hid rfl
            have b1 : (s2.e != 0) = true := bne_iff_ne.2 he
            have b2 : (s2.e == 0) = false := beq_eq_false_iff_ne.2 he
            clear HFq hD1 he hm2 hAd hgk hlg HPr
            go_wp2_with fail
            clear e2 rl

            have hre := HRp.out
            have e2 := hre.rd.cell2
            have e3 := hre.rd.cell3
            have rl := hre.rd.lt
            have v0 : _ = some (Value.int .i64 k) := hre.ev.cell 0
            have v1 : _ = some (Value.int .i64 0) := hre.ev.cell 1
            have v2 : _ = some (Value.int .i64 p3) := hre.ev.cell 2
            have v3 : _ = some (Value.int .i64 tv) := hre.ev.cell 3
            have v4 : _ = some (Value.slice B l.length c) := hre.ev.cell 4
            have v5 : _ = some (Value.string (bs p1)) := hre.ev.cell 5
            have v6 : _ = some (Value.int .i64 (p2 : Int)) := hre.ev.cell 6
            have vl := hre.ev.lt
            have u0 : _ = some (Value.int .i64 0) := hre.res.cell 0
            have u1 : _ = some (Value.int .i64 0) := hre.res.cell 1
            have u2 : _ = some (Value.int .i64 0) := hre.res.cell 2
            have u3 : _ = some (Value.int .i64 0) := hre.res.cell 3
            have u4 : _ = some (Value.slice none 0 0) := hre.res.cell 4
            have u5 : _ = some (Value.string ⟨#[]⟩) := hre.res.cell 5
            have u6 : _ = some (Value.int .i64 0) := hre.res.cell 6
            have ul := hre.res.lt
            have f0 := hre.res.frozen 0
            have f1 := hre.res.frozen 1
            have f2 := hre.res.frozen 2
            have f3 := hre.res.frozen 3
            have f4 := hre.res.frozen 4
            have f5 := hre.res.frozen 5
            have f6 := hre.res.frozen 6
            have n1 := hre.ne1
            have n1' := hre.ne1.symm
            have n2 := hre.ne2
            have n2' := hre.ne2.symm
            have n3 := hre.ne3
            have n3' := hre.ne3.symm
            clear hre
            go_upto_region 33 with fail
            go_region
            go_wp2_with fail
            rw [HFin.out]
            exact revEnd HRp.out HOp.out rfl (by first | rfl | (rw [he]; rfl)) rfl
          rw [if_pos he] at hD1
          rw [he] at e2
          have HD1 := Lib.hid hD1
          have HE2 := Lib.hid he
          have HAt : Hid (ws.length ≤ n + s2.at_) := Lib.hid (by omega)
          have HLg : Hid (l.length + 1 + n ≤ ws.length) := Lib.hid (by omega)
          clear hD1 he hm2 hAd hgk hlg
          go_wp2_with fail
          clear e2 rl
          go_loopg [15, 16] vars.length (fun gg q i wr => ∃ j : Nat, q = .int .i64 (fstV NM vars j) ∧ i = .int .i64 (j : Int) ∧ j ≤ vars.length ∧ vars.length ≤ j + gg ∧ wr = w9)
          case atStart => exact ⟨0, rfl, rfl, Nat.zero_le _, by omega, rfl⟩
          case round =>
            obtain ⟨j, rfl, rfl, hj, hjg, hwr⟩ := hrel
            subst hwr
            by_cases hjl : j < vars.length
            · obtain ⟨n8, hn8⟩ : ∃ n8, gk = n8 + 1 := ⟨gk - 1, by omega⟩
              subst hn8
              have m0 : (0 : Int) ≤ (j : Int) := by omega
              have m1 : (j : Int) < (vars.length : Int) := by omega
              obtain ⟨vv, hv⟩ : ∃ vv, vars[j]? = some vv := ⟨_, List.getElem?_eq_getElem hjl⟩
              obtain ⟨bv, ov, hV, hbv, hcv⟩ := HRow.out j vv hv _ HRp.out.ex
              subst hV
              have be := bytes_dec vv.1 NM
              have hst := fst_step hv NM
              have HSt := Lib.hid hst
              generalize fstV NM vars j = Q0 at *
              clear hst hv
              generalize vv.1 = vn at *
              by_cases h1 : vn = NM
              · rw [decide_eq_true h1] at be
                by_cases h2 : Q0 < 0
                · have d2 : decide (Q0 < 0) = true := decide_eq_true h2
                  have HQ : Hid (fstV NM vars (j + 1) = (j : Int)) := by rw [HSt.out, if_pos ⟨h1, h2⟩]; exact Lib.hid rfl
                  clear h1 h2 HSt
                  go_wp2_with fail
                  go_roundg n8
                  case measure => omega
                  case rel => exact ⟨j + 1, by rw [HQ.out], by go_num, by omega, by omega, rfl⟩
                · have d2 : decide (Q0 < 0) = false := decide_eq_false h2
                  have HQ : Hid (fstV NM vars (j + 1) = Q0) := by rw [HSt.out, if_neg (fun h => h2 h.2)]; exact Lib.hid rfl
                  clear h1 h2 HSt
                  go_wp2_with fail
                  go_roundg n8
                  case measure => omega
                  case rel => exact ⟨j + 1, by rw [HQ.out], by go_num, by omega, by omega, rfl⟩
              · rw [decide_eq_false h1] at be
                have HQ : Hid (fstV NM vars (j + 1) = Q0) := by rw [HSt.out, if_neg (fun h => h1 h.1)]; exact Lib.hid rfl
                clear h1 HSt
                go_wp2_with fail
                go_roundg n8
                case measure => omega
                case rel => exact ⟨j + 1, by rw [HQ.out], by go_num, by omega, by omega, rfl⟩
            · have hjv : j = vars.length := by omega
              subst hjv
              have hfa := fst_all NM vars
              have HRq0 := HRp
              generalize fstV NM vars vars.length = Q0 at *
              have HD2 := Lib.hid HD1.out
              cases hvi : vIdx NM vars with
              | some i =>
                rw [hvi] at hfa
                dsimp only at hfa
                subst hfa
                have HDn : Hid (evRD ws col vars n s2 (l ++ [((i : Int), nv)]) = evRD ws col vars ws.length s7 []) := by
                  have h := HD1.out
                  rw [hvi] at h
                  exact Lib.hid h
                have d1 : decide ((i : Int) < 0) = false := decide_eq_false (by omega)
                have HRq := HRp
                have HOq := HOp
                clear hvi HD1 HD2 HRq0 HRp HOp
                go_upto_region 32 with fail

                have y4 : _ = some (Value.slice B l.length c) := HRq.out.ev.cell 4
                have yl := HRq.out.ev.lt
                have HBs := Lib.hid (((HRq.out.ex).alloc (.cells #[.int .i64 (i : Int), .int .i64 nv] 102)).below.size)
                go_wp2_with (at_builtin; refine wpList_append_one _ rfl _ _ 36 rfl w.heap.size 102 i0 _ 2 16 Tryz.underlying36 hi0 hz0 hz1 hz2 rfl (.slice B l.length c) l.length (asgV l) rfl (OwnO.ex HOq.out ((Ex.refl _).alloc _)) _ [.int .i64 (i : Int), .int .i64 nv] rfl rfl ?a1 ?a2 ?a3 ?a4 ?a5 ?_)
                try case a1 => exact news_new rfl (by simp)
                try case a2 => first | exact one_ints (by simp) | (intro u hu; simp only [List.mem_cons, List.not_mem_nil, or_false] at hu; rcases hu with rfl | rfl <;> rfl) | (simp [Value.oneCell']; done)
                try case a3 => omega
                try case a4 => omega
                try case a5 => first | (have hh := HBs.out; omega) | (have hh := HBs.out; simp at hh ⊢; omega)
                intro B' c' w12 ho hg hat hEx
                rw [asgV_snoc] at ho
                have hRa := HRq.out.exx ((Ex.refl _).alloc (.cells #[.int .i64 (i : Int), .int .i64 nv] 102))
                have hOa := HOq.out.ex ((Ex.refl _).alloc (.cells #[.int .i64 (i : Int), .int .i64 nv] 102))
                have hx12 := hEx w hRa.ex (Nat.le_refl _)
                have hR12 := hRa.chg (Chg.of_own hOa hg) hx12 (by decide) (by decide) (by decide)
                have hll' : (l ++ [((i : Int), nv)]).length = l.length + 1 := by simp
                have HL' := Lib.hid hll'
                rw [← hll'] at ho hat ⊢
                clear hll'
                have z4 : _ = some (Value.slice B l.length c) := hR12.ev.cell 4
                have zl := hR12.ev.lt
                have zf := hR12.ev.frozen 4
                have HR13 := Lib.hid (hR12.set 4 (.slice B' (l ++ [((i : Int), nv)]).length c'))
                have HO13 := Lib.hid (ho.chg (Chg.set ⟨_, hR12.ev⟩ 4 (.slice B' (l ++ [((i : Int), nv)]).length c')) (by decide))
                have HLen : Hid ((l ++ [((i : Int), nv)]).length ≤ 100000) := by show _ ≤ _; rw [HL'.out]; have := HLg.out; omega
                have HLg' : Hid ((l ++ [((i : Int), nv)]).length + n ≤ ws.length) := by show _ ≤ _; rw [HL'.out]; exact HLg.out
                clear ho hg hat hEx hRa hOa hx12 hR12 y4 yl
                generalize l ++ [((i : Int), nv)] = l2 at *
                go_wp2_with fail
                go_roundg n
                case measure => omega
                case rel => exact ⟨s2, l2, B', c', HLen.out, Lib.hid ⟨HDn.out, HLg'.out, fun _ => HAt.out⟩, Lib.hid ⟨HR13.out, HO13.out⟩⟩
              | none =>
                rw [hvi] at hfa
                dsimp only at hfa
                subst hfa
                have HDn : Hid (evRD ws col vars n ⟨s2.at_, 13, at9⟩ (l ++ [((-1 : Int), nv)]) = evRD ws col vars ws.length s7 []) := by
                  have h := HD1.out
                  rw [hvi] at h
                  exact Lib.hid h
                have d1 : decide ((-1 : Int) < 0) = true := by decide
                have e2 := HRp.out.rd.cell2
                have e3 := HRp.out.rd.cell3
                have rl := HRp.out.rd.lt
                have f2 := HRp.out.rd.frozen 2
                have f3 := HRp.out.rd.frozen 3
                have HRq := Lib.hid (HRp.out.err 13 at9)
                have hne := RrC.own_neB HOp.out HRp.out.rd (by decide)
                have HOq := Lib.hid ((HOp.out.set_ (p := ⟨g, 2, none⟩) hne (.int .i64 13)).set_ (p := ⟨g, 3, none⟩) hne (.int .i64 (at9 : Int)))
                clear hvi HD1 HD2 HRq0 HRp HOp hne
                go_upto_region 32 with fail
                generalize (wr.setCell ⟨g, 2, none⟩ (.int .i64 13)).setCell ⟨g, 3, none⟩ (.int .i64 (at9 : Int)) = w10 at *
                clear e2 e3 rl f2 f3

                have y4 : _ = some (Value.slice B l.length c) := HRq.out.ev.cell 4
                have yl := HRq.out.ev.lt
                have HBs := Lib.hid (((HRq.out.ex).alloc (.cells #[.int .i64 (-1 : Int), .int .i64 nv] 102)).below.size)
                go_wp2_with (at_builtin; refine wpList_append_one _ rfl _ _ 36 rfl w.heap.size 102 i0 _ 2 16 Tryz.underlying36 hi0 hz0 hz1 hz2 rfl (.slice B l.length c) l.length (asgV l) rfl (OwnO.ex HOq.out ((Ex.refl _).alloc _)) _ [.int .i64 (-1 : Int), .int .i64 nv] rfl rfl ?b1 ?b2 ?b3 ?b4 ?b5 ?_)
                try case b1 => exact news_new rfl (by simp)
                try case b2 => first | exact one_ints (by simp) | (intro u hu; simp only [List.mem_cons, List.not_mem_nil, or_false] at hu; rcases hu with rfl | rfl <;> rfl) | (simp [Value.oneCell']; done)
                try case b3 => omega
                try case b4 => omega
                try case b5 => first | (have hh := HBs.out; omega) | (have hh := HBs.out; simp at hh ⊢; omega)
                intro B' c' w12 ho hg hat hEx
                rw [asgV_snoc] at ho
                have hRa := HRq.out.exx ((Ex.refl _).alloc (.cells #[.int .i64 (-1 : Int), .int .i64 nv] 102))
                have hOa := HOq.out.ex ((Ex.refl _).alloc (.cells #[.int .i64 (-1 : Int), .int .i64 nv] 102))
                have hx12 := hEx w hRa.ex (Nat.le_refl _)
                have hR12 := hRa.chg (Chg.of_own hOa hg) hx12 (by decide) (by decide) (by decide)
                have hll' : (l ++ [((-1 : Int), nv)]).length = l.length + 1 := by simp
                have HL' := Lib.hid hll'
                rw [← hll'] at ho hat ⊢
                clear hll'
                have z4 : _ = some (Value.slice B l.length c) := hR12.ev.cell 4
                have zl := hR12.ev.lt
                have zf := hR12.ev.frozen 4
                have HR13 := Lib.hid (hR12.set 4 (.slice B' (l ++ [((-1 : Int), nv)]).length c'))
                have HO13 := Lib.hid (ho.chg (Chg.set ⟨_, hR12.ev⟩ 4 (.slice B' (l ++ [((-1 : Int), nv)]).length c')) (by decide))
                have HLen : Hid ((l ++ [((-1 : Int), nv)]).length ≤ 100000) := by show _ ≤ _; rw [HL'.out]; have := HLg.out; omega
                have HLg' : Hid ((l ++ [((-1 : Int), nv)]).length + n ≤ ws.length) := by show _ ≤ _; rw [HL'.out]; exact HLg.out
                clear ho hg hat hEx hRa hOa hx12 hR12 y4 yl
                generalize l ++ [((-1 : Int), nv)] = l2 at *
                go_wp2_with fail
                go_roundg n
                case measure => omega
                case rel => exact ⟨⟨s2.at_, 13, at9⟩, l2, B', c', HLen.out, Lib.hid ⟨HDn.out, HLg'.out, fun _ => HAt.out⟩, Lib.hid ⟨HR13.out, HO13.out⟩⟩
end
end
section
open Go.RowKit Nu
def RPcV (F : PcF) (B : Option Addr) (c : Nat) : Value := .tuple #[.agg #[.string (bs F.name), .slice B F.vars.length c, .slice none 0 0], .int .i64 F.s.e, .int .i64 (F.s.c : Int)]
/-- what the reference's process leaves -/
def RPcR (w : World) (F : PcF) (e : Ending) (w' : World) : Prop :=
  ∃ B c, e = .returned (RPcV F B c) ∧ OwnO w' w.heap.size 71 2 (.slice B F.vars.length c) F.vars.length (varV F.vars) ∧ Ex w w'
def z3 : List Value := [.string ⟨#[]⟩, .slice none 0 0, .slice none 0 0]
abbrev RE3 := REg 35 z3
theorem infoVrR : (Tryz.prog.info? 71).map (fun i => (i.zero, i.size, i.bytes)) = some (some (.agg #[.string ⟨#[]⟩, .int .i64 0]), 2, 24) := by kernel_rfl
theorem results_rpc {fn : Func} {p q s r : Nat} {a b c x y : Value} {w : World} {tmps : Array Value} (hr : fn.results = #[.cell p 35, .tmp q, .tmp s]) (hp : tmps.getD p undef = .pointer (some ⟨r, 0, none⟩)) (hq : tmps.getD q undef = x) (hs : tmps.getD s undef = y) (hB : Blk w r 35 [a, b, c]) :
    (results fn tmps).run Tryz.prog w = .ok (.tuple #[.agg #[a, b, c], x, y]) w := by
  have h0 : w.cell? ⟨r, 0, none⟩ = some a := hB.cell 0
  have h1 : w.cell? ⟨r, 1, none⟩ = some b := hB.cell 1
  have h2 : w.cell? ⟨r, 2, none⟩ = some c := hB.cell 2
  rw [Array.getD_eq_getD_getElem?] at hp hq hs
  simp [results, hr, hp, hq, hs, go_sem, h0, h1, h2]
def put3 (w : World) (g : Nat) (a b c : Value) : World := ((w.setCell ⟨g, 0, none⟩ a).setCell ⟨g, 1, none⟩ b).setCell ⟨g, 2, none⟩ c
theorem put3_blk {w : World} {g : Nat} {a b c : Value} (hB : Blk w g 35 z3) : Blk (put3 w g a b c) g 35 [a, b, c] := ((hB.set_ 0 a).set_ 1 b).set_ 2 c
theorem put3_ex {W w : World} {g : Nat} {a b c : Value} (hx : Ex W w) (hg : W.heap.size ≤ g) : Ex W (put3 w g a b c) :=
  ((hx.setCell (p := ⟨g, 0, none⟩) hg a).setCell (p := ⟨g, 1, none⟩) hg b).setCell (p := ⟨g, 2, none⟩) hg c
theorem put3_own {w : World} {g n base : Nat} {v : Value} {xs : List Value} {a b c : Value} (ho : OwnO w base 71 2 v n xs) (hB : Blk w g 35 z3) : OwnO (put3 w g a b c) base 71 2 v n xs := by
  have b1 := hB.set_ 0 a
  have b2 := b1.set_ 1 b
  exact ((ho.chg (Chg.set ⟨_, hB⟩ 0 a) (by decide)).chg (Chg.set ⟨_, b1⟩ 1 b) (by decide)).chg (Chg.set ⟨_, b2⟩ 2 c) (by decide)
/-- the end: the process is handed back -/
theorem rpcEnd {w wx : World} {rb g eb : Nat} {ws : List (List UInt8)} {p1 : List UInt8} {l : List (ByteArray × Int)} {B : Option Addr} {bc : Nat} {s : Rst} {tmps : Array Value} {cs : List Value}
    (hR : RE3 w rb g eb ws 1 cs s wx) (hO : OwnO wx w.heap.size 71 2 (.slice B l.length bc) l.length (varV l)) (hp : tmps.getD 2 undef = .pointer (some ⟨rb, 0, none⟩)) (hq : tmps.getD 3 undef = .int .i64 s.e) (hs : tmps.getD 4 undef = .int .i64 (s.c : Int)) :
    bodyPost Tryz.prog Tryz.f61 (RPcR w ⟨p1, l, s⟩) .ret ⟨tmps, []⟩ (put3 wx rb (.string (bs p1)) (.slice B l.length bc) (.slice none 0 0)).drew :=
  bodyPost_ret (results_rpc rfl hp hq hs (put3_blk hR.res).drew) rfl ⟨B, bc, rfl, (put3_own hO hR.res).ex (Ex.refl _).drew, (put3_ex hR.ex hR.lr).drew⟩
theorem pcRD_succ (ws : List (List UInt8)) (col n : Nat) (s : Rst) (l : List (ByteArray × Int)) (h : moreF ws s = true) : pcRD ws col (n + 1) s l = pcRD ws col n (pairR ws col s).2.2 (l ++ [(bs (pairR ws col s).1, (pairR ws col s).2.1)]) := by
  conv => lhs; unfold pcRD
  rw [h, if_pos rfl]
theorem varV_snoc (l : List (ByteArray × Int)) (a : ByteArray) (b : Int) : varV l ++ [.string a, .int .i64 b] = varV (l ++ [(a, b)]) := by unfold varV; rw [List.flatMap_append]; rfl
set_option maxRecDepth 100000 in
set_option maxHeartbeats 12800000 in
theorem rprocess_c (l : List UInt8) (w : World) (hl : l.length ≤ 20000) :
    Calls Tryz.prog 61 #[.string (bs l)] w (RPcR w (pcR (spl 32 l) (1 + l.length) (spl 32 l).length ⟨0, 0, 0⟩)) := by
  obtain ⟨i0, hi0, hz0, hz1, hz2⟩ := info_parts infoVrR
  obtain ⟨hsl, hsw⟩ := spl_lens 32 l
  have hwl := wsL_spl 32 l
  have hsz : (bs l).size = l.length := rfl
  have HWd := Lib.hid (fun w' => words_c (bs l) w' (by show l.length ≤ _; omega))
  have hbl : (bs l).data.toList = l := rfl
  rw [hbl] at HWd
  have hpos : 0 < (spl 32 l).length := List.length_pos_iff.2 (spl_ne 32 l)
  obtain ⟨F, hF⟩ : ∃ F, F = pcR (spl 32 l) (1 + l.length) (spl 32 l).length ⟨0, 0, 0⟩ := ⟨_, rfl⟩
  rw [← hF]
  have q1 : IntKind.i64.wrap (1 + (l.length : Int)) = ((1 + l.length : Nat) : Int) := by rw [show 1 + (l.length : Int) = ((1 + l.length : Nat) : Int) by omega]; exact IntWalk.i64_in _ (by omega)
  generalize spl 32 l = ws at *
  have hcw : 1 + wsL ws ≤ 200000 := by omega
  generalize 1 + l.length = en at *
  have hws : ∀ w ∈ ws, w.length ≤ 20000 := fun x hx => Nat.le_trans (hsw x hx) (by omega)
  have HNx := Lib.hid (fun g s w' (h : RrC w' w.heap.size g ws 1 s) => rnext_c w.heap.size g ws 1 s w' h)
  have HFl := Lib.hid (fun g E s w' (h : RrC w' w.heap.size g ws 1 s) => rfail_c w.heap.size g ws 1 E s w' h)
  have HSk := Lib.hid (fun g s w' (h : RrC w' w.heap.size g ws 1 s) => rskip_c w.heap.size g ws 1 s w' h hcw)
  have HMi := Lib.hid (fun g s w' (h : RrC w' w.heap.size g ws 1 s) => rmissing_c w.heap.size g ws 1 en s w' h)
  have HNm := Lib.hid (fun g s w' (h : RrC w' w.heap.size g ws 1 s) => rname_r w.heap.size g ws 1 hws hcw s w' h)
  have HPr := Lib.hid (fun g s w' (h : RrC w' w.heap.size g ws 1 s) => rpair_c w.heap.size g ws 1 hws hcw s w' h)
  unfold Rrr at *
  have HF := Lib.hid hF
  have hwsl : ws.length ≤ 30000 := by omega
  have hz1' : ∀ (X : World) (o : Obj), (X.alloc o).heap.size = X.heap.size + 1 := fun X o => Array.size_push _
  have hB0 := Blk.new w 35 z3
  have hX0 : Ex w (w.alloc (.cells z3.toArray 35)) := (Ex.refl w).alloc _
  have HRd0 : Hid (∀ (w1 : World) (D : Option Addr) (dc : Nat), Ex (w.alloc (.cells z3.toArray 35)) w1 → OwnO w1 (w.alloc (.cells z3.toArray 35)).heap.size 9 1 (.slice D ws.length dc) ws.length (strV ws) →
      RE3 w w.heap.size w1.heap.size (w1.heap.size + 1) ws 1 z3 ⟨0, 0, 0⟩ ((w1.alloc (.cells #[.slice D ws.length dc, .int .i64 1, .int .i64 0, .int .i64 0] 156)).alloc (.cells z3.toArray 35))) := fun w1 D dc hx ho => by
    have hlt := hx.below.size
    rw [hz1'] at hlt
    have hb1 := (Blk.new w1 156 [.slice D ws.length dc, .int .i64 1, .int .i64 0, .int .i64 0])
    have hb2 := Blk.new (w1.alloc (.cells #[.slice D ws.length dc, .int .i64 1, .int .i64 0, .int .i64 0] 156)) 35 z3
    rw [hz1'] at hb2
    have hxx : Ex w1 ((w1.alloc (.cells #[.slice D ws.length dc, .int .i64 1, .int .i64 0, .int .i64 0] 156)).alloc (.cells z3.toArray 35)) := ((Ex.refl w1).alloc _).alloc _
    refine ⟨hb2, (hB0.ex hx).ex hxx, ⟨D, dc, Nat.zero_le _, ?_, ?_⟩, (hX0.trans hx).trans hxx, Nat.le_refl _, by omega, by omega, by omega, by omega, by omega⟩
    · have := hb1.alloc (.cells z3.toArray 35)
      rw [colA_zero]
      exact this
    · have := (ho.ex hxx).mono (b := w.heap.size) (by rw [hz1']; omega)
      exact this
  unfold z3 at HRd0
  clear hF hsw hwl hcw hws hB0 hX0 hbl hz1'
  clear hpos
  go_enter Tryz.func61, Tryz.ntmps61
  go_wp2_with fail
  refine (HWd.out _).mono ?_
  rintro e9 w1 ⟨D, dc, rfl, ho, hx⟩
  have HR0 := Lib.hid (HRd0.out w1 D dc hx ho)
  clear ho hx HRd0 HWd
  go_upto_region 3 with fail
  generalize (w1.alloc (.cells #[.slice D ws.length dc, .int .i64 1, .int .i64 0, .int .i64 0] 156)).alloc (.cells #[.string ⟨#[]⟩, .slice none 0 0, .slice none 0 0] 35) = W2 at *
  generalize w1.heap.size + 1 = eb at *
  generalize w1.heap.size = g at *
  go_wp2_with fail
  refine (HNx.out g _ _ HR0.out.rd).mono ?_
  rintro e9 w2 ⟨rfl, hx⟩
  have HR1 := Lib.hid (HR0.out.exx hx)
  clear hx HR0
  go_upto_if 15 with fail
  go_cut [] from 13 (fun wx => ∃ (s : Rst), Hid (skipR ws s = pcRA ws 1 ⟨0, 0, 0⟩) ∧ Hid (RE3 w w.heap.size g eb ws 1 [.string ⟨#[]⟩, .slice none 0 0, .slice none 0 0] s wx))
  case first =>
    obtain ⟨-, -, -, b4⟩ := kind_str (nextR ws ⟨0, 0, 0⟩)
    have HEA : Hid (pcRA ws 1 ⟨0, 0, 0⟩ = skipR ws (if nextR ws ⟨0, 0, 0⟩ = wProcess then ⟨0, 0, 0⟩ else failR ws 1 3 ⟨0, 0, 0⟩)) := rfl
    generalize nextR ws ⟨0, 0, 0⟩ = l0 at *
    by_cases h1 : l0 = wProcess
    · rw [decide_eq_true h1] at b4
      have HEq : Hid (skipR ws ⟨0, 0, 0⟩ = pcRA ws 1 ⟨0, 0, 0⟩) := by rw [HEA.out, if_pos h1]; exact Lib.hid rfl
      clear h1
      rw [b4]
      go_wp2_with fail
      go_meet
      case rel => exact ⟨_, HEq, HR1⟩
    · rw [decide_eq_false h1] at b4
      have HEq : Hid (skipR ws (failR ws 1 3 ⟨0, 0, 0⟩) = pcRA ws 1 ⟨0, 0, 0⟩) := by rw [HEA.out, if_neg h1]; exact Lib.hid rfl
      have HFs := Lib.hid (HFl.out g 3 ⟨0, 0, 0⟩ _ HR1.out.rd)
      clear h1
      rw [b4]
      go_wp2_with fail
      refine (HFs.out).mono ?_
      rintro e9 w3 ⟨rfl, g1, g2⟩
      have HR3 := Lib.hid (HR1.out.call g1 g2)
      clear g1 g2
      go_wp2_with fail
      go_meet
      case rel => exact ⟨_, HEq, HR3⟩
  case rest =>
    clear HR1
    obtain ⟨s0, HK, HC0⟩ := hcut
    have HSs := Lib.hid (HSk.out g s0 _ HC0.out.rd)
    generalize skipR ws s0 = s at *
    go_wp2_with fail
    refine (HSs.out).mono ?_
    rintro e9 w3 ⟨rfl, g1, g2⟩
    have HC := Lib.hid (HC0.out.call g1 g2)
    clear g1 g2 HC0 HSs
    have HFq : Hid (F = ⟨(nameR ws 1 (missR ws en s)).1, (pcRD ws 1 ws.length (nameR ws 1 (missR ws en s)).2 []).1, (pcRD ws 1 ws.length (nameR ws 1 (missR ws en s)).2 []).2⟩) := by
      rw [HF.out, HK.out]
      exact Lib.hid rfl
    clear HK HF
    have HM1 := Lib.hid (HMi.out g s _ HC.out.rd)
    generalize missR ws en s = s5 at *
    have HN5 := Lib.hid (fun w' (h : RrC w' w.heap.size g ws 1 s5) => HNm.out g s5 w' h)
    generalize nameR ws 1 s5 = Q at *
    obtain ⟨p1, s7⟩ := Q
    dsimp only at *
    go_wp2_with fail
    refine (HM1.out).mono ?_
    rintro e9 w4 ⟨rfl, g1, g2⟩
    have HR3 := Lib.hid (HC.out.call g1 g2)
    clear g1 g2 HC HM1
    go_wp2_with fail
    refine (HN5.out _ HR3.out.rd).mono ?_
    rintro e9 w5 ⟨rfl, g1, g2⟩
    have HR4 := Lib.hid (HR3.out.call g1 g2)
    clear g1 g2 HR3 HN5
    have yf := HR4.out.ev.frozen 0
    have yl := HR4.out.ev.lt
    have y0 : w5.cell? ⟨eb, 0, none⟩ = some (.string ⟨#[]⟩) := HR4.out.ev.cell 0
    have HR5 := Lib.hid (HR4.out.set 0 (.string (bs p1)))
    clear HMi HNm HNx HFl HSk HR4
    go_wp2_with fail
    clear yf yl y0
    go_loopg [7] ws.length (fun gg _ w8 => ∃ (s : Rst) (l : List (ByteArray × Int)) (B : Option Addr) (c : Nat), l.length ≤ 100000 ∧ Hid (pcRD ws 1 gg s l = pcRD ws 1 ws.length s7 [] ∧ l.length + gg ≤ ws.length ∧ (s.e = 0 → ws.length ≤ gg + s.at_)) ∧
        Hid (RE3 w w.heap.size g eb ws 1 [.string (bs p1), .slice B l.length c, .slice none 0 0] s w8 ∧ OwnO w8 w.heap.size 71 2 (.slice B l.length c) l.length (varV l)))
    case atStart => exact ⟨s7, [], none, 0, by simp, Lib.hid ⟨rfl, by simp, fun _ => by omega⟩, Lib.hid ⟨HR5.out, OwnO.nil _ _ _ _⟩⟩
    case round =>
      obtain ⟨s, l, B, c, hll, HD, HH⟩ := hrel
      have HR := Lib.hid HH.out.1
      have HO := Lib.hid HH.out.2
      clear HH HR5
      have e2 := HR.out.rd.cell2
      obtain ⟨Dw, dw, e0, -⟩ := HR.out.rd.cell0
      have rl := HR.out.rd.lt
      cases hm : moreF ws s with
      | false =>
        have HFin : Hid (F = ⟨p1, l, s⟩) := by
          rw [HFq.out, ← HD.out.1]
          cases gk with
          | zero => exact Lib.hid rfl
          | succ n =>
            unfold pcRD
            rw [hm]
            exact Lib.hid rfl
        have hmo : s.e ≠ 0 ∨ (s.e = 0 ∧ ws.length - s.at_ = 0) := by
          unfold moreF at hm
          by_cases he : s.e = 0
          · right
            refine ⟨he, ?_⟩
            by_cases ha : s.at_ < ws.length
            · rw [decide_eq_true he, decide_eq_true ha] at hm; cases hm
            · omega
          · exact .inl he
        clear hm HFq HD HPr
        rcases hmo with he | ⟨he, hn⟩
        · have b1 : (s.e == 0) = false := beq_eq_false_iff_ne.2 he
          clear he
          go_wp2_with fail
          clear e0 rl

          have hre := HR.out
          have e2 := hre.rd.cell2
          have e3 := hre.rd.cell3
          have rl := hre.rd.lt
          have v0 : _ = some (Value.string (bs p1)) := hre.ev.cell 0
          have v1 : _ = some (Value.slice B l.length c) := hre.ev.cell 1
          have v2 : _ = some (Value.slice none 0 0) := hre.ev.cell 2
          have vl := hre.ev.lt
          have u0 : _ = some (Value.string ⟨#[]⟩) := hre.res.cell 0
          have u1 : _ = some (Value.slice none 0 0) := hre.res.cell 1
          have u2 : _ = some (Value.slice none 0 0) := hre.res.cell 2
          have ul := hre.res.lt
          have f0 := hre.res.frozen 0
          have f1 := hre.res.frozen 1
          have f2 := hre.res.frozen 2
          have n1 := hre.ne1
          have n1' := hre.ne1.symm
          have n2 := hre.ne2
          have n2' := hre.ne2.symm
          have n3 := hre.ne3
          have n3' := hre.ne3.symm
          clear hre
          go_upto_region 11 with fail
          go_region
          go_wp2_with fail
          rw [HFin.out]
          exact rpcEnd HR.out HO.out rfl (by first | rfl | (rw [he]; rfl)) rfl
        · rw [hn] at e0
          rw [he] at e2
          go_wp2_with fail
          clear e0 e2 rl

          have hre := HR.out
          have e2 := hre.rd.cell2
          have e3 := hre.rd.cell3
          have rl := hre.rd.lt
          have v0 : _ = some (Value.string (bs p1)) := hre.ev.cell 0
          have v1 : _ = some (Value.slice B l.length c) := hre.ev.cell 1
          have v2 : _ = some (Value.slice none 0 0) := hre.ev.cell 2
          have vl := hre.ev.lt
          have u0 : _ = some (Value.string ⟨#[]⟩) := hre.res.cell 0
          have u1 : _ = some (Value.slice none 0 0) := hre.res.cell 1
          have u2 : _ = some (Value.slice none 0 0) := hre.res.cell 2
          have ul := hre.res.lt
          have f0 := hre.res.frozen 0
          have f1 := hre.res.frozen 1
          have f2 := hre.res.frozen 2
          have n1 := hre.ne1
          have n1' := hre.ne1.symm
          have n2 := hre.ne2
          have n2' := hre.ne2.symm
          have n3 := hre.ne3
          have n3' := hre.ne3.symm
          clear hre
          go_upto_region 11 with fail
          go_region
          go_wp2_with fail
          rw [HFin.out]
          exact rpcEnd HR.out HO.out rfl (by first | rfl | (rw [he]; rfl)) rfl
      | true =>
        have hm2 : s.e = 0 ∧ s.at_ < ws.length := by
          unfold moreF at hm
          simpa using hm
        have hAd := pair_adv ws 1 s hm2.1 hm2.2
        have hgk := HD.out.2.2 hm2.1
        obtain ⟨n, rfl⟩ : ∃ n, gk = n + 1 := ⟨gk - 1, by omega⟩
        have hD1 := HD.out.1
        rw [pcRD_succ ws 1 n s l hm] at hD1
        have hlg := HD.out.2.1
        have HPs := Lib.hid (HPr.out g s _ HR.out.rd)
        obtain ⟨m, hmm⟩ : ∃ m, ws.length - s.at_ = m + 1 := ⟨ws.length - s.at_ - 1, by omega⟩
        rw [hmm] at e0
        rw [hm2.1] at e2
        have t1 : decide ((0 : Int) < (m : Int) + 1) = true := decide_eq_true (by omega)
        have m8 : (0 : Int) < (m : Int) + 1 := by omega
        generalize pairR ws 1 s = M at *
        obtain ⟨nm, nv, s2⟩ := M
        dsimp only at *
        generalize bs nm = NM at *
        have HDn := Lib.hid hD1
        have HAt : Hid (ws.length ≤ n + s2.at_) := Lib.hid (by omega)
        have HLg : Hid (l.length + 1 + n ≤ ws.length) := Lib.hid (by omega)
        clear hm HD hmm hD1 hm2 hAd hgk hlg
        go_wp2_with fail
        refine (HPs.out).mono ?_
        rintro e9 w9 ⟨rfl, g1, g2⟩
        have HRq := Lib.hid (HR.out.call g1 g2)
        have hrd := HR.out.rd
        have HOq : Hid (OwnO w9 w.heap.size 71 2 (.slice B l.length c) l.length (varV l)) := by
          obtain ⟨_, _, _, hb, _⟩ := hrd
          exact Lib.hid (HO.out.kept g2.grown (.inr fun e => OwnO.ne HO.out hb (by decide) e.symm))
        clear g1 g2 e0 e2 rl HR HO HPs hrd t1 m8
        have y1 : _ = some (Value.slice B l.length c) := HRq.out.ev.cell 1
        have yl := HRq.out.ev.lt
        have HBs := Lib.hid (((HRq.out.ex).alloc (.cells #[.string NM, .int .i64 nv] 71)).below.size)
        go_wp2_with (at_builtin; refine wpList_append_one _ rfl _ _ 32 rfl w.heap.size 71 i0 _ 2 24 Tryz.underlying32 hi0 hz0 hz1 hz2 rfl (.slice B l.length c) l.length (varV l) rfl (OwnO.ex HOq.out ((Ex.refl _).alloc _)) _ [.string NM, .int .i64 nv] rfl rfl ?a1 ?a2 ?a3 ?a4 ?a5 ?_)
        try case a1 => exact news_new rfl (by simp)
        try case a2 => first | (intro u hu; simp only [List.mem_cons, List.not_mem_nil, or_false] at hu; rcases hu with rfl | rfl <;> rfl) | (simp [Value.oneCell']; done)
        try case a3 => omega
        try case a4 => omega
        try case a5 => first | (have hh := HBs.out; omega) | (have hh := HBs.out; simp at hh ⊢; omega)
        intro B' c' w12 ho hg hat hEx
        rw [varV_snoc] at ho
        have hRa := HRq.out.exx ((Ex.refl _).alloc (.cells #[.string NM, .int .i64 nv] 71))
        have hOa := HOq.out.ex ((Ex.refl _).alloc (.cells #[.string NM, .int .i64 nv] 71))
        have hx12 := hEx w hRa.ex (Nat.le_refl _)
        have hR12 := hRa.chg (Chg.of_own hOa hg) hx12 (by decide) (by decide) (by decide)
        have hll' : (l ++ [(NM, nv)]).length = l.length + 1 := by simp
        have HL' := Lib.hid hll'
        rw [← hll'] at ho hat ⊢
        clear hll'
        have z1 : _ = some (Value.slice B l.length c) := hR12.ev.cell 1
        have zl := hR12.ev.lt
        have zf := hR12.ev.frozen 1
        have HR13 := Lib.hid (hR12.set 1 (.slice B' (l ++ [(NM, nv)]).length c'))
        have HO13 := Lib.hid (ho.chg (Chg.set ⟨_, hR12.ev⟩ 1 (.slice B' (l ++ [(NM, nv)]).length c')) (by decide))
        have HLen : Hid ((l ++ [(NM, nv)]).length ≤ 100000) := by show _ ≤ _; rw [HL'.out]; have := HLg.out; omega
        have HLg' : Hid ((l ++ [(NM, nv)]).length + n ≤ ws.length) := by show _ ≤ _; rw [HL'.out]; exact HLg.out
        clear ho hg hat hEx hRa hOa hx12 hR12 y1 yl
        generalize l ++ [(NM, nv)] = l2 at *
        go_wp2_with fail
        go_roundg n
        case measure => omega
        case rel => exact ⟨s2, l2, B', c', HLen.out, Lib.hid ⟨HDn.out, HLg'.out, fun _ => HAt.out⟩, Lib.hid ⟨HR13.out, HO13.out⟩⟩
end
section
open Go.RowKit Nu
structure PY (w : World) (rb pb tb : Nat) (ln : List Nat) (L : Option Addr) (lc : Nat) (Q : Option Addr) (qc : Nat) (S : Option Addr) (sc : Nat) (wr : World) (A : Option Addr) (ac : Nat) (ms : List PM) (rq rs : List Sl) : Prop where
  pw : PW w rb pb tb ln L lc none 0 wr A ac ms []
  sq : Sd wr rb 93 3 1 Q qc rq
  ss : Sd wr rb 120 117 7 S sc rs
  ap : ∀ r ∈ rq, Apart ⟨.slice L ln.length lc, ln.length, lnV ln⟩ r
section
variable {w wr w1 : World} {rb pb tb : Nat} {ln : List Nat} {L : Option Addr} {lc : Nat} {Q : Option Addr} {qc : Nat} {S : Option Addr} {sc : Nat} {A : Option Addr} {ac : Nat} {ms : List PM} {rq rs : List Sl}
theorem PW.other {T : TypeId} {row : Option Nat} (h : PW w rb pb tb ln L lc none 0 wr A ac ms []) (hc : Chg T wr w1 row) (hx : Ex w w1) (hl : OwnO w1 rb 3 1 (.slice L ln.length lc) ln.length (lnV ln)) (t1 : 24 ≠ T) (t2 : 35 ≠ T) (t3 : 71 ≠ T) (t4 : 38 ≠ T) (t5 : 102 ≠ T) (t6 : 48 ≠ T) :
    PW w rb pb tb ln L lc none 0 w1 A ac ms [] :=
  ⟨⟨h.px.cell.chg hc t1, h.px.tp.chg hc t2 t3 t4 t5, hl, Sd.nil _ _ _ _ _⟩, h.res.chg hc t1, h.pos.chg hc t6, hx, h.le, h.ne, h.let_⟩
theorem PY.exx (h : PY w rb pb tb ln L lc Q qc S sc wr A ac ms rq rs) (hx : Ex wr w1) : PY w rb pb tb ln L lc Q qc S sc w1 A ac ms rq rs := ⟨h.pw.exx hx, h.sq.ex hx, h.ss.ex hx, h.ap⟩
/-- an event more -/
theorem PY.ev {m0 : List PM} {m : PM} {x : ME} {E' : Option Addr} {ec' ga oa : Nat} (h : PY w rb pb tb ln L lc Q qc S sc wr (some ⟨ga, oa, none⟩) ac (m0 ++ [m]) rq rs) (hg : wr.grownBy w1 m.evSl.v.ownBlock)
    (ho : OwnO w1 rb 38 5 (.slice E' (m.mes.length + 1) ec') (m.mes.length + 1) (evsV m.mes ++ meV x)) (hat : (Value.slice E' (m.mes.length + 1) ec').ownBlock = m.evSl.v.ownBlock ∨ (Value.slice E' (m.mes.length + 1) ec').ownBlock = some wr.heap.size) (hx : MeO wr rb x) :
    PY w rb pb tb ln L lc Q qc S sc (w1.setCell ⟨ga, oa + (m0.length * 3 + 2), none⟩ (.slice E' (m.mes.length + 1) ec')) (some ⟨ga, oa, none⟩) ac (m0 ++ [{ m with mes := m.mes ++ [x], E := E', ec := ec' }]) rq rs := by
  have hm := h.pw.px.tp.evs m (by simp)
  have hc1 := Chg.of_own hm hg
  have hp1 := h.pw.px.tp.procs.chg hc1 (by decide)
  have hc2 := Chg.set hp1.rw_ (oa + (m0.length * 3 + 2)) (.slice E' (m.mes.length + 1) ec')
  exact ⟨h.pw.ev hg ho hat hx, (h.sq.chg hc1 (by decide) (by decide)).chg hc2 (by decide) (by decide), (h.ss.chg hc1 (by decide) (by decide)).chg hc2 (by decide) (by decide), h.ap⟩
/-- the event as it was read -/
theorem PY.se {r0 : List Sl} {r r' : Sl} {gs os : Nat} (h : PY w rb pb tb ln L lc Q qc (some ⟨gs, os, none⟩) sc wr A ac ms rq (r0 ++ [r])) (hg : wr.grownBy w1 r.v.ownBlock) (ho : r'.own w1 rb 117 7) (hat : r'.v.ownBlock = r.v.ownBlock ∨ r'.v.ownBlock = some wr.heap.size) :
    PY w rb pb tb ln L lc Q qc (some ⟨gs, os, none⟩) sc (w1.setCell ⟨gs, os + r0.length, none⟩ r'.v) A ac ms rq (r0 ++ [r']) := by
  have hr := h.ss.row r (by simp)
  have hc1 := Chg.of_own hr hg
  obtain ⟨hO, hR, hS⟩ := h.ss.grow (by decide) hg ho hat
  have hc2 := Chg.set hO.rw_ (os + r0.length) r'.v
  have hx1 := h.pw.ex.grown hg fun k hk => Nat.le_trans h.pw.le (OwnO.lt hr k hk).1
  have hx2 := hx1.setCell (p := ⟨gs, os + r0.length, none⟩) (Nat.le_trans h.pw.le (hO.lt gs rfl).1) r'.v
  have hl := (h.pw.px.lines.chg hc1 (by decide)).chg hc2 (by decide)
  exact ⟨(h.pw.other hc1 hx1 (h.pw.px.lines.chg hc1 (by decide)) (by decide) (by decide) (by decide) (by decide) (by decide) (by decide)).other hc2 hx2 hl (by decide) (by decide) (by decide) (by decide) (by decide) (by decide),
    (h.sq.chg hc1 (by decide) (by decide)).chg hc2 (by decide) (by decide), Sd.done (by decide) hO hR hS, h.ap⟩
/-- where it is written -/
theorem PY.seAt {r0 : List Sl} {r : Sl} {gs os : Nat} (h : PY w rb pb tb ln L lc Q qc (some ⟨gs, os, none⟩) sc wr A ac ms rq (r0 ++ [r])) (hg : wr.grownBy w1 r.v.ownBlock) :
    w1.cell? ⟨gs, os + r0.length, none⟩ = some r.v ∧ (∀ j, w1.frozen? ⟨gs, j, none⟩ = false) ∧ gs < w1.heap.size := by
  have hO := h.ss.outer.chg (Chg.of_own (h.ss.row r (by simp)) hg) (by decide)
  exact ⟨hO.at_ (j := r0.length) (by simp), fun j => hO.froze j, (hO.lt gs rfl).2⟩
/-- the event's line -/
theorem PY.sl {r0 : List Sl} {r r' : Sl} {gq oq : Nat} (h : PY w rb pb tb ln L lc (some ⟨gq, oq, none⟩) qc S sc wr A ac ms (r0 ++ [r]) rs) (hg : wr.grownBy w1 r.v.ownBlock) (ho : r'.own w1 rb 3 1) (hat : r'.v.ownBlock = r.v.ownBlock ∨ r'.v.ownBlock = some wr.heap.size) :
    PY w rb pb tb ln L lc (some ⟨gq, oq, none⟩) qc S sc (w1.setCell ⟨gq, oq + r0.length, none⟩ r'.v) A ac ms (r0 ++ [r']) rs := by
  have hr := h.sq.row r (by simp)
  have hc1 := Chg.of_own hr hg
  obtain ⟨hO, hR, hS⟩ := h.sq.grow (by decide) hg ho hat
  have hc2 := Chg.set hO.rw_ (oq + r0.length) r'.v
  have hx1 := h.pw.ex.grown hg fun k hk => Nat.le_trans h.pw.le (OwnO.lt hr k hk).1
  have hx2 := hx1.setCell (p := ⟨gq, oq + r0.length, none⟩) (Nat.le_trans h.pw.le (hO.lt gq rfl).1) r'.v
  have hap := h.ap r (by simp)
  have hl1 : OwnO w1 rb 3 1 (.slice L ln.length lc) ln.length (lnV ln) := OwnO.kept h.pw.px.lines hg hap.row
  have hl := hl1.chg hc2 (by decide)
  refine ⟨(h.pw.other hc1 hx1 hl1 (by decide) (by decide) (by decide) (by decide) (by decide) (by decide)).other hc2 hx2 hl (by decide) (by decide) (by decide) (by decide) (by decide) (by decide),
    Sd.done (by decide) hO hR hS, (h.ss.chg hc1 (by decide) (by decide)).chg hc2 (by decide) (by decide), fun x hx => ?_⟩
  rcases List.mem_append.1 hx with hx | hx
  · exact h.ap x (List.mem_append_left _ hx)
  · rw [List.mem_singleton.1 hx]
    exact hap.push h.pw.px.lines hat
theorem PY.slAt {r0 : List Sl} {r : Sl} {gq oq : Nat} (h : PY w rb pb tb ln L lc (some ⟨gq, oq, none⟩) qc S sc wr A ac ms (r0 ++ [r]) rs) (hg : wr.grownBy w1 r.v.ownBlock) :
    w1.cell? ⟨gq, oq + r0.length, none⟩ = some r.v ∧ (∀ j, w1.frozen? ⟨gq, j, none⟩ = false) ∧ gq < w1.heap.size := by
  have hO := h.sq.outer.chg (Chg.of_own (h.sq.row r (by simp)) hg) (by decide)
  exact ⟨hO.at_ (j := r0.length) (by simp), fun j => hO.froze j, (hO.lt gq rfl).2⟩
/-- a process more -/
theorem PY.pr {m : PM} {A' : Option Addr} {ac' : Nat} (h : PY w rb pb tb ln L lc Q qc S sc wr A ac ms rq rs) (hg : wr.grownBy w1 (Value.slice A ms.length ac).ownBlock)
    (ho : OwnO w1 rb 35 3 (.slice A' (ms.length + 1) ac') (ms.length + 1) (ms.flatMap procV ++ procV m)) (hm : m.mes = []) (hE : m.E = none ∧ m.ec = 0) (hv : OwnO wr rb 71 2 (.slice m.V m.vars.length m.vc) m.vars.length (varV m.vars)) :
    PY w rb pb tb ln L lc Q qc S sc (w1.setCell ⟨tb, 0, none⟩ (.slice A' (ms.length + 1) ac')) A' ac' (ms ++ [m]) rq rs := by
  have hc1 := Chg.of_own h.pw.px.tp.procs hg
  have hb := h.pw.px.cell.chg hc1 (by decide)
  have hc2 : Chg 24 w1 (w1.setCell ⟨tb, 0, none⟩ (.slice A' (ms.length + 1) ac')) (some tb) := Chg.set ⟨_, hb⟩ 0 _
  exact ⟨h.pw.pr hg ho hm hE hv, (h.sq.chg hc1 (by decide) (by decide)).chg hc2 (by decide) (by decide), (h.ss.chg hc1 (by decide) (by decide)).chg hc2 (by decide) (by decide), h.ap⟩
/-- a line more -/
theorem PY.line_ {n : Nat} {L' : Option Addr} {lc' : Nat} (h : PY w rb pb tb ln L lc Q qc S sc wr A ac ms rq rs) (hg : wr.grownBy w1 (Value.slice L ln.length lc).ownBlock) (ho : OwnO w1 rb 3 1 (.slice L' (ln.length + 1) lc') (ln.length + 1) (lnV ln ++ [.int .i64 (n : Int)]))
    (hat : (Value.slice L' (ln.length + 1) lc').ownBlock = (Value.slice L ln.length lc).ownBlock ∨ (Value.slice L' (ln.length + 1) lc').ownBlock = some wr.heap.size) :
    PY w rb pb tb (ln ++ [n]) L' lc' Q qc S sc w1 A ac ms rq rs := by
  have hc := Chg.of_own h.pw.px.lines hg
  refine ⟨h.pw.line_ hg ho, ⟨h.sq.outer.chg hc (by decide), fun r hr => OwnO.kept (h.sq.row r hr) hg (h.ap r hr).symm.row, h.sq.sep⟩, h.ss.chg hc (by decide) (by decide), fun r hr => ?_⟩
  have h1 := (h.ap r hr).symm.push (b' := ⟨.slice L' (ln ++ [n]).length lc', (ln ++ [n]).length, lnV (ln ++ [n])⟩) (h.sq.row r hr) (by
    have e : (ln ++ [n]).length = ln.length + 1 := by simp
    rw [e]
    exact hat)
  exact h1.symm
/-- empty rows more -/
theorem PY.rs_ {S' : Option Addr} {sc' : Nat} (h : PY w rb pb tb ln L lc Q qc S sc wr A ac ms rq rs) (hg : wr.grownBy w1 (Value.slice S rs.length sc).ownBlock) (ho : OwnO w1 rb 120 1 (.slice S' (rs.length + 1) sc') (rs.length + 1) (rs.map (·.v) ++ [.slice none 0 0])) :
    PY w rb pb tb ln L lc Q qc S' sc' w1 A ac ms rq (rs ++ [⟨.slice none 0 0, 0, []⟩]) := by
  have hc := Chg.of_own h.ss.outer hg
  have hx1 := h.pw.ex.grown hg fun k hk => Nat.le_trans h.pw.le (h.ss.outer.lt k hk).1
  exact ⟨h.pw.other hc hx1 (h.pw.px.lines.chg hc (by decide)) (by decide) (by decide) (by decide) (by decide) (by decide) (by decide), h.sq.chg hc (by decide) (by decide), h.ss.snoc (by decide) hg ho, h.ap⟩
theorem PY.rq_ {Q' : Option Addr} {qc' : Nat} (h : PY w rb pb tb ln L lc Q qc S sc wr A ac ms rq rs) (hg : wr.grownBy w1 (Value.slice Q rq.length qc).ownBlock) (ho : OwnO w1 rb 93 1 (.slice Q' (rq.length + 1) qc') (rq.length + 1) (rq.map (·.v) ++ [.slice none 0 0])) :
    PY w rb pb tb ln L lc Q' qc' S sc w1 A ac ms (rq ++ [⟨.slice none 0 0, 0, []⟩]) rs := by
  have hc := Chg.of_own h.sq.outer hg
  have hx1 := h.pw.ex.grown hg fun k hk => Nat.le_trans h.pw.le (h.sq.outer.lt k hk).1
  refine ⟨h.pw.other hc hx1 (h.pw.px.lines.chg hc (by decide)) (by decide) (by decide) (by decide) (by decide) (by decide) (by decide), h.sq.snoc (by decide) hg ho, h.ss.chg hc (by decide) (by decide), fun x hx => ?_⟩
  rcases List.mem_append.1 hx with hx | hx
  · exact h.ap x hx
  · rw [List.mem_singleton.1 hx]
    exact Apart.nil _
/-- a peer is written -/
theorem PY.peer {p i : Nat} {m : PM} {x : ME} {ge oe : Nat} (q : Int) (h : PY w rb pb tb ln L lc Q qc S sc wr A ac ms rq rs) (hp : ms[p]? = some m) (hi : m.mes[i]? = some x) (hE : m.E = some ⟨ge, oe, none⟩) :
    PY w rb pb tb ln L lc Q qc S sc (wr.setCell ⟨ge, oe + (i * 5 + 1), none⟩ (.int .i64 q)) A ac (ms.set p { m with mes := m.mes.set i (x.tq q) }) rq rs := by
  have hm := h.pw.px.tp.evs m (List.mem_of_getElem? hp)
  unfold Sl.own PM.evSl at hm
  rw [hE] at hm
  have hc := Chg.set hm.rw_ (oe + (i * 5 + 1)) (.int .i64 q)
  exact ⟨h.pw.peer q hp hi hE, h.sq.chg hc (by decide) (by decide), h.ss.chg hc (by decide) (by decide), h.ap⟩
end
/-- a table's cell, and a row's cell -/
theorem Sd.at_ {w : World} {base tq ti sz : Nat} {Q : Option Addr} {qc : Nat} {rows : List Sl} {k : Nat} {r : Sl} (h : Sd w base tq ti sz Q qc rows) (hr : rows[k]? = some r) : ∃ gq oq, Q = some ⟨gq, oq, none⟩ ∧ gq < w.heap.size ∧ rows.length ≤ qc ∧ w.cell? ⟨gq, oq + k, none⟩ = some r.v := by
  have hk := (List.getElem?_eq_some_iff.1 hr).1
  obtain ⟨gq, oq, cap, he, hnc, -, -, hl, hc⟩ := h.outer.open_ (by omega)
  cases he
  exact ⟨gq, oq, rfl, hl, hnc, hc k _ (by rw [List.getElem?_map, hr]; rfl)⟩
theorem Sd.last {w : World} {base tq ti sz : Nat} {Q : Option Addr} {qc : Nat} {r0 : List Sl} {r : Sl} (h : Sd w base tq ti sz Q qc (r0 ++ [r])) : ∃ gq oq, Q = some ⟨gq, oq, none⟩ ∧ gq < w.heap.size ∧ r0.length + 1 ≤ qc ∧ w.cell? ⟨gq, oq + r0.length, none⟩ = some r.v ∧ (∀ j, w.frozen? ⟨gq, j, none⟩ = false) := by
  obtain ⟨gq, oq, cap, he, hnc, -, -, hl, hc⟩ := h.outer.open_ (by simp)
  cases he
  exact ⟨gq, oq, rfl, hl, by simpa using hnc, hc r0.length _ (by simp), fun j => h.outer.froze j⟩
theorem Sd.cellAt {w : World} {base tq ti sz : Nat} {Q : Option Addr} {qc : Nat} {rows : List Sl} {r : Sl} {D : Option Addr} {n dc j : Nat} {u : Value} (h : Sd w base tq ti sz Q qc rows) (hr : r ∈ rows) (hv : r.v = .slice D n dc) (hn : 0 < n) (hj : r.xs[j]? = some u) (hrn : r.n = n) :
    ∃ gd od, D = some ⟨gd, od, none⟩ ∧ gd < w.heap.size ∧ w.cell? ⟨gd, od + j, none⟩ = some u := by
  have hO := h.row r hr
  unfold Sl.own at hO
  rw [hv, hrn] at hO
  obtain ⟨gd, od, cap, he, -, -, -, hl, hc⟩ := OwnO.open_ hO hn
  cases he
  exact ⟨gd, od, rfl, hl, hc j _ hj⟩
/-- what a row of lines and a row of events hold -/
def RP.rowq (p : RP) : Nat × List Value := (p.evs.length, lnV (p.evs.map (·.line)))
def RowE (r : Sl) (p : RP) : Prop := r.n = p.evs.length ∧ r.xs.length = p.evs.length * 7 ∧ ∀ (i : Nat) (e : RE), p.evs[i]? = some e → r.xs[i * 7 + 5]? = some (.string e.peer) ∧ r.xs[i * 7 + 6]? = some (.int .i64 (e.col : Int))
theorem rowE_nil {p : RP} {v : Value} (h : p.evs = []) : RowE ⟨v, 0, []⟩ p := by
  refine ⟨by rw [h]; rfl, by rw [h]; rfl, fun i e he => ?_⟩
  rw [h] at he
  simp at he
theorem rowE_snoc {r : Sl} {p : RP} {re : RE} {v a b c d f : Value} (h : RowE r p) : RowE ⟨v, r.n + 1, r.xs ++ [a, b, c, d, f, .string re.peer, .int .i64 (re.col : Int)]⟩ { p with evs := p.evs ++ [re] } := by
  obtain ⟨h1, h2, h3⟩ := h
  refine ⟨by simp [h1], by simp [h2]; omega, fun i e he => ?_⟩
  dsimp only at he ⊢
  rcases Nat.lt_or_ge i p.evs.length with hlt | hge
  · rw [List.getElem?_append_left hlt] at he
    obtain ⟨k1, k2⟩ := h3 i e he
    rw [List.getElem?_append_left (by omega), List.getElem?_append_left (by omega)]
    exact ⟨k1, k2⟩
  · rw [List.getElem?_append_right hge] at he
    have hi : i - p.evs.length = 0 := by
      rcases Nat.eq_zero_or_pos (i - p.evs.length) with h0 | h0
      · exact h0
      · rw [List.getElem?_eq_none (by simp; omega)] at he
        cases he
    rw [hi] at he
    have hi2 : i = p.evs.length := by omega
    subst hi2
    cases he
    rw [List.getElem?_append_right (by omega), List.getElem?_append_right (by omega), h2, show p.evs.length * 7 + 5 - p.evs.length * 7 = 5 by omega, show p.evs.length * 7 + 6 - p.evs.length * 7 = 6 by omega]
    exact ⟨rfl, rfl⟩
theorem rowq_snoc {n : Nat} {xs : List Value} {p : RP} {re : RE} (h : (n, xs) = RP.rowq p) : (n + 1, xs ++ [.int .i64 (re.line : Int)]) = RP.rowq { p with evs := p.evs ++ [re] } := by
  unfold RP.rowq at h ⊢
  cases h
  unfold lnV
  simp
/-- the rows of a list of processes -/
def RowsE (rs : List Sl) (ps : List RP) : Prop := rs.length = ps.length ∧ ∀ (k : Nat) r p, rs[k]? = some r → ps[k]? = some p → RowE r p
theorem RowsE.nil : RowsE [] [] := ⟨rfl, fun k r p h => by simp at h⟩
theorem RowsE.snoc {rs : List Sl} {ps : List RP} {r : Sl} {p : RP} (h : RowsE rs ps) (hr : RowE r p) : RowsE (rs ++ [r]) (ps ++ [p]) := by
  obtain ⟨h1, h2⟩ := h
  refine ⟨by simp [h1], fun k x q hx hq => ?_⟩
  rcases Nat.lt_or_ge k rs.length with hlt | hge
  · rw [List.getElem?_append_left hlt] at hx
    rw [List.getElem?_append_left (by omega)] at hq
    exact h2 k x q hx hq
  · rw [List.getElem?_append_right hge] at hx
    rw [List.getElem?_append_right (by omega)] at hq
    rw [← h1] at hq
    cases hk : k - rs.length with
    | zero =>
      rw [hk] at hx hq
      cases hx
      cases hq
      exact hr
    | succ j =>
      rw [hk] at hx
      simp at hx
theorem RowsE.split {rs : List Sl} {p0 : List RP} {p : RP} (h : RowsE rs (p0 ++ [p])) : ∃ r0 r, rs = r0 ++ [r] ∧ RowsE r0 p0 ∧ RowE r p := by
  obtain ⟨h1, h2⟩ := h
  rcases List.eq_nil_or_concat rs with rfl | ⟨r0, r, rfl⟩
  · simp at h1
  · rw [List.concat_eq_append] at h1 h2 ⊢
    have hl : r0.length = p0.length := by simpa using h1
    refine ⟨r0, r, rfl, ⟨hl, fun k x q hx hq => h2 k x q ?_ ?_⟩, h2 r0.length r p (by simp) (by rw [hl]; simp)⟩
    · rw [List.getElem?_append_left (List.getElem?_eq_some_iff.1 hx).1]; exact hx
    · rw [List.getElem?_append_left (List.getElem?_eq_some_iff.1 hq).1]; exact hq
/-- the loop of the reference's Parse -/
structure PLoopR (w : World) (rb pb tb : Nat) (s R : List UInt8) (n : Nat) (ps : List RP) (L : Option Addr) (lc : Nat) (Q : Option Addr) (qc : Nat) (S : Option Addr) (sc : Nat) (wr : World) (A : Option Addr) (ac : Nat) (ms : List PM) (rq rs : List Sl) : Prop where
  text : linesX 1 [] (spl 10 s) = linesX n ps (spl 10 R)
  py : PY w rb pb tb (ps.map (·.line)) L lc Q qc S sc wr A ac ms rq rs
  pr : ms.map PM.pr = ps.map RP.pr
  rowq : rq.map (fun r => (r.n, r.xs)) = ps.map RP.rowq
  rows : RowsE rs ps
  small : RSm n ps
section
variable {w wr w1 : World} {rb pb tb : Nat} {s R : List UInt8} {n : Nat} {ps : List RP} {L : Option Addr} {lc : Nat} {Q : Option Addr} {qc : Nat} {S : Option Addr} {sc : Nat} {A : Option Addr} {ac : Nat} {ms : List PM} {rq rs : List Sl}
theorem PLoopR.exx (h : PLoopR w rb pb tb s R n ps L lc Q qc S sc wr A ac ms rq rs) (hx : Ex wr w1) : PLoopR w rb pb tb s R n ps L lc Q qc S sc w1 A ac ms rq rs := ⟨h.text, h.py.exx hx, h.pr, h.rowq, h.rows, h.small⟩
theorem PLoopR.len (h : PLoopR w rb pb tb s R n ps L lc Q qc S sc wr A ac ms rq rs) : ms.length = ps.length ∧ rq.length = ps.length ∧ rs.length = ps.length :=
  ⟨by have := congrArg List.length h.pr; simpa using this, by have := congrArg List.length h.rowq; simpa using this, h.rows.1⟩
end
theorem rErr {s : List UInt8} {w w1 : World} {rb pb : Nat} {e : Int} {l c : Nat} {tmps : Array Value} {a b d : Value} (hx : Ex w w1) (hP : parseT s = .error (e, l, c)) (hB : Blk w1 rb 24 [a]) (hC : Blk w1 pb 48 [b, d]) (hrb : w.heap.size ≤ rb) (hpb : w.heap.size ≤ pb) (hne : rb ≠ pb)
    (hp : tmps.getD 2 undef = .pointer (some ⟨rb, 0, none⟩)) (hq : tmps.getD 3 undef = .pointer (some ⟨pb, 0, none⟩)) (hs : tmps.getD 4 undef = .int .i64 e) :
    bodyPost Tryz.prog Tryz.f21 (ParseR s w) .ret ⟨tmps, []⟩ (((w1.setCell ⟨rb, 0, none⟩ (.slice none 0 0)).setCell ⟨pb, 0, none⟩ (.int .i64 (l : Int))).setCell ⟨pb, 1, none⟩ (.int .i64 (c : Int))) := by
  have b1 := ((hB.set_ 0 (.slice none 0 0)).far (p := ⟨pb, 0, none⟩) hne (.int .i64 (l : Int))).far (p := ⟨pb, 1, none⟩) hne (.int .i64 (c : Int))
  have b2 := ((hC.far (p := ⟨rb, 0, none⟩) (fun e => hne e.symm) (.slice none 0 0)).set_ 0 (.int .i64 (l : Int))).set_ 1 (.int .i64 (c : Int))
  have hX := ((hx.setCell (p := ⟨rb, 0, none⟩) hrb (.slice none 0 0)).setCell (p := ⟨pb, 0, none⟩) hpb (.int .i64 (l : Int))).setCell (p := ⟨pb, 1, none⟩) hpb (.int .i64 (c : Int))
  exact bodyPost_ret (results_fail rfl hp hq hs b1 b2) rfl (ParseR.err hP hX)
theorem rErrD {s : List UInt8} {w w1 : World} {rb pb : Nat} {e : Int} {l c : Nat} {tmps : Array Value} {a b d : Value} (hx : Ex w w1) (hP : parseT s = .error (e, l, c)) (hB : Blk w1 rb 24 [a]) (hC : Blk w1 pb 48 [b, d]) (hrb : w.heap.size ≤ rb) (hpb : w.heap.size ≤ pb) (hne : rb ≠ pb)
    (hp : tmps.getD 2 undef = .pointer (some ⟨rb, 0, none⟩)) (hq : tmps.getD 3 undef = .pointer (some ⟨pb, 0, none⟩)) (hs : tmps.getD 4 undef = .int .i64 e) :
    bodyPost Tryz.prog Tryz.f21 (ParseR s w) .ret ⟨tmps, []⟩ (((w1.setCell ⟨rb, 0, none⟩ (.slice none 0 0)).setCell ⟨pb, 0, none⟩ (.int .i64 (l : Int))).setCell ⟨pb, 1, none⟩ (.int .i64 (c : Int))).drew := by
  have b1 := ((hB.set_ 0 (.slice none 0 0)).far (p := ⟨pb, 0, none⟩) hne (.int .i64 (l : Int))).far (p := ⟨pb, 1, none⟩) hne (.int .i64 (c : Int))
  have b2 := ((hC.far (p := ⟨rb, 0, none⟩) (fun e => hne e.symm) (.slice none 0 0)).set_ 0 (.int .i64 (l : Int))).set_ 1 (.int .i64 (c : Int))
  have hX := ((hx.setCell (p := ⟨rb, 0, none⟩) hrb (.slice none 0 0)).setCell (p := ⟨pb, 0, none⟩) hpb (.int .i64 (l : Int))).setCell (p := ⟨pb, 1, none⟩) hpb (.int .i64 (c : Int))
  exact bodyPost_ret (results_fail rfl hp hq hs b1.drew b2.drew) rfl (ParseR.err hP hX.drew)
theorem rOk {s : List UInt8} {w w1 : World} {rb pb n ac : Nat} {A : Option Addr} {ms : List PM} {tmps : Array Value} {a b d : Value} (hx : Ex w w1) (hP : parseT s = .ok (ms.map PM.pr)) (hT : TP w1 rb A ac ms) (hn : n = ms.length) (hc : ms.length ≤ ac) (hB : Blk w1 rb 24 [a]) (hC : Blk w1 pb 48 [b, d]) (hrb : w.heap.size ≤ rb) (hpb : w.heap.size ≤ pb) (hne : rb ≠ pb)
    (hp : tmps.getD 2 undef = .pointer (some ⟨rb, 0, none⟩)) (hq : tmps.getD 3 undef = .pointer (some ⟨pb, 0, none⟩)) (hs : tmps.getD 4 undef = .int .i64 0) :
    bodyPost Tryz.prog Tryz.f21 (ParseR s w) .ret ⟨tmps, []⟩ (((w1.setCell ⟨rb, 0, none⟩ (.slice A n ac)).setCell ⟨pb, 0, none⟩ (.int .i64 0)).setCell ⟨pb, 1, none⟩ (.int .i64 0)) := by
  have b1 := ((hB.set_ 0 (.slice A n ac)).far (p := ⟨pb, 0, none⟩) hne (.int .i64 0)).far (p := ⟨pb, 1, none⟩) hne (.int .i64 0)
  have c1 := hC.far (p := ⟨rb, 0, none⟩) (fun e => hne e.symm) (.slice A n ac)
  have c2 := c1.set_ 0 (.int .i64 0)
  have b2 := c2.set_ 1 (.int .i64 0)
  have hX := ((hx.setCell (p := ⟨rb, 0, none⟩) hrb (.slice A n ac)).setCell (p := ⟨pb, 0, none⟩) hpb (.int .i64 0)).setCell (p := ⟨pb, 1, none⟩) hpb (.int .i64 0)
  have t1 := hT.chg (Chg.set ⟨_, hB⟩ 0 (.slice A n ac)) (by decide) (by decide) (by decide) (by decide)
  have t2 := t1.chg (Chg.set ⟨_, c1⟩ 0 (.int .i64 0)) (by decide) (by decide) (by decide) (by decide)
  have t3 := t2.chg (Chg.set ⟨_, c2⟩ 1 (.int .i64 0)) (by decide) (by decide) (by decide) (by decide)
  refine bodyPost_ret (results_fail rfl hp hq hs b1 b2) rfl ⟨hX, ?_⟩
  rw [hP]
  exact ⟨A, ac, by rw [hn, List.length_map], t3.tc, by rw [List.length_map]; exact hc⟩
end
section
open Go.RowKit Nu
noncomputable def restR : Code := ((Tryz.f21.body.bind (findRest 35)).getD .skip)
set_option maxRecDepth 1000000 in
set_option maxHeartbeats 100000000 in
theorem rrest_c (s : List UInt8) (w : World) (hbig : ¬ 16384 < s.length) {rb pb tb n : Nat} {ps : List RP} {L : Option Addr} {lc : Nat} {Q : Option Addr} {qc : Nat} {S : Option Addr} {sc : Nat} {wr : World} {A : Option Addr} {ac : Nat} {ms : List PM} {rq rs : List Sl}
    (hrb : rb = w.heap.size) (hpb : pb = w.heap.size + 1) (htb : tb = w.heap.size + 2) (hn : n ≤ 20000) (hP : PLoopR w rb pb tb s [] n ps L lc Q qc S sc wr A ac ms rq rs)
    {u0 u4 u9 u10 u11 u12 u13 u14 u15 u16 u17 u18 u19 u20 u21 u22 u23 u24 u25 u26 u27 u28 u29 u30 u31 u32 u33 u34 u35 u36 u37 u38 u39 u40 u41 u42 u43 u44 u45 u46 u47 u48 u49 u50 u51 u52 u53 u54 u55 u56 u57 u58 u59 u60 u61 u62 u63 u64 u65 u66 u67 u68 u69 u70 u71 u72 u73 u74 u75 u76 u77 u78 u79 u80 u81 u82 u83 u84 u85 u86 u87 u88 u89 u90 u91 u92 u93 u94 u95 u96 u97 u98 u99 u100 u101 u102 u103 u104 u105 u106 u107 u108 u109 u110 u111 u112 u113 u114 u115 u116 u117 u118 u119 u120 u121 u122 u123 u124 u125 u126 u127 u128 u129 u130 u131 u132 u133 u134 u135 u136 u137 u138 u139 u140 u141 u142 u143 u144 u145 u146 u147 u148 u149 u150 u151 u152 u153 u154 u155 u156 u157 u158 u159 u160 u161 u162 u163 u164 u165 u166 u167 : Value} :
    Code.wp Tryz.prog restR (bodyPost Tryz.prog Tryz.f21 (ParseR s w)) ⟨#[u0, undef, .pointer (some ⟨rb, 0, none⟩), .pointer (some ⟨pb, 0, none⟩), u4, .pointer (some ⟨tb, 0, none⟩), .slice L ps.length lc, .slice Q ps.length qc, .slice S ps.length sc, u9, u10, u11, u12, u13, u14, u15, u16, u17, u18, u19, u20, u21, u22, u23, u24, u25, u26, u27, u28, u29, u30, u31, u32, u33, u34, u35, u36, u37, u38, u39, u40, u41, u42, u43, u44, u45, u46, u47, u48, u49, u50, u51, u52, u53, u54, u55, u56, u57, u58, u59, u60, u61, u62, u63, u64, u65, u66, u67, u68, u69, u70, u71, u72, u73, u74, u75, u76, u77, u78, u79, u80, u81, u82, u83, u84, u85, u86, u87, u88, u89, u90, u91, u92, u93, u94, u95, u96, u97, u98, u99, u100, u101, u102, u103, u104, u105, u106, u107, u108, u109, u110, u111, u112, u113, u114, u115, u116, u117, u118, u119, u120, u121, u122, u123, u124, u125, u126, u127, u128, u129, u130, u131, u132, u133, u134, u135, u136, u137, u138, u139, u140, u141, u142, u143, u144, u145, u146, u147, u148, u149, u150, u151, u152, u153, u154, u155, u156, u157, u158, u159, u160, u161, u162, u163, u164, u165, u166, u167, undef, undef, undef, undef, undef, undef, undef, undef, undef, undef, undef, undef, undef, undef, undef, undef, undef, undef, undef, undef, undef, undef, undef, undef, undef, undef, undef, undef, undef, undef, undef, undef, undef, undef, undef, undef, undef, undef, undef, undef, undef, undef, undef, undef, undef, undef, undef, undef, undef, undef, undef, undef, undef, undef, undef, undef, undef, undef, undef, undef, undef, undef, undef, undef, undef, undef, undef, undef, undef, undef, undef, undef, undef, undef, undef, undef, undef, undef, undef, undef, undef, undef, undef, undef, undef, undef, undef, undef, undef, undef, undef, undef, undef, undef, undef, undef, undef, undef, undef, undef, undef, undef], []⟩ wr := by
  have n1 : rb ≠ pb := by omega
  have n2 : pb ≠ rb := by omega
  have n3 : rb ≠ tb := by omega
  have n4 : tb ≠ rb := by omega
  have n5 : pb ≠ tb := by omega
  have n6 : tb ≠ pb := by omega
  have HRb := Lib.hid hrb
  have HPb := Lib.hid hpb
  have HTb := Lib.hid htb
  have HP : Hid (parseT s = match linesX 1 [] (spl 10 s) with
    | .error x => .error x
    | .ok ps => match resPs (ps.map (·.name)) ps with
      | .error x => .error x
      | .ok t => if (faultO t).2 = 0 then .ok t else .error (plcO ps (faultO t))) := by unfold parseT; rw [if_neg hbig]; exact Lib.hid rfl
  clear hrb hpb htb hbig
  conv => arg 2; whnf
  obtain ⟨hml, hql, hsl⟩ := hP.len
  have hT1 : parseT s = match resPs (ps.map (·.name)) ps with
    | .error x => .error x
    | .ok t => if (faultO t).2 = 0 then .ok t else .error (plcO ps (faultO t)) := by rw [HP.out, hP.text, linesX_nil]
  have HT1 := Lib.hid hT1
  have HSm := Lib.hid hP.small
  have HRw : Hid (∀ (k : Nat) r q, rq[k]? = some r → ps[k]? = some q → r.n = q.evs.length ∧ r.xs = lnV (q.evs.map (·.line))) := fun k r q h1 h2 => by
    have h3 := map_at hP.rowq h1 h2
    unfold RP.rowq at h3
    exact Prod.mk.inj h3
  have HRs := Lib.hid hP.rows.2
  have HS0 : Hid (Peers (ps.map (·.name)) ps ms 0 0) := Peers.start hP.pr
  have HW0 := Lib.hid hP.py
  have HQl := Lib.hid hql
  have HSl := Lib.hid hsl
  have hpn : ps.length ≤ 20000 := by have := hP.small.procs; omega
  have HNn : Hid (n ≤ 20000) := Lib.hid hn
  clear hP hT1 hql hsl hml hn HP
  go_wp2_with fail
  go_loopg [20] ps.length (fun gg v wx => ∃ (p : Nat) (mz : List PM), v = .int .i64 (p : Int) ∧ p ≤ ps.length ∧ ps.length ≤ p + gg ∧ Hid (Peers (ps.map (·.name)) ps mz p 0 ∧ PY w rb pb tb (ps.map (·.line)) L lc Q qc S sc wx A ac mz rq rs))
  case atStart => exact ⟨0, ms, rfl, Nat.zero_le _, by omega, Lib.hid ⟨HS0.out, HW0.out⟩⟩
  case round =>
    obtain ⟨p, mz, rfl, hp, hpg, HI⟩ := hrel
    clear HW0 HS0
    have x0 : wr.cell? ⟨tb, 0, none⟩ = some (.slice A ps.length ac) := by rw [← HI.out.1.len]; exact HI.out.2.pw.px.cell.cell 0
    have xl := HI.out.2.pw.px.cell.lt
    by_cases hpl2 : p < ps.length
    · obtain ⟨n9, rfl⟩ : ∃ n9, gk = n9 + 1 := ⟨gk - 1, by omega⟩
      obtain ⟨q, hq⟩ : ∃ q, ps[p]? = some q := ⟨_, List.getElem?_eq_getElem hpl2⟩
      obtain ⟨r, hr⟩ : ∃ r, rs[p]? = some r := ⟨_, List.getElem?_eq_getElem (by have := HSl.out; omega)⟩
      obtain ⟨r2, hr2⟩ : ∃ r, rq[p]? = some r := ⟨_, List.getElem?_eq_getElem (by have := HQl.out; omega)⟩
      obtain ⟨hrn, hrx, hre⟩ := HRs.out p r q hr hq
      obtain ⟨gs, os, rfl, hgs, hsc, ks⟩ := HI.out.2.ss.at_ hr
      obtain ⟨D, dc, hrv, hrd, -⟩ := OwnO.len (HI.out.2.ss.row r (List.mem_of_getElem? hr))
      rw [hrv, hrn] at ks
      rw [hrn] at hrv
      have i0 : (0 : Int) ≤ (p : Int) := by omega
      have i1 : (p : Int) < (ps.length : Int) := by omega
      have hen : q.evs.length ≤ 20000 := by have h1 := HSm.out.each q (List.mem_of_getElem? hq); have h2 := HNn.out; omega
      have HQ := Lib.hid (And.intro hq (And.intro hr (And.intro hrv (And.intro hrn (And.intro hre hr2)))))
      clear hq hr hrv hrn hrx hre hrd hsc hr2
      go_wp2_with fail
      clear x0 xl
      go_loopg [21] q.evs.length (fun gg v wx => ∃ (i : Nat) (my : List PM), v = .int .i64 (i : Int) ∧ i ≤ q.evs.length ∧ q.evs.length ≤ i + gg ∧ Hid (Peers (ps.map (·.name)) ps my p i ∧ PY w rb pb tb (ps.map (·.line)) L lc Q qc (some ⟨gs, os, none⟩) sc wx A ac my rq rs))
      case atStart => exact ⟨0, mz, rfl, Nat.zero_le _, by omega, HI⟩
      case round =>
        obtain ⟨i, my, rfl, hi, hig, HJ⟩ := hrel
        clear HI ks hgs
        obtain ⟨_, _, e9, hgs, hsc, ks⟩ := HJ.out.2.ss.at_ HQ.out.2.1
        cases e9
        rw [HQ.out.2.2.1] at ks
        by_cases hil : i < q.evs.length
        · obtain ⟨n8, rfl⟩ : ∃ n8, gk = n8 + 1 := ⟨gk - 1, by omega⟩
          obtain ⟨e, he⟩ : ∃ e, q.evs[i]? = some e := ⟨_, List.getElem?_eq_getElem hil⟩
          obtain ⟨hx5, hx6⟩ := HQ.out.2.2.2.2.1 i e he
          have hqp : 0 < q.evs.length := by omega
          obtain ⟨gd, od, rfl, hgd, k5⟩ := HJ.out.2.ss.cellAt (List.mem_of_getElem? HQ.out.2.1) HQ.out.2.2.1 hqp hx5 HQ.out.2.2.2.1
          obtain ⟨_, _, e9, -, k6⟩ := HJ.out.2.ss.cellAt (List.mem_of_getElem? HQ.out.2.1) HQ.out.2.2.1 hqp hx6 HQ.out.2.2.2.1
          cases e9
          rw [← Nat.add_assoc] at k5 k6
          have j0 : (0 : Int) ≤ (i : Int) := by omega
          have j1 : (i : Int) < (q.evs.length : Int) := by omega
          have HEe := Lib.hid he
          clear he hx5 hx6 hqp
          have hpe := nonempty_iff e.peer
          have x0 : wr.cell? ⟨tb, 0, none⟩ = some (.slice A ps.length ac) := by rw [← HJ.out.1.len]; exact HJ.out.2.pw.px.cell.cell 0
          have xl := HJ.out.2.pw.px.cell.lt
          by_cases h0 : e.peer.size = 0
          · have HN : Hid (Peers (ps.map (·.name)) ps my p (i + 1)) := HJ.out.1.skip HQ.out.1 HEe.out h0
            rw [decide_eq_true h0] at hpe
            clear h0 x0 xl
            go_wp2_with fail
            go_roundg n8
            case measure => omega
            case rel => exact ⟨i + 1, my, by go_num, by omega, by omega, Lib.hid ⟨HN.out, HJ.out.2⟩⟩
          · have HFi : Hid (∀ wy, Ex wr wy → Calls Tryz.prog 62 #[.agg #[.slice A ps.length ac], .string e.peer] wy (Ret wy (.int .i64 (idxV (pIdx e.peer (ps.map (·.name))))))) := fun wy hy => by
              have h := rfind_c (my.map PM.pr) A ac e.peer wy ((HJ.out.2.pw.px.tp.tc).ex hy) (by rw [List.length_map, HJ.out.1.len]; omega)
              rw [List.length_map, HJ.out.1.len, HJ.out.1.names] at h
              exact h
            have H0 := Lib.hid h0
            rw [decide_eq_false h0] at hpe
            clear h0
            have kk : wr.cell? ⟨tb, 0, none⟩ = some (.slice A ps.length ac) ∧ wr.cell? ⟨gs, os + p, none⟩ = some (.slice (some ⟨gd, od, none⟩) q.evs.length dc) ∧ wr.cell? ⟨gd, od + i * 7 + 5, none⟩ = some (.string e.peer) := ⟨x0, ks, k5⟩
            have HKK : Hid (∀ wy, Ex wr wy → wy.cell? ⟨tb, 0, none⟩ = some (.slice A ps.length ac) ∧ wy.cell? ⟨gs, os + p, none⟩ = some (.slice (some ⟨gd, od, none⟩) q.evs.length dc) ∧ wy.cell? ⟨gd, od + i * 7 + 5, none⟩ = some (.string e.peer)) := fun wy hy => ⟨(hy.below.cell (p := ⟨tb, 0, none⟩) xl).trans x0, (hy.below.cell (p := ⟨gs, os + p, none⟩) hgs).trans ks, (hy.below.cell (p := ⟨gd, od + i * 7 + 5, none⟩) hgd).trans k5⟩
            cases hz : pIdx e.peer (ps.map (·.name)) with
            | none =>
              rw [hz] at HFi
              have HFj : Hid (∀ wy, Ex wr wy → Calls Tryz.prog 62 #[.agg #[.slice A ps.length ac], .string e.peer] wy (Ret wy (.int .i64 (-1)))) := HFi
              have hP1 : parseT s = .error (13, e.line, e.col) := by rw [HT1.out, HJ.out.1.bad HQ.out.1 HEe.out H0.out hz]
              have HPe := Lib.hid hP1
              clear hP1 HFi hz
              go_upto_region 42 with fail
              go_region_held3 (fun (w' : World) => w'.cell? ⟨tb, 0, none⟩ = some (.slice A ps.length ac) ∧ w'.cell? ⟨gs, os + p, none⟩ = some (.slice (some ⟨gd, od, none⟩) q.evs.length dc) ∧ w'.cell? ⟨gd, od + i * 7 + 5, none⟩ = some (.string e.peer))
                (first | exact kk | exact kd | go_keep)
                (first | (go_at_call 62; refine (HFj.out _ (by repeat (first | exact Ex.refl _ | apply Ex.drew))).mono ?_; rintro e9 w5 ⟨rfl, hx5⟩; have HX5 : Hid (Ex wr w5) := Ex.trans (by repeat (first | exact Ex.refl _ | apply Ex.drew)) hx5; have kd := HKK.out w5 HX5.out; clear hx5))
              have HP5 := Lib.hid (HJ.out.2.exx HX5.out)
              obtain ⟨hr2n, hr2x⟩ := HRw.out p r2 q HQ.out.2.2.2.2.2 HQ.out.1
              obtain ⟨gq, oq, rfl, hgq, hqc, kq⟩ := HP5.out.sq.at_ HQ.out.2.2.2.2.2
              obtain ⟨D2, dc2, hv2, hd2, -⟩ := OwnO.len (HP5.out.sq.row r2 (List.mem_of_getElem? HQ.out.2.2.2.2.2))
              rw [hv2, hr2n] at kq
              rw [hr2n] at hv2
              have hx2 : r2.xs[i]? = some (.int .i64 (e.line : Int)) := by rw [hr2x]; unfold lnV; rw [List.getElem?_map, List.getElem?_map, HEe.out]; rfl
              have HV20 := Lib.hid hv2
              obtain ⟨gd2, od2, hd29, hgd2, k2⟩ := HP5.out.sq.cellAt (List.mem_of_getElem? HQ.out.2.2.2.2.2) hv2 (by omega) hx2 hr2n
              subst hd29
              have HV2 := Lib.hid hv2
              clear HV20
              have l5 := kd.2.1
              have l6 : w5.cell? ⟨gd, od + i * 7 + 6, none⟩ = some (.int .i64 (e.col : Int)) := (HX5.out.below.cell (p := ⟨gd, od + i * 7 + 6, none⟩) hgd).trans k6
              have lgs := Nat.lt_of_lt_of_le hgs HX5.out.below.size
              have lgd := Nat.lt_of_lt_of_le hgd HX5.out.below.size
              have bm : decide ((-1 : Int) < 0) = true := by decide
              clear kd kk ks k5 k6 hgs hgd x0 xl hr2n hr2x hv2 hd2 hx2 hqc hsc
              have f0 := HP5.out.pw.res.frozen 0
              have f1 := HP5.out.pw.pos.frozen 0
              have f2 := HP5.out.pw.pos.frozen 1
              have z0 := HP5.out.pw.res.cell 0
              have z1 := HP5.out.pw.pos.cell 0
              have z2 := HP5.out.pw.pos.cell 1
              have zl := HP5.out.pw.res.lt
              have zm := HP5.out.pw.pos.lt
              have hO8 := HP5.out.ss.row r (List.mem_of_getElem? HQ.out.2.1)
              unfold Sl.own at hO8
              rw [HQ.out.2.2.1] at hO8
              have hO9 := HP5.out.sq.row r2 (List.mem_of_getElem? HQ.out.2.2.2.2.2)
              unfold Sl.own at hO9
              rw [HV2.out] at hO9
              have e1 : gq ≠ rb := fun e => OwnO.ne HP5.out.sq.outer HP5.out.pw.res (by decide) (by rw [← e]; rfl)
              have e2 : gq ≠ pb := fun e => OwnO.ne HP5.out.sq.outer HP5.out.pw.pos (by decide) (by rw [← e]; rfl)
              have e3 : gs ≠ rb := fun e => OwnO.ne HP5.out.ss.outer HP5.out.pw.res (by decide) (by rw [← e]; rfl)
              have e4 : gs ≠ pb := fun e => OwnO.ne HP5.out.ss.outer HP5.out.pw.pos (by decide) (by rw [← e]; rfl)
              have e5 : gd ≠ rb := fun e => OwnO.ne hO8 HP5.out.pw.res (by decide) (by rw [← e]; rfl)
              have e6 : gd ≠ pb := fun e => OwnO.ne hO8 HP5.out.pw.pos (by decide) (by rw [← e]; rfl)
              have e7 : gd2 ≠ rb := fun e => OwnO.ne hO9 HP5.out.pw.res (by decide) (by rw [← e]; rfl)
              have e8 : gd2 ≠ pb := fun e => OwnO.ne hO9 HP5.out.pw.pos (by decide) (by rw [← e]; rfl)
              have e1' := e1.symm
              have e2' := e2.symm
              have e3' := e3.symm
              have e4' := e4.symm
              have e5' := e5.symm
              have e6' := e6.symm
              have e7' := e7.symm
              have e8' := e8.symm
              clear hO8 hO9
              go_upto_region 44 with fail
              go_region
              go_wp2_with fail
              have hr1 := HRb.out
              have hp1 := HPb.out
              exact rErrD HP5.out.pw.ex HPe.out HP5.out.pw.res HP5.out.pw.pos (by omega) (by omega) n1 rfl rfl rfl
            | some z =>
              rw [hz] at HFi
              have HFj : Hid (∀ wy, Ex wr wy → Calls Tryz.prog 62 #[.agg #[.slice A ps.length ac], .string e.peer] wy (Ret wy (.int .i64 (z : Int)))) := HFi
              have HZ := Lib.hid hz
              obtain ⟨m, hm⟩ : ∃ m, my[p]? = some m := ⟨_, List.getElem?_eq_getElem (by rw [HJ.out.1.len]; omega)⟩
              have hml2 := (HJ.out.1.head p m q hm HQ.out.1).2.2
              obtain ⟨x, hx⟩ : ∃ x, m.mes[i]? = some x := ⟨_, List.getElem?_eq_getElem (by omega)⟩
              have HMX := Lib.hid (And.intro hm (And.intro hx hml2))
              have b3 : decide ((z : Int) < 0) = false := decide_eq_false (by omega)
              clear HFi hz hm hx hml2
              go_upto_region 42 with fail
              go_region_held3 (fun (w' : World) => w'.cell? ⟨tb, 0, none⟩ = some (.slice A ps.length ac) ∧ w'.cell? ⟨gs, os + p, none⟩ = some (.slice (some ⟨gd, od, none⟩) q.evs.length dc) ∧ w'.cell? ⟨gd, od + i * 7 + 5, none⟩ = some (.string e.peer))
                (first | exact kk | exact kd | go_keep)
                (first | (go_at_call 62; refine (HFj.out _ (by repeat (first | exact Ex.refl _ | apply Ex.drew))).mono ?_; rintro e9 w5 ⟨rfl, hx5⟩; have HX5 : Hid (Ex wr w5) := Ex.trans (by repeat (first | exact Ex.refl _ | apply Ex.drew)) hx5; have kd := HKK.out w5 HX5.out; clear hx5))
              have HP5 := Lib.hid (HJ.out.2.exx HX5.out)
              clear kd kk ks k5 k6 hgs hgd x0 xl
              obtain ⟨ga, oa, rfl, hga, -, -, c2, -⟩ := HP5.out.pw.procAt HMX.out.1
              obtain ⟨ge, oe, hmE, hge, ce, cf⟩ := HP5.out.pw.evCell HMX.out.1 HMX.out.2.1
              rw [hmE, HMX.out.2.2] at c2
              rw [← Nat.add_assoc] at ce
              have cf1 := cf (oe + i * 5 + 1)
              have x0 : w5.cell? ⟨tb, 0, none⟩ = some (.slice (some ⟨ga, oa, none⟩) ps.length ac) := by rw [← HJ.out.1.len]; exact HP5.out.pw.px.cell.cell 0
              have xl := HP5.out.pw.px.cell.lt
              have hpw9 := HP5.out.peer (z : Int) HMX.out.1 HMX.out.2.1 hmE
              rw [← Nat.add_assoc] at hpw9
              have HW9 := Lib.hid hpw9
              have HN := Lib.hid (HJ.out.1.put HQ.out.1 HEe.out H0.out HZ.out HMX.out.1 HMX.out.2.1)
              clear hpw9 hmE cf
              go_wp2_with fail
              go_roundg n8
              case measure => omega
              case rel => exact ⟨i + 1, _, by go_num, by omega, by omega, Lib.hid ⟨HN.out, HW9.out⟩⟩
        · obtain rfl : i = q.evs.length := by omega
          have m1 : decide ((q.evs.length : Int) < (q.evs.length : Int)) = false := decide_eq_false (by omega)
          go_wp2_with fail
          go_roundg n9
          case measure => omega
          case rel => exact ⟨p + 1, my, by go_num, by omega, by omega, Lib.hid ⟨HJ.out.1.next HQ.out.1 rfl, HJ.out.2⟩⟩
    · have hpe9 : p = ps.length := by omega
      subst hpe9
      have m1 : decide ((ps.length : Int) < (ps.length : Int)) = false := decide_eq_false (by omega)
      obtain ⟨hT, hres⟩ := HI.out.1.end_
      have hP9 := HT1.out
      rw [hres] at hP9
      dsimp only at hP9
      have hTs : TSm (mz.map PM.pr) := by rw [hT]; exact HSm.out.tsm HNn.out
      obtain ⟨A9, c9, hA9, hcap, -⟩ := HI.out.2.pw.px.tp.procs.len
      cases hA9
      have hlz := HI.out.1.len
      have HFt : Hid (∀ wy, Ex wr wy → Calls Tryz.prog 35 #[.agg #[.slice A ps.length ac]] wy (Ret wy (faultV (faultO (mz.map PM.pr))))) := fun wy hy => by
        have h := rFault_c (mz.map PM.pr) A ac wy ((HI.out.2.pw.px.tp.tc).ex hy) hTs
        rw [List.length_map, hlz] at h
        exact h
      have hpl9 := fault_place (mz.map PM.pr)
      have HL9 := Lib.hid (And.intro hlz hcap)
      have HT9 := Lib.hid hT
      generalize faultO (mz.map PM.pr) = F9 at *
      obtain ⟨⟨fp, fi⟩, fe⟩ := F9
      have HP9 := Lib.hid hP9
      have HPl9 := Lib.hid hpl9
      unfold faultV idV at HFt
      clear hP9 hpl9 hTs hcap hlz hres hT
      dsimp only at HFt
      go_wp2_with fail
      refine (HFt.out _ (Ex.refl _)).mono ?_
      rintro e9 w5 ⟨rfl, hx⟩
      have HW5 := Lib.hid (HI.out.2.exx hx)
      clear hx x0 xl HI
      go_upto_region 47 with fail
      have hB6 := Blk.new w5 40 [.int .i64 (fp : Int), .int .i64 (fi : Int)]
      have hx6 : Ex w5 (w5.alloc (.cells #[.int .i64 (fp : Int), .int .i64 (fi : Int)] 40)) := (Ex.refl _).alloc _
      have HW6 := Lib.hid (HW5.out.exx hx6)
      obtain ⟨ib, hib⟩ : ∃ ib, ib = w5.heap.size := ⟨_, rfl⟩
      rw [← hib] at hB6 ⊢
      have HI6 := Lib.hid hB6
      clear hx6 hB6 hib HW5
      generalize w5.alloc (.cells #[.int .i64 (fp : Int), .int .i64 (fi : Int)] 40) = W6 at *
      have f0 := HW6.out.pw.res.frozen 0
      have f1 := HW6.out.pw.pos.frozen 0
      have f2 := HW6.out.pw.pos.frozen 1
      have z0 := HW6.out.pw.res.cell 0
      have z1 := HW6.out.pw.pos.cell 0
      have z2 := HW6.out.pw.pos.cell 1
      have zl := HW6.out.pw.res.lt
      have zm := HW6.out.pw.pos.lt
      by_cases hf0 : fe = 0
      · have c0 : ((fe : Int) == 0) = true := beq_iff_eq.2 (by omega)
        have hP10 : parseT s = .ok (mz.map PM.pr) := by rw [HP9.out, if_pos hf0]
        have HPk := Lib.hid hP10
        have x0 : W6.cell? ⟨tb, 0, none⟩ = some (.slice A ps.length ac) := by rw [← HL9.out.1]; exact HW6.out.pw.px.cell.cell 0
        have xl := HW6.out.pw.px.cell.lt
        clear hP10 hf0
        go_wp2_with fail
        have hr1 := HRb.out
        have hp1 := HPb.out
        exact rOk HW6.out.pw.ex HPk.out HW6.out.pw.px.tp HL9.out.1.symm HL9.out.2 HW6.out.pw.res HW6.out.pw.pos (by omega) (by omega) n1 rfl rfl rfl
      have c0 : ((fe : Int) == 0) = false := beq_eq_false_iff_ne.2 (by omega)
      have hP10 : parseT s = .error (plcO ps ((fp, fi), fe)) := by rw [HP9.out, if_neg hf0]
      have HPq := Lib.hid hP10
      clear hP10
      by_cases hf1 : fe = 1
      · have c1 : ((fe : Int) == 1) = true := beq_iff_eq.2 (by omega)
        have hP11 : parseT s = .error ((fe : Int), 1, 1) := by
          rw [HPq.out]
          unfold plcO
          rw [if_pos hf1, hf1]
          rfl
        have HPe := Lib.hid hP11
        clear hP11 hf0 hf1
        go_wp2_with fail
        have hr1 := HRb.out
        have hp1 := HPb.out
        exact rErr (l := 1) (c := 1) HW6.out.pw.ex HPe.out HW6.out.pw.res HW6.out.pw.pos (by omega) (by omega) n1 rfl rfl rfl
      have c1 : ((fe : Int) == 1) = false := beq_eq_false_iff_ne.2 (by omega)
      have hir : ib ≠ rb := HI6.out.ne HW6.out.pw.res (by decide)
      have hip : ib ≠ pb := HI6.out.ne HW6.out.pw.pos (by decide)
      have hir' := hir.symm
      have hip' := hip.symm
      by_cases hf2 : fi = 0
      · have c2 : ((fi : Int) == 0) = true := beq_iff_eq.2 (by omega)
        have hfp : fp < ps.length := by
          rcases HPl9.out with h | h | h | h
          · exact absurd h hf0
          · exact absurd h hf1
          · have := h.2
            rw [HT9.out, List.length_map] at this
            exact this
          · exact absurd h.1 (by dsimp only; omega)
        obtain ⟨q, hq⟩ : ∃ q, ps[fp]? = some q := ⟨_, List.getElem?_eq_getElem hfp⟩
        have hP11 : parseT s = .error ((fe : Int), q.line, 1) := by
          rw [HPq.out]
          unfold plcO
          rw [if_neg hf1, if_pos hf2]
          dsimp only
          rw [hq]
          rfl
        obtain ⟨gl, ol, hL, hgl, -, kl⟩ := HW6.out.pw.lineAt (p := fp) (l := q.line) (by rw [List.getElem?_map, hq]; rfl)
        subst hL
        have hlr : gl ≠ rb := fun e => OwnO.ne HW6.out.pw.px.lines HW6.out.pw.res (by decide) (by rw [← e]; rfl)
        have hlp : gl ≠ pb := fun e => OwnO.ne HW6.out.pw.px.lines HW6.out.pw.pos (by decide) (by rw [← e]; rfl)
        have hlr' := hlr.symm
        have hlp' := hlp.symm
        have HPe := Lib.hid hP11
        have y0 := HI6.out.cell 0
        have y1 := HI6.out.cell 1
        have yl := HI6.out.lt
        have i0 : (0 : Int) ≤ (fp : Int) := by omega
        have i1 : (fp : Int) < (ps.length : Int) := by omega
        clear hP11 hf0 hf1 hf2 hq
        go_upto_region 52 with fail
        go_region
        go_wp2_with fail
        have hr1 := HRb.out
        have hp1 := HPb.out
        exact rErrD (c := 1) HW6.out.pw.ex HPe.out HW6.out.pw.res HW6.out.pw.pos (by omega) (by omega) n1 rfl rfl rfl
      have c2 : ((fi : Int) == 0) = false := beq_eq_false_iff_ne.2 (by omega)
      have hin : InT (ps.map (rP (ps.map (·.name)))) (fp, fi) := by
        rcases HPl9.out with h | h | h | h
        · exact absurd h hf0
        · exact absurd h hf1
        · exact absurd h.1 hf2
        · rw [HT9.out] at h
          exact h
      obtain ⟨h1i, q, e, hq, he⟩ := place_at hin
      obtain ⟨j, rfl⟩ : ∃ j, fi = j + 1 := ⟨fi - 1, by omega⟩
      rw [Nat.add_sub_cancel] at he
      have hP11 : parseT s = .error ((fe : Int), e.line, 3) := by
        rw [HPq.out]
        unfold plcO
        rw [if_neg hf1, if_neg hf2]
        dsimp only
        rw [hq]
        show Except.error ((fe : Int), ((q.evs[j]?).map (·.line)).getD 0, 3) = _
        rw [he]
        rfl
      have hfp := (List.getElem?_eq_some_iff.1 hq).1
      have hjl := (List.getElem?_eq_some_iff.1 he).1
      obtain ⟨r, hr⟩ : ∃ r, rq[fp]? = some r := ⟨_, List.getElem?_eq_getElem (by have := HQl.out; omega)⟩
      obtain ⟨hrn, hrx⟩ := HRw.out fp r q hr hq
      obtain ⟨gq, oq, hQ9, hgq, -, kq⟩ := HW6.out.sq.at_ hr
      subst hQ9
      obtain ⟨D, dc, hrv, -⟩ := OwnO.len (HW6.out.sq.row r (List.mem_of_getElem? hr))
      rw [hrv, hrn] at kq
      rw [hrn] at hrv
      have hx2 : r.xs[j]? = some (.int .i64 (e.line : Int)) := by rw [hrx]; unfold lnV; rw [List.getElem?_map, List.getElem?_map, he]; rfl
      obtain ⟨gd, od, hD9, hgd, k0⟩ := HW6.out.sq.cellAt (List.mem_of_getElem? hr) hrv (by omega) hx2 hrn
      subst hD9
      have hO9 := HW6.out.sq.row r (List.mem_of_getElem? hr)
      unfold Sl.own at hO9
      rw [hrv] at hO9
      have hgr : gq ≠ rb := fun e => OwnO.ne HW6.out.sq.outer HW6.out.pw.res (by decide) (by rw [← e]; rfl)
      have hgp : gq ≠ pb := fun e => OwnO.ne HW6.out.sq.outer HW6.out.pw.pos (by decide) (by rw [← e]; rfl)
      have hdr : gd ≠ rb := fun e => OwnO.ne hO9 HW6.out.pw.res (by decide) (by rw [← e]; rfl)
      have hdp : gd ≠ pb := fun e => OwnO.ne hO9 HW6.out.pw.pos (by decide) (by rw [← e]; rfl)
      have hgr' := hgr.symm
      have hgp' := hgp.symm
      have hdr' := hdr.symm
      have hdp' := hdp.symm
      have HPe := Lib.hid hP11
      have hI6 : Blk W6 ib 40 [.int .i64 (fp : Int), .int .i64 ((j : Int) + 1)] := HI6.out
      have y0 := hI6.cell 0
      have y1 := hI6.cell 1
      have yl := hI6.lt
      have hen : q.evs.length ≤ 20000 := by have h1 := HSm.out.each q (List.mem_of_getElem? hq); have h2 := HNn.out; omega
      have i0 : (0 : Int) ≤ (fp : Int) := by omega
      have i1 : (fp : Int) < (ps.length : Int) := by omega
      have j0 : (0 : Int) ≤ (j : Int) := by omega
      have j1 : (j : Int) < (q.evs.length : Int) := by omega
      have q9 : IntKind.i64.wrap ((j : Int) + 1 - 1) = (j : Int) := by rw [Int.add_sub_cancel]; exact IntWalk.i64_in _ (by omega)
      have q8 : IntKind.i64.wrap (j : Int) = (j : Int) := IntWalk.i64_in _ (by omega)
      have c3 : ((j : Int) + 1 == 0) = false := beq_eq_false_iff_ne.2 (by omega)
      clear hP11 hf0 hf1 hf2 hq he hr hrn hrx hrv hin hI6 h1i c2 HI6 hO9 hx2
      go_upto_region 53 with fail
      go_region
      go_wp2_with fail
      have hr1 := HRb.out
      have hp1 := HPb.out
      exact rErrD (c := 3) HW6.out.pw.ex HPe.out HW6.out.pw.res HW6.out.pw.pos (by omega) (by omega) n1 rfl rfl rfl
end
end Go.Proofs.YtpmponafjhnegaaGreatDoor
