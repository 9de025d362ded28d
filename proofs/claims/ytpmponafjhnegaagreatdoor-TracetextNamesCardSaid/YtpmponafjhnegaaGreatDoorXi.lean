/-
  The reference's number, walked.
  Conditions: as each theorem says.
-/
import Derived.Test.YtpmponafjhnegaaGreatDoorMb
namespace Go.Proofs.YtpmponafjhnegaaGreatDoor
open Go.RowKit Nu
/-- a number that stops growing above the greatest -/
def sat (n : Nat) : Nat := if n ≤ 1125899906842624 then n else 1125899906842625
theorem sat_step (n c : Nat) : sat (10 * n + c) = (if 10 * sat n + c ≤ 1125899906842625 then 10 * sat n + c else 1125899906842625) := by
  unfold sat
  repeat' split
  all_goals omega
theorem sat_le (n : Nat) : sat n ≤ 1125899906842625 := by unfold sat; split <;> omega
/-- where the digits stand -/
def NumC (s D : ByteArray) : Prop := (∃ h : 0 < s.size, ((s[0].toNat : Int) == 45) = true ∧ s.extract 1 s.size = D) ∨ (s = D ∧ ∃ h : 0 < s.size, ((s[0].toNat : Int) == 45) = false) ∨ (s = D ∧ s.size = 0)
theorem rnum_empty (s D : ByteArray) (w : World) (hs : s.size ≤ 20000) (hC : NumC s D) (h0 : D.size = 0) : Calls Tryz.prog 70 #[.string s] w (Ret w (Two 0 3)) := by
  have f2 : D.toList.isEmpty = true := by rw [nonempty_iff]; exact decide_eq_true h0
  unfold Two
  rcases hC with ⟨h1, h2, h3⟩ | ⟨h1, h2, h3⟩ | ⟨h1, h2⟩
  · go_enter Tryz.func70, Tryz.ntmps70
    go_wp2_with fail
    go_ret2
    exact Ret.mk rfl (Ex.refl _)
  · subst h1; omega
  · subst h1
    clear h0
    go_enter Tryz.func70, Tryz.ntmps70
    go_wp2_with fail
    go_ret2
    exact Ret.mk rfl (Ex.refl _)
theorem rnum_zero (s D : ByteArray) (w : World) (hs : s.size ≤ 20000) (hC : NumC s D) (h0 : 0 < D.size) (f5 : ((D[0].toNat : Int) == 48) = true) (f6 : (s.toList == [48]) = false) : Calls Tryz.prog 70 #[.string s] w (Ret w (Two 0 3)) := by
  have f2 : D.toList.isEmpty = false := by rw [nonempty_iff]; exact decide_eq_false (by omega)
  have f7 : (s.toList != [48]) = true := by unfold bne; rw [f6]; rfl
  have f8 : (!s.toList == [48]) = true := by rw [f6]; rfl
  unfold Two
  rcases hC with ⟨h1, h2, h3⟩ | ⟨h1, h2, h3⟩ | ⟨h1, h2⟩
  · go_enter Tryz.func70, Tryz.ntmps70
    go_wp2_with fail
    go_ret2
    exact Ret.mk rfl (Ex.refl _)
  · subst h1
    go_enter Tryz.func70, Tryz.ntmps70
    go_wp2_with fail
    go_ret2
    exact Ret.mk rfl (Ex.refl _)
  · subst h1; omega
set_option maxRecDepth 20000 in
set_option maxHeartbeats 3200000 in
theorem rnum_loop (s D : ByteArray) (w : World) (hs : s.size ≤ 20000) (hC : NumC s D) (hD : bs (pdig s.data.toList) = D) (h0 : 0 < D.size) (hz : (((D[0].toNat : Int) == 48) = true ∧ (s.toList == [48]) = true) ∨ ((D[0].toNat : Int) == 48) = false)
    (hF : formOk s.data.toList = D.data.toList.all isDig) : Calls Tryz.prog 70 #[.string s] w (Ret w (Two (parV s.data.toList) (parE s.data.toList))) := by
  have hDl : D.data.toList = pdig s.data.toList := by rw [← hD]
  have hDs : D.size ≤ 20000 := by
    have h1 := pdig_len s.data.toList
    rw [size_data, hDl]
    rw [size_data] at hs
    omega
  have f2 : D.toList.isEmpty = false := by rw [nonempty_iff]; exact decide_eq_false (by omega)
  have HBad : Hid (∀ k, (hk : k < D.size) → isDig D[k] = false → parE s.data.toList = 3 ∧ parV s.data.toList = 0) := fun k hk hb => parE_nil (by
    rw [hF, List.all_eq_false]
    exact ⟨D[k], List.mem_of_getElem? (get_idx hk), by rw [hb]; decide⟩)
  have HGood : Hid ((∀ k, (hk : k < D.size) → isDig D[k] = true) → formOk s.data.toList = true) := fun ha => by
    rw [hF, List.all_eq_true]
    intro x hx
    obtain ⟨i, hi, rfl⟩ := List.getElem_of_mem hx
    have h1 := ha i hi
    have h2 := get_idx (s := D) hi
    rw [List.getElem?_eq_getElem hi] at h2
    rw [Option.some.inj h2]
    exact h1
  have HV : Hid (formOk s.data.toList = true → valF 0 D.data.toList ≤ 1125899906842624 → parE s.data.toList = 0 ∧ parV s.data.toList = sgn s.data.toList (valF 0 D.data.toList)) := fun h1 h2 => by
    rw [hDl] at h2 ⊢
    unfold parE parV
    rw [if_pos h1, if_pos h1, if_pos h2, if_pos h2]
    exact ⟨rfl, rfl⟩
  have HO : Hid (formOk s.data.toList = true → ¬ valF 0 D.data.toList ≤ 1125899906842624 → parE s.data.toList = 9 ∧ parV s.data.toList = 0) := fun h1 h2 => by
    rw [hDl] at h2
    unfold parE parV
    rw [if_pos h1, if_pos h1, if_neg h2, if_neg h2]
    exact ⟨rfl, rfl⟩
  have HSn : Hid (∀ k, (hk : k < D.size) → valF 0 (D.data.toList.take (k + 1)) = valF 0 (D.data.toList.take k) * 10 + (D[k].toNat - 48)) := fun k hk => by
    rw [List.take_add_one, get_idx hk, valF_append]
    rfl
  have HTk : Hid (D.data.toList.take D.size = D.data.toList) := by
    have : D.size = D.data.toList.length := by simp
    show _ = _
    rw [this, List.take_length]
  have hz' : (((D[0].toNat : Int) == 48) = true ∧ (!s.toList == [48]) = false) ∨ ((D[0].toNat : Int) == 48) = false := by
    rcases hz with ⟨h1, h2⟩ | h
    · exact .inl ⟨h1, by rw [h2]; rfl⟩
    · exact .inr h
  have HSg1 : Hid (∀ h : 0 < s.size, ((s[0].toNat : Int) == 45) = true → ∀ n, sgn s.data.toList n = -(n : Int)) := fun h h1 n => by
    unfold sgn
    rw [head_idx h, if_pos]
    have := beq_iff_eq.1 h1
    have h2 : s[0].toNat = 45 := by omega
    rw [Option.some.injEq, ← UInt8.toNat_inj]
    exact h2
  have HSg2 : Hid (∀ h : 0 < s.size, ((s[0].toNat : Int) == 45) = false → ∀ n, sgn s.data.toList n = (n : Int)) := fun h h1 n => by
    unfold sgn
    rw [head_idx h, if_neg]
    have := beq_eq_false_iff_ne.1 h1
    rw [Option.some.injEq, ← UInt8.toNat_inj]
    intro h2
    apply this
    have : s[0].toNat = 45 := h2
    omega
  have HLen : Hid (∀ h : 0 < s.size, ((s[0].toNat : Int) == 45) = true → D.size < s.size) := fun h h1 => by
    have h2 : s.data.toList.head? = some s[0] := head_idx h
    rw [size_data, size_data, hDl]
    cases hl : s.data.toList with
    | nil => rw [hl] at h2; cases h2
    | cons a r =>
      rw [hl] at h2
      have h3 : a = s[0] := by simpa using h2
      have h4 : a = 45 := by
        rw [h3, ← UInt8.toNat_inj]
        have := beq_iff_eq.1 h1
        show s[0].toNat = 45
        omega
      show (if a = 45 then r else a :: r).length < _
      rw [if_pos h4]
      simp
  have HD0 := Lib.hid h0
  clear hF hDl hD hz
  unfold Two
  generalize parV s.data.toList = V at *
  generalize parE s.data.toList = E at *
  generalize formOk s.data.toList = F at *
  rcases hC with ⟨p1, p2, p3⟩ | ⟨p1, p2, p3⟩ | ⟨p1, p2⟩
  · have HSgn := Lib.hid (HSg1.out p1 p2)
    have hlen := HLen.out p1 p2
    have hlt0 : decide ((D.size : Int) < (s.size : Int)) = true := decide_eq_true (by omega)
    clear HSg1 HSg2 HLen
    generalize sgn s.data.toList = sg at *
    rcases hz' with ⟨f5, f6⟩ | f5
    all_goals
      go_enter Tryz.func70, Tryz.ntmps70
      go_wp2_with fail
      go_loopg [5, 6] D.size (fun gg N i wx => ∃ k : Nat, N = .int .i64 (sat (valF 0 (D.data.toList.take k)) : Int) ∧ i = .int .i64 (k : Int) ∧ k ≤ D.size ∧ D.size ≤ k + gg ∧ Hid ((∀ j, (hj : j < D.size) → j < k → isDig D[j] = true) ∧ Ex w wx))
      case atStart => exact ⟨0, rfl, rfl, by omega, by omega, Lib.hid ⟨(fun j _ hj => absurd hj (by omega)), Ex.refl _⟩⟩
      case round =>
        obtain ⟨k, rfl, rfl, hk, hkg, HH⟩ := hrel
        by_cases hlt : k < D.size
        · obtain ⟨n8, rfl⟩ : ∃ n8, gk = n8 + 1 := ⟨gk - 1, by omega⟩
          have hki : (k : Int) < (D.size : Int) := by omega
          have HBk := Lib.hid (HBad.out k hlt)
          have HSk := Lib.hid (HSn.out k hlt)
          have HN : Hid (isDig D[k] = true → ∀ j, (hj : j < D.size) → j < k + 1 → isDig D[j] = true) := fun hp j hj hjk => by
            by_cases h : j < k
            · exact HH.out.1 j hj h
            · obtain rfl : j = k := by omega
              exact hp
          have HI : Hid (isDig D[k] = (decide (48 ≤ D[k].toNat) && decide (D[k].toNat ≤ 57))) := rfl
          generalize isDig D[k] = q at *
          obtain ⟨c, hc⟩ : ∃ c : Nat, c = D[k].toNat := ⟨_, rfl⟩
          rw [← hc] at HI HSk
          have hc2 : (D[k].toNat : Int) = (c : Int) := by rw [hc]
          clear hc
          cases q with
          | false =>
            obtain ⟨e1, e2⟩ := HBk.out rfl
            subst e1 e2
            have hi := HI.out
            have d1 : ¬ (48 ≤ c ∧ c ≤ 57) := fun h => by simp [h.1, h.2] at hi
            clear hi
            cases g1 : decide ((c : Int) < 48) <;> cases g2 : decide ((57 : Int) < (c : Int))
            all_goals first | (exfalso; simp only [decide_eq_true_eq, decide_eq_false_iff_not] at g1 g2; omega) | skip
            all_goals
              clear d1
              go_wp2_with fail
              go_ret2
              exact Ret.mk rfl HH.out.2
          | true =>
            have HN' := Lib.hid (HN.out rfl)
            have hi := HI.out
            have d1 : 48 ≤ c ∧ c ≤ 57 := by simpa using hi.symm
            clear hi
            have g1 : decide ((c : Int) < 48) = false := decide_eq_false (by omega)
            have g2 : decide ((57 : Int) < (c : Int)) = false := decide_eq_false (by omega)
            have hst := sat_step (valF 0 (D.data.toList.take k)) (c - 48)
            rw [show 10 * valF 0 (D.data.toList.take k) + (c - 48) = valF 0 (D.data.toList.take (k + 1)) by rw [HSk.out]; omega] at hst
            have hsl := sat_le (valF 0 (D.data.toList.take k))
            have HSt := Lib.hid hst
            clear hst
            generalize sat (valF 0 (D.data.toList.take k)) = a at *
            obtain ⟨d, rfl⟩ : ∃ d, c = d + 48 := ⟨c - 48, by omega⟩
            have hc3 : ((d + 48 : Nat) : Int) = (d : Int) + 48 := by omega
            rw [hc3] at hc2 g1 g2
            have hd : d ≤ 9 := by omega
            have e1 : IntKind.i64.wrap (10 * (a : Int)) = 10 * (a : Int) := IntWalk.i64_in _ (by omega)
            have e2 : IntKind.u8.wrap ((d : Int) + 48 - 48) = (d : Int) := by rw [IntKind.wrap_u8]; omega
            have e3 : IntKind.i64.wrap (d : Int) = (d : Int) := IntWalk.i64_in _ (by omega)
            have e4 : IntKind.i64.wrap (10 * (a : Int) + (d : Int)) = 10 * (a : Int) + (d : Int) := IntWalk.i64_in _ (by omega)
            clear d1
            go_wp2_with fail
            go_roundg n8
            case measure => omega
            case rel =>
              refine ⟨k + 1, ?_, by go_num, by omega, by omega, Lib.hid ⟨HN'.out, HH.out.2⟩⟩
              rw [HSt.out]
              have hmn : min (10 * (a : Int) + (d : Int)) 1125899906842625 = ((if 10 * a + (d + 48 - 48) ≤ 1125899906842625 then 10 * a + (d + 48 - 48) else 1125899906842625 : Nat) : Int) := by
                rw [Int.min_def]
                split <;> split <;> omega
              rw [hmn]
        · obtain rfl : k = D.size := by omega
          have ef := HGood.out (fun j hj => HH.out.1 j hj hj)
          have HT := HTk.out
          rw [HT]
          have HV1 := Lib.hid (HV.out ef)
          have HO1 := Lib.hid (HO.out ef)
          clear HT HV HO ef
          generalize valF 0 D.data.toList = M at *
          by_cases hb : M ≤ 1125899906842624
          · have hsa : sat M = M := by unfold sat; rw [if_pos hb]
            rw [hsa]
            obtain ⟨e1, e2⟩ := HV1.out hb
            rw [HSgn.out] at e2
            subst e1 e2
            have g1 : decide (1125899906842624 < (M : Int)) = false := decide_eq_false (by omega)
            have g3 : IntKind.i64.wrap (-(M : Int)) = -(M : Int) := IntWalk.i64_in _ (by omega)
            clear hb
            go_wp2_with fail
            go_ret2
            exact Ret.mk rfl HH.out.2
          · have hsa : sat M = 1125899906842625 := by unfold sat; rw [if_neg hb]
            rw [hsa]
            obtain ⟨e1, e2⟩ := HO1.out hb
            subst e1 e2
            clear hb
            go_wp2_with fail
            go_ret2
            exact Ret.mk rfl HH.out.2
  · have HSgn := Lib.hid (HSg2.out p2 p3)
    clear HSg1 HSg2 HLen
    generalize sgn s.data.toList = sg at *
    have p4 := p1.symm
    clear p1
    subst p4
    rcases hz' with ⟨f5, f6⟩ | f5
    all_goals
      go_enter Tryz.func70, Tryz.ntmps70
      go_wp2_with fail
      go_loopg [5, 6] D.size (fun gg N i wx => ∃ k : Nat, N = .int .i64 (sat (valF 0 (D.data.toList.take k)) : Int) ∧ i = .int .i64 (k : Int) ∧ k ≤ D.size ∧ D.size ≤ k + gg ∧ Hid ((∀ j, (hj : j < D.size) → j < k → isDig D[j] = true) ∧ Ex w wx))
      case atStart => exact ⟨0, rfl, rfl, by omega, by omega, Lib.hid ⟨(fun j _ hj => absurd hj (by omega)), Ex.refl _⟩⟩
      case round =>
        obtain ⟨k, rfl, rfl, hk, hkg, HH⟩ := hrel
        by_cases hlt : k < D.size
        · obtain ⟨n8, rfl⟩ : ∃ n8, gk = n8 + 1 := ⟨gk - 1, by omega⟩
          have hki : (k : Int) < (D.size : Int) := by omega
          have HBk := Lib.hid (HBad.out k hlt)
          have HSk := Lib.hid (HSn.out k hlt)
          have HN : Hid (isDig D[k] = true → ∀ j, (hj : j < D.size) → j < k + 1 → isDig D[j] = true) := fun hp j hj hjk => by
            by_cases h : j < k
            · exact HH.out.1 j hj h
            · obtain rfl : j = k := by omega
              exact hp
          have HI : Hid (isDig D[k] = (decide (48 ≤ D[k].toNat) && decide (D[k].toNat ≤ 57))) := rfl
          generalize isDig D[k] = q at *
          obtain ⟨c, hc⟩ : ∃ c : Nat, c = D[k].toNat := ⟨_, rfl⟩
          rw [← hc] at HI HSk
          have hc2 : (D[k].toNat : Int) = (c : Int) := by rw [hc]
          clear hc
          cases q with
          | false =>
            obtain ⟨e1, e2⟩ := HBk.out rfl
            subst e1 e2
            have hi := HI.out
            have d1 : ¬ (48 ≤ c ∧ c ≤ 57) := fun h => by simp [h.1, h.2] at hi
            clear hi
            cases g1 : decide ((c : Int) < 48) <;> cases g2 : decide ((57 : Int) < (c : Int))
            all_goals first | (exfalso; simp only [decide_eq_true_eq, decide_eq_false_iff_not] at g1 g2; omega) | skip
            all_goals
              clear d1
              go_wp2_with fail
              go_ret2
              exact Ret.mk rfl HH.out.2
          | true =>
            have HN' := Lib.hid (HN.out rfl)
            have hi := HI.out
            have d1 : 48 ≤ c ∧ c ≤ 57 := by simpa using hi.symm
            clear hi
            have g1 : decide ((c : Int) < 48) = false := decide_eq_false (by omega)
            have g2 : decide ((57 : Int) < (c : Int)) = false := decide_eq_false (by omega)
            have hst := sat_step (valF 0 (D.data.toList.take k)) (c - 48)
            rw [show 10 * valF 0 (D.data.toList.take k) + (c - 48) = valF 0 (D.data.toList.take (k + 1)) by rw [HSk.out]; omega] at hst
            have hsl := sat_le (valF 0 (D.data.toList.take k))
            have HSt := Lib.hid hst
            clear hst
            generalize sat (valF 0 (D.data.toList.take k)) = a at *
            obtain ⟨d, rfl⟩ : ∃ d, c = d + 48 := ⟨c - 48, by omega⟩
            have hc3 : ((d + 48 : Nat) : Int) = (d : Int) + 48 := by omega
            rw [hc3] at hc2 g1 g2
            have hd : d ≤ 9 := by omega
            have e1 : IntKind.i64.wrap (10 * (a : Int)) = 10 * (a : Int) := IntWalk.i64_in _ (by omega)
            have e2 : IntKind.u8.wrap ((d : Int) + 48 - 48) = (d : Int) := by rw [IntKind.wrap_u8]; omega
            have e3 : IntKind.i64.wrap (d : Int) = (d : Int) := IntWalk.i64_in _ (by omega)
            have e4 : IntKind.i64.wrap (10 * (a : Int) + (d : Int)) = 10 * (a : Int) + (d : Int) := IntWalk.i64_in _ (by omega)
            clear d1
            go_wp2_with fail
            go_roundg n8
            case measure => omega
            case rel =>
              refine ⟨k + 1, ?_, by go_num, by omega, by omega, Lib.hid ⟨HN'.out, HH.out.2⟩⟩
              rw [HSt.out]
              have hmn : min (10 * (a : Int) + (d : Int)) 1125899906842625 = ((if 10 * a + (d + 48 - 48) ≤ 1125899906842625 then 10 * a + (d + 48 - 48) else 1125899906842625 : Nat) : Int) := by
                rw [Int.min_def]
                split <;> split <;> omega
              rw [hmn]
        · obtain rfl : k = D.size := by omega
          have ef := HGood.out (fun j hj => HH.out.1 j hj hj)
          have HT := HTk.out
          rw [HT]
          have HV1 := Lib.hid (HV.out ef)
          have HO1 := Lib.hid (HO.out ef)
          clear HT HV HO ef
          generalize valF 0 D.data.toList = M at *
          by_cases hb : M ≤ 1125899906842624
          · have hsa : sat M = M := by unfold sat; rw [if_pos hb]
            rw [hsa]
            obtain ⟨e1, e2⟩ := HV1.out hb
            rw [HSgn.out] at e2
            subst e1 e2
            have g1 : decide (1125899906842624 < (M : Int)) = false := decide_eq_false (by omega)
            have g3 : IntKind.i64.wrap (-(M : Int)) = -(M : Int) := IntWalk.i64_in _ (by omega)
            clear hb
            go_wp2_with fail
            go_ret2
            exact Ret.mk rfl HH.out.2
          · have hsa : sat M = 1125899906842625 := by unfold sat; rw [if_neg hb]
            rw [hsa]
            obtain ⟨e1, e2⟩ := HO1.out hb
            subst e1 e2
            clear hb
            go_wp2_with fail
            go_ret2
            exact Ret.mk rfl HH.out.2
  · subst p1; omega
theorem numC_of (s : ByteArray) : NumC s (bs (pdig s.data.toList)) := by
  by_cases h : 0 < s.size
  · have h2 : s.data.toList.head? = some s[0] := head_idx h
    cases hl : s.data.toList with
    | nil => rw [hl] at h2; cases h2
    | cons a r =>
      rw [hl] at h2
      have h3 : a = s[0] := by simpa using h2
      by_cases h4 : a = 45
      · refine .inl ⟨h, ?_, ?_⟩
        · rw [← h3, h4]; rfl
        · apply ByteArray.ext
          apply Array.toList_inj.1
          have e1 : (bs (pdig (a :: r))).data.toList = r := by show (if a = 45 then r else a :: r) = _; rw [if_pos h4]
          have e2 : s.size = r.length + 1 := by rw [size_data, hl]; rfl
          rw [e1, Lib.extract_data, hl, e2]
          simp
      · refine .inr (.inl ⟨?_, h, ?_⟩)
        · have : pdig (a :: r) = a :: r := by show (if a = 45 then r else a :: r) = _; rw [if_neg h4]
          rw [this, ← hl]
        · rw [← h3]
          apply beq_eq_false_iff_ne.2
          intro h5
          apply h4
          rw [← UInt8.toNat_inj]
          show a.toNat = 45
          omega
  · have h0 : s.size = 0 := by omega
    refine .inr (.inr ⟨?_, h0⟩)
    have : s.data.toList = [] := List.length_eq_zero_iff.1 (by rw [← size_data]; exact h0)
    rw [this]
    apply ByteArray.ext
    apply Array.toList_inj.1
    rw [this]
    rfl
theorem rnumber_c (s : ByteArray) (w : World) (hs : s.size ≤ 20000) : Calls Tryz.prog 70 #[.string s] w (Ret w (Two (parV s.data.toList) (parE s.data.toList))) := by
  obtain ⟨D, hD⟩ : ∃ D : ByteArray, bs (pdig s.data.toList) = D := ⟨_, rfl⟩
  have hDl : D.data.toList = pdig s.data.toList := by rw [← hD]
  have hC : NumC s D := by rw [← hD]; exact numC_of s
  by_cases h0 : D.size = 0
  · have e : formOk s.data.toList = false := by
      have : pdig s.data.toList = [] := by rw [← hDl]; exact List.length_eq_zero_iff.1 h0
      unfold formOk; simp [this]
    obtain ⟨e1, e2⟩ := parE_nil e
    rw [e1, e2]
    exact rnum_empty s D w hs hC h0
  · have h1 : 0 < D.size := by omega
    have hh := head_idx h1
    rw [hDl] at hh
    have hz : ((D[0].toNat : Int) == 48) = decide (D[0] = 48) := by
      rw [Bool.eq_iff_iff, beq_iff_eq, decide_eq_true_eq, ← UInt8.toNat_inj]
      show _ ↔ D[0].toNat = 48
      omega
    have hs48 : (s.toList == [48]) = decide (s.data.toList = [48]) := by
      rw [Lib.toList_data, Bool.eq_iff_iff]; simp
    have hne : (pdig s.data.toList).isEmpty = false := by
      cases hp : pdig s.data.toList with
      | nil => rw [hp] at hh; cases hh
      | cons a b => rfl
    have hform : formOk s.data.toList = ((pdig s.data.toList).all isDig && !(decide (D[0] = 48) && decide (s.data.toList ≠ [48]))) := by
      unfold formOk
      rw [hne, hh]
      simp
    by_cases h5 : D[0] = 48
    · by_cases h6 : s.data.toList = [48]
      · exact rnum_loop s D w hs hC hD h1 (.inl ⟨by rw [hz]; simpa using h5, by rw [hs48]; simpa using h6⟩) (by rw [hform, hDl]; simp [h6])
      · have e : formOk s.data.toList = false := by rw [hform]; simp [h5, h6]
        obtain ⟨e1, e2⟩ := parE_nil e
        rw [e1, e2]
        exact rnum_zero s D w hs hC h1 (by rw [hz]; simpa using h5) (by rw [hs48]; simpa using h6)
    · exact rnum_loop s D w hs hC hD h1 (.inr (by rw [hz]; simpa using h5)) (by rw [hform, hDl]; simp [h5])
end Go.Proofs.YtpmponafjhnegaaGreatDoor
