/-
  Names and numbers of texts, walked.
  Conditions: as each theorem says; the world's tables are as laid (Env).
-/
import Derived.Test.YtpmponafjhnegaaGreatDoorMa
namespace Go.Proofs.YtpmponafjhnegaaGreatDoor
open Go.RowKit Nu
set_option maxRecDepth 20000 in
set_option maxHeartbeats 3200000 in
theorem tName_c (s : ByteArray) (w : World) (h : s.size ≤ maxLen) : Calls Tryz.prog 50 #[.string s] w (Ret w (.bool (nameB s))) := by
  unfold maxLen at h
  by_cases h0 : s.size = 0
  · rw [name_nil h0]
    have f1 : s.toList.isEmpty = true := by rw [nonempty_iff]; exact decide_eq_true h0
    clear h0
    go_enter Tryz.func50, Tryz.ntmps50
    go_wp2_with fail
    go_ret
    exact Ret.mk rfl (Ex.refl _)
  have f1 : s.toList.isEmpty = false := by rw [nonempty_iff]; exact decide_eq_false h0
  by_cases h16 : 16 < s.size
  · rw [name_long h16]
    have f2 : decide (16 < (s.size : Int)) = true := decide_eq_true (by omega)
    clear h0
    go_enter Tryz.func50, Tryz.ntmps50
    go_wp2_with fail
    go_ret
    exact Ret.mk rfl (Ex.refl _)
  have f2 : decide (16 < (s.size : Int)) = false := decide_eq_false (by omega)
  have h1 : 0 < s.size := by omega
  have HG : Hid (letB s[0] = true → (∀ j, (hj : j < s.size) → prtB s[j] = true) → nameB s = true) := fun hl ha => name_good h1 (by omega) hl ha
  have HB : Hid (∀ k, (hk : k < s.size) → prtB s[k] = false → nameB s = false) := fun k hk hb => name_bad hk hb
  have H0 : Hid (letB s[0] = false → nameB s = false) := fun hl => name_head h1 hl
  clear h0
  generalize nameB s = B at *
  go_enter Tryz.func50, Tryz.ntmps50
  go_wp2_with fail
  go_loopw [3, 4, 5, 15] (fun _ _ _ n wr => ∃ k : Nat, n = .int .i64 k ∧ k ≤ s.size ∧ Hid (∀ j, (hj : j < s.size) → j < k → prtB s[j] = true) ∧ Hid (0 < k → letB s[0] = true) ∧ Ex w wr) (fun _ _ _ n _ => s.size - (intOf n).toNat)
  case atStart => exact ⟨0, rfl, by omega, (fun j _ hj => absurd hj (by omega)), (fun h => absurd h (by omega)), Ex.refl _⟩
  case round =>
    obtain ⟨k, rfl, hk, HA, HL, hx⟩ := hrel
    have HX := Lib.hid hx
    clear hx
    by_cases hlt : k < s.size
    · have hki : (k : Int) < (s.size : Int) := by omega
      have HStop := Lib.hid (HB.out k hlt)
      have HAll : Hid (prtB s[k] = true → ∀ j, (hj : j < s.size) → j < k + 1 → prtB s[j] = true) := fun hp j hj hjk => by
        by_cases h : j < k
        · exact HA.out j hj h
        · obtain rfl : j = k := by omega
          exact hp
      have HL0 : Hid (k = 0 → letB s[k] = letB s[0]) := fun h => by subst h; rfl
      have HLe : Hid (letB s[k] = ((decide (97 ≤ s[k].toNat) && decide (s[k].toNat ≤ 122)) || (decide (65 ≤ s[k].toNat) && decide (s[k].toNat ≤ 90)))) := rfl
      have HPe : Hid (prtB s[k] = (letB s[k] || (decide (48 ≤ s[k].toNat) && decide (s[k].toNat ≤ 57)) || decide (s[k].toNat = 95))) := rfl
      generalize letB s[k] = q1 at *
      generalize prtB s[k] = q2 at *
      obtain ⟨c, hc⟩ : ∃ c : Nat, c = s[k].toNat := ⟨_, rfl⟩
      rw [← hc] at HLe HPe
      have hc2 : (s[k].toNat : Int) = (c : Int) := by rw [hc]
      clear hc
      have HN : Hid (q2 = true → (0 < k + 1 → letB s[0] = true) → ∀ j, (hj : j < s.size) → j < k + 1 → prtB s[j] = true) := fun h _ => HAll.out h
      by_cases hk0 : k = 0
      · have E1 := Lib.hid (HL0.out hk0)
        clear HL0
        subst hk0
        cases q1 with
        | false =>
          have e := H0.out E1.out.symm
          subst e
          have hle := HLe.out
          have d1 : ¬ (97 ≤ c ∧ c ≤ 122) := fun h => by simp [h.1, h.2] at hle
          have d2 : ¬ (65 ≤ c ∧ c ≤ 90) := fun h => by simp [h.1, h.2] at hle
          clear hle
          cases g1 : decide ((97 : Int) ≤ (c : Int)) <;> cases g2 : decide ((c : Int) ≤ 122) <;> cases g3 : decide ((65 : Int) ≤ (c : Int)) <;> cases g4 : decide ((c : Int) ≤ 90)
          all_goals first | (exfalso; simp only [decide_eq_true_eq, decide_eq_false_iff_not] at g1 g2 g3 g4; omega) | skip
          all_goals
            clear d1 d2
            go_wp2_with fail
            go_ret
            exact Ret.mk rfl HX.out
        | true =>
          have hq : q2 = true := by rw [HPe.out]; rfl
          subst hq
          have HAll' := Lib.hid (HAll.out rfl)
          have hle := HLe.out
          have d1 : (97 ≤ c ∧ c ≤ 122) ∨ (65 ≤ c ∧ c ≤ 90) := by simpa using hle.symm
          have HL1 : Hid (letB s[0] = true) := E1.out.symm
          clear hle
          cases g1 : decide ((97 : Int) ≤ (c : Int)) <;> cases g2 : decide ((c : Int) ≤ 122) <;> cases g3 : decide ((65 : Int) ≤ (c : Int)) <;> cases g4 : decide ((c : Int) ≤ 90)
          all_goals first | (exfalso; simp only [decide_eq_true_eq, decide_eq_false_iff_not] at g1 g2 g3 g4; omega) | skip
          all_goals
            clear d1
            go_wp2_with fail
            exact ⟨⟨1, by go_num, by omega, HAll'.out, fun _ => HL1.out, HX.out⟩, by simp [intOf]; omega⟩
      · have z0 : ((k : Int) == 0) = false := beq_eq_false_iff_ne.2 (by omega)
        have HLk := Lib.hid (HL.out (by omega))
        cases q2 with
        | false =>
          have e := HStop.out rfl
          subst e
          have hpe := HPe.out
          rw [HLe.out] at hpe
          have d1 : ¬ (97 ≤ c ∧ c ≤ 122) := fun h => by simp [h.1, h.2] at hpe
          have d2 : ¬ (65 ≤ c ∧ c ≤ 90) := fun h => by simp [h.1, h.2] at hpe
          have d3 : ¬ (48 ≤ c ∧ c ≤ 57) := fun h => by simp [h.1, h.2] at hpe
          have d4 : ¬ c = 95 := fun h => by simp [h] at hpe
          have b4 : ((c : Int) == 95) = false := beq_eq_false_iff_ne.2 (by omega)
          have b5 : ((c : Int) != 95) = true := by unfold bne; rw [b4]; rfl
          clear hpe
          cases g1 : decide ((97 : Int) ≤ (c : Int)) <;> cases g2 : decide ((c : Int) ≤ 122) <;> cases g3 : decide ((65 : Int) ≤ (c : Int)) <;> cases g4 : decide ((c : Int) ≤ 90) <;> cases g5 : decide ((c : Int) < 48) <;> cases g6 : decide ((57 : Int) < (c : Int))
          all_goals first | (exfalso; simp only [decide_eq_true_eq, decide_eq_false_iff_not] at g1 g2 g3 g4 g5 g6; omega) | skip
          all_goals
            clear d1 d2 d3 d4
            go_wp2_with fail
            go_ret
            exact Ret.mk rfl HX.out
        | true =>
          have HAll' := Lib.hid (HAll.out rfl)
          have hpe := HPe.out
          rw [HLe.out] at hpe
          have d1 : (97 ≤ c ∧ c ≤ 122) ∨ (65 ≤ c ∧ c ≤ 90) ∨ (48 ≤ c ∧ c ≤ 57) ∨ c = 95 := by
            simp only [Bool.or_eq_true, Bool.and_eq_true, decide_eq_true_eq, Bool.true_eq] at hpe
            omega
          clear hpe
          cases b4 : ((c : Int) == 95) with
          | true =>
            have g0 : c = 95 := by have := beq_iff_eq.1 b4; omega
            have b5 : ((c : Int) != 95) = false := by unfold bne; rw [b4]; rfl
            cases g1 : decide ((97 : Int) ≤ (c : Int)) <;> cases g2 : decide ((c : Int) ≤ 122) <;> cases g3 : decide ((65 : Int) ≤ (c : Int)) <;> cases g4 : decide ((c : Int) ≤ 90) <;> cases g5 : decide ((c : Int) < 48) <;> cases g6 : decide ((57 : Int) < (c : Int))
            all_goals first | (exfalso; simp only [decide_eq_true_eq, decide_eq_false_iff_not] at g1 g2 g3 g4 g5 g6; omega) | skip
            all_goals
              clear d1 g0
              go_wp2_with fail
              exact ⟨⟨k + 1, by go_num, by omega, HAll'.out, fun _ => HLk.out, HX.out⟩, by simp [intOf]; omega⟩
          | false =>
            have g0 : ¬ c = 95 := fun h => beq_eq_false_iff_ne.1 b4 (by omega)
            have b5 : ((c : Int) != 95) = true := by unfold bne; rw [b4]; rfl
            cases g1 : decide ((97 : Int) ≤ (c : Int)) <;> cases g2 : decide ((c : Int) ≤ 122) <;> cases g3 : decide ((65 : Int) ≤ (c : Int)) <;> cases g4 : decide ((c : Int) ≤ 90) <;> cases g5 : decide ((c : Int) < 48) <;> cases g6 : decide ((57 : Int) < (c : Int))
            all_goals first | (exfalso; simp only [decide_eq_true_eq, decide_eq_false_iff_not] at g1 g2 g3 g4 g5 g6; omega) | skip
            all_goals
              clear d1 g0
              go_wp2_with fail
              exact ⟨⟨k + 1, by go_num, by omega, HAll'.out, fun _ => HLk.out, HX.out⟩, by simp [intOf]; omega⟩
    · obtain rfl : k = s.size := by omega
      have e := HG.out (HL.out h1) (fun j hj => HA.out j hj hj)
      subst e
      go_wp2_with fail
      go_ret
      exact Ret.mk rfl HX.out
/-- a number and its error -/
def Two (n e : Int) : Value := .tuple #[.int .i64 n, .int .i64 e]
theorem pdig_len (l : List UInt8) : (pdig l).length ≤ l.length := by
  unfold pdig
  match l with
  | [] => exact Nat.le_refl _
  | c :: r =>
    dsimp only
    split
    · rw [List.length_cons]; omega
    · exact Nat.le_refl _
theorem parE_nil {l : List UInt8} (h : formOk l = false) : parE l = 3 ∧ parV l = 0 := by
  unfold parE parV
  rw [h]
  exact ⟨rfl, rfl⟩
theorem dec_empty (s D : ByteArray) (w : World) (hD : bs (pdig s.data.toList) = D) (h0 : D.size = 0) : Calls Tryz.prog 49 #[.string s] w (Ret w (Two 0 3)) := by
  have H1 := Lib.hid (fun w => trimP_c s w)
  rw [hD] at H1
  have f2 : D.toList.isEmpty = true := by rw [nonempty_iff]; exact decide_eq_true h0
  clear hD h0
  unfold Two
  go_enter Tryz.func49, Tryz.ntmps49
  go_wp2_with fail
  refine (H1.out _).mono ?_
  rintro e w' ⟨rfl, z, rfl⟩
  go_wp2_with fail
  go_ret2
  exact Ret.mk rfl ((Ex.refl _).ext _)
theorem dec_zero (s D : ByteArray) (w : World) (hD : bs (pdig s.data.toList) = D) (h0 : 0 < D.size) (f5 : ((D[0].toNat : Int) == 48) = true) (f6 : (s.toList == [48]) = false) : Calls Tryz.prog 49 #[.string s] w (Ret w (Two 0 3)) := by
  have H1 := Lib.hid (fun w => trimP_c s w)
  rw [hD] at H1
  have f2 : D.toList.isEmpty = false := by rw [nonempty_iff]; exact decide_eq_false (by omega)
  have f7 : (s.toList != [48]) = true := by unfold bne; rw [f6]; rfl
  have f8 : (!s.toList == [48]) = true := by rw [f6]; rfl
  clear hD
  unfold Two
  go_enter Tryz.func49, Tryz.ntmps49
  go_wp2_with fail
  refine (H1.out _).mono ?_
  rintro e w' ⟨rfl, z, rfl⟩
  go_wp2_with fail
  go_ret2
  exact Ret.mk rfl ((Ex.refl _).ext _)
set_option maxRecDepth 20000 in
set_option maxHeartbeats 1600000 in
theorem dec_loop (s D : ByteArray) (w : World) (hE : Env w) (hs : s.size ≤ 20000) (hD : bs (pdig s.data.toList) = D) (h0 : 0 < D.size) (hz : (((D[0].toNat : Int) == 48) = true ∧ (s.toList == [48]) = true) ∨ ((D[0].toNat : Int) == 48) = false)
    (hF : formOk s.data.toList = D.data.toList.all isDig) : Calls Tryz.prog 49 #[.string s] w (Ret w (Two (parV s.data.toList) (parE s.data.toList))) := by
  have H1 := Lib.hid (fun w => trimP_c s w)
  rw [hD] at H1
  have hDl : D.data.toList = pdig s.data.toList := by rw [← hD]
  have hDs : D.size ≤ 20000 := by
    have h1 := pdig_len s.data.toList
    rw [size_data, hDl]
    rw [size_data] at hs
    omega
  have f2 : D.toList.isEmpty = false := by rw [nonempty_iff]; exact decide_eq_false (by omega)
  have HBad : Hid (∀ k, (hk : k < D.size) → isDig D[k] = false → parE s.data.toList = 3 ∧ parV s.data.toList = 0) := fun k hk hb => parE_nil (by
    rw [hF, List.all_eq_false]
    exact ⟨D[k], List.mem_of_getElem? (get_idx hk), by rw [hb]; decide⟩)
  have HGood : Hid ((∀ k, (hk : k < D.size) → isDig D[k] = true) → formOk s.data.toList = true) := fun ha => by
    rw [hF, List.all_eq_true]
    intro x hx
    obtain ⟨i, hi, rfl⟩ := List.getElem_of_mem hx
    have h1 := ha i hi
    have h2 := get_idx (s := D) hi
    rw [List.getElem?_eq_getElem hi] at h2
    rw [Option.some.inj h2]
    exact h1
  have HA : Hid (∀ w', Ex w w' → formOk s.data.toList = true → Calls Tryz.prog 84 #[.string s] w' (AtoiR w' s.data.toList)) := fun w' hx h => atoi_c s w' (hE.ex hx) hs h
  have HV : Hid (formOk s.data.toList = true → valF 0 (pdig s.data.toList) ≤ 1125899906842624 → parE s.data.toList = 0 ∧ parV s.data.toList = sgn s.data.toList (valF 0 (pdig s.data.toList))) := fun h1 h2 => by
    unfold parE parV
    rw [if_pos h1, if_pos h1, if_pos h2, if_pos h2]
    exact ⟨rfl, rfl⟩
  have HO : Hid (formOk s.data.toList = true → ¬ valF 0 (pdig s.data.toList) ≤ 1125899906842624 → parE s.data.toList = 9 ∧ parV s.data.toList = 0) := fun h1 h2 => by
    unfold parE parV
    rw [if_pos h1, if_pos h1, if_neg h2, if_neg h2]
    exact ⟨rfl, rfl⟩
  have HS : Hid (sgn s.data.toList (valF 0 (pdig s.data.toList)) = (valF 0 (pdig s.data.toList) : Int) ∨ sgn s.data.toList (valF 0 (pdig s.data.toList)) = -(valF 0 (pdig s.data.toList) : Int)) := by
    show _ ∨ _
    unfold sgn
    split
    · exact .inr rfl
    · exact .inl rfl
  have hz' : (((D[0].toNat : Int) == 48) = true ∧ (!s.toList == [48]) = false) ∨ ((D[0].toNat : Int) == 48) = false := by
    rcases hz with ⟨h1, h2⟩ | h
    · exact .inl ⟨h1, by rw [h2]; rfl⟩
    · exact .inr h
  unfold AtoiR at HA
  clear hE hF hDl hD hz
  unfold Two
  generalize sgn s.data.toList (valF 0 (pdig s.data.toList)) = v at *
  generalize valF 0 (pdig s.data.toList) = N at *
  generalize parV s.data.toList = V at *
  generalize parE s.data.toList = E at *
  generalize formOk s.data.toList = F at *
  rcases hz' with ⟨f5, f6⟩ | f5
  all_goals
    go_enter Tryz.func49, Tryz.ntmps49
    go_wp2_with fail
    refine (H1.out _).mono ?_
    rintro e w1 ⟨rfl, hx1⟩
    have HX1 := Lib.hid hx1
    clear hx1
    go_wp2_with fail
    go_loopw [5, 23] (fun _ i wr => ∃ k : Nat, i = .int .i64 k ∧ k ≤ D.size ∧ Hid (∀ j, (hj : j < D.size) → j < k → isDig D[j] = true) ∧ Ex w wr) (fun _ i _ => D.size - (intOf i).toNat)
    case atStart => exact ⟨0, rfl, by omega, (fun j _ hj => absurd hj (by omega)), HX1.out⟩
    case round =>
      obtain ⟨k, rfl, hk, HAll, hx⟩ := hrel
      have HX := Lib.hid hx
      clear hx
      by_cases hlt : k < D.size
      · have hki : (k : Int) < (D.size : Int) := by omega
        have HBk := Lib.hid (HBad.out k hlt)
        have HN : Hid (isDig D[k] = true → ∀ j, (hj : j < D.size) → j < k + 1 → isDig D[j] = true) := fun hp j hj hjk => by
          by_cases h : j < k
          · exact HAll.out j hj h
          · obtain rfl : j = k := by omega
            exact hp
        have HI : Hid (isDig D[k] = (decide (48 ≤ D[k].toNat) && decide (D[k].toNat ≤ 57))) := rfl
        generalize isDig D[k] = q at *
        obtain ⟨c, hc⟩ : ∃ c : Nat, c = D[k].toNat := ⟨_, rfl⟩
        rw [← hc] at HI
        have hc2 : (D[k].toNat : Int) = (c : Int) := by rw [hc]
        clear hc
        cases q with
        | false =>
          obtain ⟨e1, e2⟩ := HBk.out rfl
          subst e1 e2
          have hi := HI.out
          have d1 : ¬ (48 ≤ c ∧ c ≤ 57) := fun h => by simp [h.1, h.2] at hi
          clear hi
          cases g1 : decide ((c : Int) < 48) <;> cases g2 : decide ((57 : Int) < (c : Int))
          all_goals first | (exfalso; simp only [decide_eq_true_eq, decide_eq_false_iff_not] at g1 g2; omega) | skip
          all_goals
            clear d1
            go_wp2_with fail
            go_ret2
            exact Ret.mk rfl HX.out
        | true =>
          have HN' := Lib.hid (HN.out rfl)
          have hi := HI.out
          have d1 : 48 ≤ c ∧ c ≤ 57 := by simpa using hi.symm
          clear hi
          have g1 : decide ((c : Int) < 48) = false := decide_eq_false (by omega)
          have g2 : decide ((57 : Int) < (c : Int)) = false := decide_eq_false (by omega)
          clear d1
          go_wp2_with fail
          exact ⟨⟨k + 1, by go_num, by omega, HN'.out, HX.out⟩, by simp [intOf]; omega⟩
      · obtain rfl : k = D.size := by omega
        have e := HGood.out (fun j hj => HAll.out j hj hj)
        subst e
        go_wp2_with fail
        refine (HA.out _ HX.out (by trivial)).mono ?_
        rintro e w2 (⟨rfl, hx⟩ | ⟨hbig, x, M, rfl, hx⟩)
        · have HX2 := Lib.hid (HX.out.trans hx)
          clear hx
          have hsg := HS.out
          by_cases hb : N ≤ 1125899906842624
          · have g1 : decide (v < -1125899906842624) = false := decide_eq_false (by omega)
            have g2 : decide (1125899906842624 < v) = false := decide_eq_false (by omega)
            obtain ⟨e1, e2⟩ := HV.out (by trivial) hb
            subst e1 e2
            clear hsg hb
            go_wp2_with fail
            go_ret2
            exact Ret.mk rfl HX2.out
          · obtain ⟨e1, e2⟩ := HO.out (by trivial) hb
            subst e1 e2
            cases g1 : decide (v < -1125899906842624) <;> cases g2 : decide (1125899906842624 < v)
            all_goals first | (exfalso; simp only [decide_eq_true_eq, decide_eq_false_iff_not] at g1 g2; omega) | skip
            all_goals
              clear hsg hb
              go_wp2_with fail
              go_ret2
              exact Ret.mk rfl HX2.out
        · have HX2 := Lib.hid (HX.out.trans hx)
          clear hx
          obtain ⟨e1, e2⟩ := HO.out (by trivial) (by omega)
          subst e1 e2
          go_wp2_with fail
          go_ret2
          exact Ret.mk rfl HX2.out
theorem decimal_c (s : ByteArray) (w : World) (hE : Env w) (hs : s.size ≤ 20000) : Calls Tryz.prog 49 #[.string s] w (Ret w (Two (parV s.data.toList) (parE s.data.toList))) := by
  obtain ⟨D, hD⟩ : ∃ D : ByteArray, bs (pdig s.data.toList) = D := ⟨_, rfl⟩
  have hDl : D.data.toList = pdig s.data.toList := by rw [← hD]
  by_cases h0 : D.size = 0
  · have e : formOk s.data.toList = false := by
      have : pdig s.data.toList = [] := by rw [← hDl]; exact List.length_eq_zero_iff.1 h0
      unfold formOk; simp [this]
    obtain ⟨e1, e2⟩ := parE_nil e
    rw [e1, e2]
    exact dec_empty s D w hD h0
  · have h1 : 0 < D.size := by omega
    have hh := head_idx h1
    rw [hDl] at hh
    have hz : ((D[0].toNat : Int) == 48) = decide (D[0] = 48) := by
      rw [Bool.eq_iff_iff, beq_iff_eq, decide_eq_true_eq, ← UInt8.toNat_inj]
      show _ ↔ D[0].toNat = 48
      omega
    have hs48 : (s.toList == [48]) = decide (s.data.toList = [48]) := by
      rw [Lib.toList_data, Bool.eq_iff_iff]; simp
    have hne : (pdig s.data.toList).isEmpty = false := by
      cases hp : pdig s.data.toList with
      | nil => rw [hp] at hh; cases hh
      | cons a b => rfl
    have hform : formOk s.data.toList = ((pdig s.data.toList).all isDig && !(decide (D[0] = 48) && decide (s.data.toList ≠ [48]))) := by
      unfold formOk
      rw [hne, hh]
      simp
    by_cases h5 : D[0] = 48
    · by_cases h6 : s.data.toList = [48]
      · exact dec_loop s D w hE hs hD h1 (.inl ⟨by rw [hz]; simpa using h5, by rw [hs48]; simpa using h6⟩) (by rw [hform, hDl]; simp [h6])
      · have e : formOk s.data.toList = false := by rw [hform]; simp [h5, h6]
        obtain ⟨e1, e2⟩ := parE_nil e
        rw [e1, e2]
        exact dec_zero s D w hD h1 (by rw [hz]; simpa using h5) (by rw [hs48]; simpa using h6)
    · exact dec_loop s D w hE hs hD h1 (.inr (by rw [hz]; simpa using h5)) (by rw [hform, hDl]; simp [h5])
end Go.Proofs.YtpmponafjhnegaaGreatDoor
