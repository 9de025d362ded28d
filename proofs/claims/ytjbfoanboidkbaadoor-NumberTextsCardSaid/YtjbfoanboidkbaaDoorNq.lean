/-
  Numbers: the reference's parse.
  Conditions: texts of at most 100 bytes.
-/
import Derived.Test.YtjbfoanboidkbaaDoorNe
import Derived.Lib.IndexBytes
namespace Go.Proofs.YtjbfoanboidkbaaDoor
open Go.RowKit Nu
/-- the value of digits that stays once it is too great -/
def satF : Nat → List UInt8 → Nat
  | a, [] => a
  | a, c :: r => if a ≤ 1125899906842624 then satF (a * 10 + (c.toNat - 48)) r else satF a r
theorem satF_big : ∀ (l : List UInt8) (a : Nat), 1125899906842624 < a → satF a l = a
  | [], _, _ => rfl
  | c :: r, a, h => by
    show (if a ≤ 1125899906842624 then satF (a * 10 + (c.toNat - 48)) r else satF a r) = a
    rw [if_neg (by omega)]
    exact satF_big r a h
theorem satF_val : ∀ (l : List UInt8) (a : Nat), (valF a l ≤ 1125899906842624 → satF a l = valF a l) ∧ (1125899906842624 < valF a l → 1125899906842624 < satF a l)
  | [], a => ⟨fun _ => rfl, fun h => h⟩
  | c :: r, a => by
    have h := satF_val r (a * 10 + (c.toNat - 48))
    have hg := valF_ge r (a * 10 + (c.toNat - 48))
    show (valF (a * 10 + (c.toNat - 48)) r ≤ _ → (if a ≤ 1125899906842624 then satF (a * 10 + (c.toNat - 48)) r else satF a r) = valF (a * 10 + (c.toNat - 48)) r) ∧ (_ → _ < (if a ≤ 1125899906842624 then satF (a * 10 + (c.toNat - 48)) r else satF a r))
    by_cases ha : a ≤ 1125899906842624
    · rw [if_pos ha]; exact h
    · rw [if_neg ha, satF_big r a (by omega)]
      constructor
      · intro h2; omega
      · intro _; omega
theorem satF_append : ∀ (l m : List UInt8) (a : Nat), satF a (l ++ m) = satF (satF a l) m
  | [], _, _ => rfl
  | c :: r, m, a => by
    show (if a ≤ 1125899906842624 then satF (a * 10 + (c.toNat - 48)) (r ++ m) else satF a (r ++ m)) = satF (if a ≤ 1125899906842624 then satF (a * 10 + (c.toNat - 48)) r else satF a r) m
    split
    · exact satF_append r m _
    · exact satF_append r m _
theorem take_snoc (s : ByteArray) (k : Nat) (h : k < s.size) : s.data.toList.take (k + 1) = s.data.toList.take k ++ [s[k]] := by
  rw [List.take_succ_eq_append_getElem (by rw [← size_data]; exact h)]; rfl
theorem satF_snoc (s : ByteArray) (k : Nat) (h : k < s.size) : satF 0 (s.data.toList.take (k + 1)) = if satF 0 (s.data.toList.take k) ≤ 1125899906842624 then satF 0 (s.data.toList.take k) * 10 + (s[k].toNat - 48) else satF 0 (s.data.toList.take k) := by
  rw [take_snoc s k h, satF_append]
  rfl
set_option maxRecDepth 100000 in
set_option maxHeartbeats 1000000 in
theorem rParse_bad (s D : ByteArray) (w : World) (h : s.size ≤ 100)
    (hsg : (decide ((1 : Int) < (s.size : Int)) = true ∧ (∃ h0 : 0 < s.size, ((s[0].toNat : Int) == 45) = true) ∧ s.extract 1 s.size = D) ∨ (decide ((1 : Int) < (s.size : Int)) = true ∧ (∃ h0 : 0 < s.size, ((s[0].toNat : Int) == 45) = false) ∧ D = s) ∨ (decide ((1 : Int) < (s.size : Int)) = false ∧ D = s))
    (hz : ((D.size : Int) == 0) = true ∨ (((D.size : Int) == 0) = false ∧ (∃ h0 : 0 < D.size, ((D[0].toNat : Int) == 48) = true) ∧ (!s.toList == [48]) = true)) : Calls Tryd.prog 21 #[.string s] w (Ret w (Two 0 3)) := by
  unfold Two
  rcases hsg with ⟨a1, ⟨a2, a3⟩, a4⟩ | ⟨a1, ⟨a2, a3⟩, rfl⟩ | ⟨a1, rfl⟩
  all_goals
    rcases hz with z1 | ⟨z1, ⟨z2, z3⟩, z4⟩
  all_goals
    go_enter Tryd.func21, Tryd.ntmps21
    go_wp2_with fail
  all_goals
    go_ret2
    exact Ret.mk rfl (Ex.refl _)
set_option maxRecDepth 100000 in
set_option maxHeartbeats 4000000 in
theorem rParse_loop (s D : ByteArray) (V E : Int) (w : World) (h : s.size ≤ 100)
    (hsg : (decide ((1 : Int) < (s.size : Int)) = true ∧ (∃ h0 : 0 < s.size, ((s[0].toNat : Int) == 45) = true) ∧ s.extract 1 s.size = D ∧ decide ((D.size : Int) < (s.size : Int)) = true ∧ decide (D.size < s.size) = true) ∨ (decide ((1 : Int) < (s.size : Int)) = true ∧ (∃ h0 : 0 < s.size, ((s[0].toNat : Int) == 45) = false) ∧ D = s) ∨ (decide ((1 : Int) < (s.size : Int)) = false ∧ D = s))
    (hD : D.size ≤ 100) (hz : ((D.size : Int) == 0) = false) (h0 : 0 < D.size) (hl : ((D[0].toNat : Int) == 48) = false ∨ (((D[0].toNat : Int) == 48) = true ∧ (!s.toList == [48]) = false))
    (HB : Hid (∀ k, (hk : k < D.size) → isDig D[k] = false → V = 0 ∧ E = 3))
    (HV : Hid ((∀ k, (hk : k < D.size) → isDig D[k] = true) → (satF 0 D.data.toList ≤ 1125899906842624 ∧ E = 0 ∧ V = if D.size < s.size then -(satF 0 D.data.toList : Int) else (satF 0 D.data.toList : Int)) ∨ (1125899906842624 < satF 0 D.data.toList ∧ V = 0 ∧ E = 9))) :
    Calls Tryd.prog 21 #[.string s] w (Ret w (Two V E)) := by
  have HS := Lib.hid (fun k (hk : k < D.size) => satF_snoc D k hk)
  have HZ : Hid (satF 0 (D.data.toList.take 0) = 0) := rfl
  have HT : Hid (satF 0 (D.data.toList.take D.size) = satF 0 D.data.toList) := by
    show satF 0 (D.data.toList.take D.size) = _
    rw [List.take_of_length_le (by rw [← size_data]; exact Nat.le_refl _)]
  unfold Two
  rcases hsg with ⟨a1, ⟨a2, a3⟩, a4, a5, a6⟩ | ⟨a1, ⟨a2, a3⟩, rfl⟩ | ⟨a1, rfl⟩
  all_goals
    rcases hl with z3 | ⟨z3, z4⟩
  all_goals
    go_enter Tryd.func21, Tryd.ntmps21
    go_wp2_with fail
    go_loopw [5, 6] (fun n i wr => ∃ k x : Nat, i = .int .i64 k ∧ n = .int .i64 x ∧ k ≤ D.size ∧ x ≤ 12000000000000000 ∧ Hid (x = satF 0 (D.data.toList.take k)) ∧ Hid (∀ j, (hj : j < D.size) → j < k → isDig D[j] = true) ∧ Ex w wr) (fun _ i _ => D.size - (intOf i).toNat)
    case atStart => exact ⟨0, 0, rfl, rfl, by omega, by omega, HZ.out.symm, (fun j _ hj => absurd hj (by omega)), Ex.refl _⟩
    case round =>
      obtain ⟨k, x, rfl, rfl, hk, hx, HX, HAll, hw⟩ := hrel
      by_cases hlt : k < D.size
      · have hki : (k : Int) < (D.size : Int) := by omega
        obtain ⟨c, hc⟩ : ∃ c : Nat, c = D[k].toNat := ⟨_, rfl⟩
        have hc2 : (D[k].toNat : Int) = (c : Int) := by rw [hc]
        have hcb : c < 256 := by rw [hc]; exact UInt8.toNat_lt _
        have hcw : wrap64 (c : Int) = (c : Int) := IntWalk.wrap64_in _ (by omega)
        have hdig : isDig D[k] = (decide (48 ≤ c) && decide (c ≤ 57)) := by unfold isDig; rw [← hc]
        have hs := HS.out k hlt
        rw [← hc, ← HX.out] at hs
        have HSn := Lib.hid hs
        clear hs
        by_cases hd : 48 ≤ c ∧ c ≤ 57
        · have b1 : decide ((c : Int) < 48) = false := by simp; omega
          have b2 : decide ((57 : Int) < (c : Int)) = false := by simp; omega
          have HAll2 : Hid (∀ j, (hj : j < D.size) → j < k + 1 → isDig D[j] = true) := fun j hj hjk => by
            by_cases h : j < k
            · exact HAll j hj h
            · obtain rfl : j = k := by omega
              rw [hdig]; simp [hd]
          have HXw := Lib.hid hw
          clear hdig hc hw
          by_cases hxb : x ≤ 1125899906842624
          · have b3 : decide ((x : Int) ≤ 1125899906842624) = true := by simp; omega
            go_wp2_with fail
            refine ⟨⟨k + 1, x * 10 + (c - 48), by go_num, int_eq (by omega), by omega, by omega, ?_, HAll2, HXw.out⟩, by simp [intOf]; omega⟩
            show _ = _
            rw [HSn.out, if_pos hxb]
          · have b3 : decide ((x : Int) ≤ 1125899906842624) = false := by simp; omega
            go_wp2_with fail
            refine ⟨⟨k + 1, x, by go_num, rfl, by omega, by omega, ?_, HAll2, HXw.out⟩, by simp [intOf]; omega⟩
            show _ = _
            rw [HSn.out, if_neg hxb]
        · have hbad : isDig D[k] = false := by rw [hdig]; simp; omega
          obtain ⟨e1, e2⟩ := HB.out k hlt hbad
          subst e1 e2
          have HXw := Lib.hid hw
          clear hdig hc hw hbad
          by_cases hd1 : c < 48
          · have b1 : decide ((c : Int) < 48) = true := by simp; omega
            go_wp2_with fail
            go_ret2
            exact Ret.mk rfl HXw.out
          · have b1 : decide ((c : Int) < 48) = false := by simp; omega
            have b2 : decide ((57 : Int) < (c : Int)) = true := by simp; omega
            go_wp2_with fail
            go_ret2
            exact Ret.mk rfl HXw.out
      · obtain rfl : k = D.size := by omega
        have hv := HV.out (fun j hj => HAll j hj hj)
        rw [← HT.out, ← HX.out] at hv
        have HXw := Lib.hid hw
        clear hw
        rcases hv with ⟨q1, e1, e2⟩ | ⟨q1, e1, e2⟩
        · subst e1
          have HE := Lib.hid e2
          clear e2
          have b3 : decide ((1125899906842624 : Int) < (x : Int)) = false := by simp; omega
          go_wp2_with fail
          all_goals
            go_ret2
            exact Ret.mk (by rw [HE.out]; first | (rw [if_pos (of_decide_eq_true a6)]; rfl) | (rw [if_neg (by omega)]; rfl)) HXw.out
        · subst e1 e2
          have b3 : decide ((1125899906842624 : Int) < (x : Int)) = true := by simp; omega
          go_wp2_with fail
          go_ret2
          exact Ret.mk rfl HXw.out
theorem get_idx {D : ByteArray} {k : Nat} (h : k < D.size) : D.data.toList[k]? = some D[k] := by
  rw [Array.getElem?_toList]
  exact Array.getElem?_eq_getElem h
theorem all_dig {D : ByteArray} : D.data.toList.all isDig = true ↔ ∀ k, (hk : k < D.size) → isDig D[k] = true := by
  rw [List.all_eq_true]
  constructor
  · intro h k hk
    exact h _ (List.mem_of_getElem? (get_idx hk))
  · intro h c hc
    obtain ⟨k, hk, rfl⟩ := List.mem_iff_getElem.1 hc
    have hk' : k < D.size := by rw [size_data]; exact hk
    have := get_idx hk'
    rw [List.getElem?_eq_getElem hk] at this
    injection this with this
    rw [this]
    exact h k hk'
theorem form_of {l P : List UInt8} (hP : pdig l = P) (h0 : P ≠ []) : formOk l = (P.all isDig && !(decide (P.head? = some 48) && decide (l ≠ [48]))) := by
  unfold formOk
  rw [hP]
  simp [h0]
theorem rParse_c (s : ByteArray) (w : World) (h : s.size ≤ 100) : Calls Tryd.prog 21 #[.string s] w (Ret w (Two (parV s.data.toList) (parE s.data.toList))) := by
  have hs := size_data s
  have hs48 : (!s.toList == [48]) = decide (s.data.toList ≠ [48]) := by
    rw [Lib.toList_data, Bool.eq_iff_iff]; simp
  have bad : formOk s.data.toList = false → parV s.data.toList = 0 ∧ parE s.data.toList = 3 := fun e => ⟨by unfold parV; rw [e]; rfl, by unfold parE; rw [e]; rfl⟩
  -- whatever stands for the digits, when they are not empty
  have main : ∀ D : ByteArray, D.size ≤ 100 → ∀ h0 : 0 < D.size,
      ((decide ((1 : Int) < (s.size : Int)) = true ∧ (∃ h0 : 0 < s.size, ((s[0].toNat : Int) == 45) = true) ∧ s.extract 1 s.size = D ∧ D.size < s.size ∧ s.data.toList.head? = some 45) ∨ (decide ((1 : Int) < (s.size : Int)) = true ∧ (∃ h0 : 0 < s.size, ((s[0].toNat : Int) == 45) = false) ∧ D = s ∧ s.data.toList.head? ≠ some 45) ∨ (decide ((1 : Int) < (s.size : Int)) = false ∧ D = s ∧ s.data.toList.head? ≠ some 45)) →
      pdig s.data.toList = D.data.toList → Calls Tryd.prog 21 #[.string s] w (Ret w (Two (parV s.data.toList) (parE s.data.toList))) := by
    intro D hD h0 hsg hP
    have hne : D.data.toList ≠ [] := fun e => by rw [size_data, e] at h0; simp at h0
    have hf := form_of hP hne
    have hz : ((D.size : Int) == 0) = false := beq_eq_false_iff_ne.2 (by omega)
    have hh : D.data.toList.head? = some D[0] := head_dig rfl h0
    have h48 : ((D[0].toNat : Int) == 48) = decide (D[0] = 48) := by
      rw [Bool.eq_iff_iff, beq_iff_eq, decide_eq_true_eq, ← UInt8.toNat_inj]
      show _ ↔ D[0].toNat = 48
      omega
    rw [hh] at hf
    by_cases hb : D[0] = 48 ∧ s.data.toList ≠ [48]
    · have e : formOk s.data.toList = false := by rw [hf]; simp [hb]
      obtain ⟨e1, e2⟩ := bad e
      rw [e1, e2]
      refine rParse_bad s D w h ?_ (.inr ⟨hz, ⟨h0, by rw [h48]; simp [hb.1]⟩, by rw [hs48]; simp [hb.2]⟩)
      rcases hsg with ⟨a1, a2, a3, -⟩ | ⟨a1, a2, a3, -⟩ | ⟨a1, a3, -⟩
      · exact .inl ⟨a1, a2, a3⟩
      · exact .inr (.inl ⟨a1, a2, a3⟩)
      · exact .inr (.inr ⟨a1, a3⟩)
    · have hsz : (if D.size < s.size then -(satF 0 D.data.toList : Int) else (satF 0 D.data.toList : Int)) = sgn s.data.toList (satF 0 D.data.toList) := by
        unfold sgn
        rcases hsg with ⟨-, -, -, a4, a5⟩ | ⟨-, -, a3, a5⟩ | ⟨-, a3, a5⟩
        · rw [if_pos a4, if_pos a5]
        · rw [if_neg a5, if_neg (by rw [a3]; omega)]
        · rw [if_neg a5, if_neg (by rw [a3]; omega)]
      refine rParse_loop s D _ _ w h ?_ hD hz h0 ?_ ?_ ?_
      · rcases hsg with ⟨a1, a2, a3, a4, -⟩ | ⟨a1, a2, a3, -⟩ | ⟨a1, a3, -⟩
        · exact .inl ⟨a1, a2, a3, decide_eq_true (by omega), decide_eq_true a4⟩
        · exact .inr (.inl ⟨a1, a2, a3⟩)
        · exact .inr (.inr ⟨a1, a3⟩)
      · by_cases h5 : D[0] = 48
        · exact .inr ⟨by rw [h48]; simp [h5], by rw [hs48]; simp at hb ⊢; exact hb h5⟩
        · exact .inl (by rw [h48]; simp [h5])
      · intro k hk hd
        refine bad ?_
        rw [hf]
        have : D.data.toList.all isDig = false := by
          cases hc : D.data.toList.all isDig
          · rfl
          · have := (all_dig.1 hc) k hk
            rw [this] at hd
            cases hd
        rw [this]; rfl
      · intro hall
        have e : formOk s.data.toList = true := by
          rw [hf, all_dig.2 hall]
          simp at hb ⊢
          by_cases h5 : D[0] = 48
          · exact .inr (hb h5)
          · exact .inl h5
        have hv := satF_val D.data.toList 0
        rw [hsz]
        unfold parV parE
        rw [if_pos e, if_pos e, hP]
        by_cases hx : valF 0 D.data.toList ≤ 1125899906842624
        · left
          rw [if_pos hx, if_pos hx, hv.1 hx]
          exact ⟨hx, rfl, rfl⟩
        · right
          rw [if_neg hx, if_neg hx]
          exact ⟨hv.2 (by omega), rfl, rfl⟩
  by_cases hz : s.size = 0
  · have hl : s.data.toList = [] := List.length_eq_zero_iff.1 (by omega)
    obtain ⟨e1, e2⟩ := bad (by rw [hl]; rfl)
    rw [e1, e2]
    exact rParse_bad s s w h (.inr (.inr ⟨decide_eq_false (by omega), rfl⟩)) (.inl (by simp [hz]))
  · have h0 : 0 < s.size := by omega
    have hh : s.data.toList.head? = some s[0] := head_dig rfl h0
    have h45 : ((s[0].toNat : Int) == 45) = decide (s[0] = 45) := by
      rw [Bool.eq_iff_iff, beq_iff_eq, decide_eq_true_eq, ← UInt8.toNat_inj]
      show _ ↔ s[0].toNat = 45
      omega
    by_cases hs0 : s[0] = 45
    · by_cases h1 : 1 < s.size
      · obtain ⟨c, r, hcr⟩ : ∃ c r, s.data.toList = c :: r := by
          cases hx : s.data.toList with
          | nil => rw [hx] at hh; simp at hh
          | cons c r => exact ⟨c, r, rfl⟩
        have hc : c = 45 := by rw [hcr] at hh; simp at hh; rw [hh, hs0]
        have hex : (s.extract 1 s.size).data.toList = r := by
          rw [Lib.extract_to_end, hcr]; rfl
        have hsz : (s.extract 1 s.size).size = s.size - 1 := by rw [size_data, hex, hs, hcr]; simp
        refine main (s.extract 1 s.size) (by omega) (by omega) (.inl ⟨decide_eq_true (by omega), ⟨h0, by rw [h45]; simp [hs0]⟩, rfl, by omega, by rw [hh, hs0]⟩) ?_
        rw [hex, hcr, hc]
        rfl
      · -- the lone sign
        have hl : s.data.toList = [45] := by
          cases hx : s.data.toList with
          | nil => rw [hx] at hh; simp at hh
          | cons c r =>
            rw [hx] at hh hs
            have : r = [] := List.length_eq_zero_iff.1 (by simp at hs; omega)
            simp at hh
            rw [hh, hs0, this]
        obtain ⟨e1, e2⟩ := bad (by rw [hl]; rfl)
        refine rParse_loop s s _ _ w h (.inr (.inr ⟨decide_eq_false (by omega), rfl⟩)) h (beq_eq_false_iff_ne.2 (by omega)) h0 (.inl ?_) ?_ ?_
        · simp [hs0]
        · intro k hk _
          exact ⟨e1, e2⟩
        · intro hall
          have := hall 0 h0
          rw [hs0] at this
          exact absurd this (by decide)
    · have hP : pdig s.data.toList = s.data.toList := by
        cases hx : s.data.toList with
        | nil => rfl
        | cons c r =>
          rw [hx] at hh
          simp at hh
          show (if c = 45 then r else c :: r) = c :: r
          rw [if_neg (by rw [hh]; exact hs0)]
      have hne : s.data.toList.head? ≠ some 45 := by rw [hh]; simpa using hs0
      by_cases h1 : 1 < s.size
      · exact main s h h0 (.inr (.inl ⟨decide_eq_true (by omega), ⟨h0, by rw [h45]; simp [hs0]⟩, rfl, hne⟩)) hP
      · exact main s h h0 (.inr (.inr ⟨decide_eq_false (by omega), rfl, hne⟩)) hP
end Go.Proofs.YtjbfoanboidkbaaDoor
