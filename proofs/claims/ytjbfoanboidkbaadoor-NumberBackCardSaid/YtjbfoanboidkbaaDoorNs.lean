/-
  Plain facts on numerals: a number's text is parsed as the number, and a text that is parsed is its number's. No program in sight.
  Conditions: none.
-/
import Derived.Test.YtjbfoanboidkbaaDoorNp
import Derived.Lib.ItoaMem
import Derived.Laws.Strings
namespace Go.Proofs.YtjbfoanboidkbaaDoor.Nu
open Go
def chr (d : Nat) : UInt8 := UInt8.ofNat (48 + d)
theorem chr_nat {d : Nat} (h : d < 10) : (chr d).toNat = 48 + d := by
  unfold chr
  rw [UInt8.toNat_ofNat', Nat.mod_eq_of_lt (by omega)]
theorem dec_small {n : Nat} (h : n < 10) : Lib.decDigits n = [chr n] := by rw [Lib.decDigits, dif_pos h]; rfl
theorem dec_big {n : Nat} (h : ¬ n < 10) : Lib.decDigits n = Lib.decDigits (n / 10) ++ [chr (n % 10)] := by rw [Lib.decDigits, dif_neg h]; rfl
theorem dec_ne (n : Nat) : Lib.decDigits n ≠ [] := by
  by_cases h : n < 10
  · rw [dec_small h]; simp
  · rw [dec_big h]; simp
theorem dec_val (n : Nat) : valF 0 (Lib.decDigits n) = n := by
  induction n using Nat.strongRecOn with
  | _ n ih =>
    by_cases h : n < 10
    · rw [dec_small h]
      show 0 * 10 + ((chr n).toNat - 48) = n
      rw [chr_nat h]; omega
    · rw [dec_big h, valF_append, ih (n / 10) (by omega)]
      show n / 10 * 10 + ((chr (n % 10)).toNat - 48) = n
      rw [chr_nat (by omega)]; omega
theorem dec_dig (n : Nat) : (Lib.decDigits n).all isDig = true := by
  induction n using Nat.strongRecOn with
  | _ n ih =>
    by_cases h : n < 10
    · rw [dec_small h]
      simp [isDig_iff, chr_nat h]
      omega
    · rw [dec_big h, List.all_append, ih (n / 10) (by omega)]
      simp [isDig_iff, chr_nat (show n % 10 < 10 by omega)]
      omega
theorem dec_head {n : Nat} (h0 : n ≠ 0) : ∃ c r, Lib.decDigits n = c :: r ∧ c.toNat ≠ 48 := by
  induction n using Nat.strongRecOn with
  | _ n ih =>
    by_cases h : n < 10
    · refine ⟨chr n, [], dec_small h, ?_⟩
      rw [chr_nat h]; omega
    · obtain ⟨c, r, e, hc⟩ := ih (n / 10) (by omega) (by omega)
      refine ⟨c, r ++ [chr (n % 10)], ?_, hc⟩
      rw [dec_big h, e]; rfl
theorem dig_45 {c : UInt8} (h : isDig c = true) : c ≠ 45 := fun e => by subst e; revert h; decide
theorem pdig_dec (n : Nat) : pdig (Lib.decDigits n) = Lib.decDigits n := by
  have h := dec_dig n
  cases hx : Lib.decDigits n with
  | nil => rfl
  | cons c r =>
    rw [hx, List.all_cons, Bool.and_eq_true] at h
    show (if c = 45 then r else c :: r) = c :: r
    rw [if_neg (dig_45 h.1)]
/-- a number's text is parsed as the number -/
theorem par_itoa (n : Int) (h : -1125899906842624 ≤ n ∧ n ≤ 1125899906842624) : parV (Lib.itoa n) = n ∧ parE (Lib.itoa n) = 0 := by
  have key : ∀ (l P : List UInt8) (m : Nat), pdig l = P → P = Lib.decDigits m → (m = 0 → l = [48]) → m ≤ 1125899906842624 → sgn l m = n → parV l = n ∧ parE l = 0 := by
    intro l P m h1 h2 h3 h4 h5
    have hne : P ≠ [] := by rw [h2]; exact dec_ne m
    have hf : formOk l = true := by
      unfold formOk
      rw [h1, h2, dec_dig m]
      have he : (Lib.decDigits m).isEmpty = false := by simp [dec_ne m]
      rw [he]
      by_cases hm : m = 0
      · rw [h3 hm]; simp
      · obtain ⟨c, r, e, hc⟩ := dec_head hm
        have : c ≠ 48 := fun e => hc (by rw [e]; rfl)
        rw [e]; simp [this]
    unfold parV parE
    rw [if_pos hf, if_pos hf, h1, h2, dec_val, if_pos h4, if_pos h4, h5]
    exact ⟨rfl, rfl⟩
  by_cases hn : n < 0
  · obtain ⟨m, rfl⟩ : ∃ m : Nat, n = -(m : Int) := ⟨n.natAbs, by omega⟩
    rw [Lib.itoa_neg m (by omega)]
    exact key _ _ m rfl rfl (fun h0 => by omega) (by omega) (sgn_neg _ _)
  · obtain ⟨m, rfl⟩ : ∃ m : Nat, n = (m : Int) := ⟨n.toNat, by omega⟩
    rw [Lib.itoa_nonneg]
    refine key _ _ m (pdig_dec m) rfl (fun h0 => by subst h0; decide +kernel) (by omega) ?_
    have hd := dec_dig m
    cases hx : Lib.decDigits m with
    | nil => rfl
    | cons c r =>
      rw [hx, List.all_cons, Bool.and_eq_true] at hd
      exact sgn_pos c r m (dig_45 hd.1)
theorem valF_pos : ∀ (l : List UInt8), l.all isDig = true → (∃ c r, l = c :: r ∧ c.toNat ≠ 48) → 0 < valF 0 l := by
  intro l h ⟨c, r, e, hc⟩
  subst e
  rw [List.all_cons, Bool.and_eq_true, isDig_iff] at h
  have := valF_ge r (0 * 10 + (c.toNat - 48))
  show 0 < valF (0 * 10 + (c.toNat - 48)) r
  omega
/-- digits without a leading nought are the digits of their value -/
theorem dec_of (l : List UInt8) : l ≠ [] → l.all isDig = true → (l = [48] ∨ ∃ c r, l = c :: r ∧ c.toNat ≠ 48) → Lib.decDigits (valF 0 l) = l := by
  induction hn : l.length using Nat.strongRecOn generalizing l with
  | _ n ih =>
    intro h0 h1 h2
    have e := List.dropLast_concat_getLast h0
    generalize l.dropLast = Q at e
    generalize l.getLast h0 = c at e
    subst e
    rw [List.all_append, Bool.and_eq_true] at h1
    have hc : isDig c = true := by simpa using h1.2
    rw [isDig_iff] at hc
    have hv : valF 0 (Q ++ [c]) = valF 0 Q * 10 + (c.toNat - 48) := by rw [valF_append]; rfl
    have hchr : chr (c.toNat - 48) = c := u8_eq (by rw [chr_nat (by omega)]; omega)
    rw [hv]
    by_cases hQ : Q = []
    · subst hQ
      have : valF 0 ([] : List UInt8) = 0 := rfl
      rw [this, dec_small (by omega), show 0 * 10 + (c.toNat - 48) = c.toNat - 48 by omega, hchr]
      rfl
    · have hQ2 : ∃ d r, Q = d :: r ∧ d.toNat ≠ 48 := by
        cases Q with
        | nil => exact absurd rfl hQ
        | cons d r =>
          rcases h2 with h2 | ⟨d', r', e', hd'⟩
          · simp at h2
          · simp at e'
            exact ⟨d, r, rfl, by rw [e'.1]; exact hd'⟩
      have hp := valF_pos Q h1.1 hQ2
      have := ih Q.length (by rw [← hn]; simp) Q rfl hQ h1.1 (.inr hQ2)
      rw [dec_big (by omega), show (valF 0 Q * 10 + (c.toNat - 48)) / 10 = valF 0 Q by omega, this, show (valF 0 Q * 10 + (c.toNat - 48)) % 10 = c.toNat - 48 by omega, hchr]
/-- a text that is parsed is its number's text -/
theorem itoa_par (l : List UInt8) (h : parE l = 0) : Lib.itoa (parV l) = l ∧ (-1125899906842624 ≤ parV l ∧ parV l ≤ 1125899906842624) := by
  cases hf : formOk l
  · unfold parE at h; rw [hf] at h; simp at h
  · unfold parE at h
    rw [if_pos hf] at h
    by_cases hv : valF 0 (pdig l) ≤ 1125899906842624
    · have hV : parV l = sgn l (valF 0 (pdig l)) := by unfold parV; rw [if_pos hf, if_pos hv]
      unfold formOk at hf
      simp only [Bool.and_eq_true, Bool.not_eq_true'] at hf
      obtain ⟨f1, f2, f3⟩ := hf
      have hne : pdig l ≠ [] := by simpa using f1
      have hlz : pdig l = [48] ∧ l = [48] ∨ ∃ c r, pdig l = c :: r ∧ c.toNat ≠ 48 := by
        cases hx : pdig l with
        | nil => exact absurd hx hne
        | cons c r =>
          rw [hx] at f3
          by_cases hc : c = 48
          · have hl : l = [48] := by simpa [hc] using f3
            left
            rw [hl] at hx
            have : pdig [48] = [48] := by decide
            rw [this] at hx
            exact ⟨by rw [← hx], hl⟩
          · right
            exact ⟨c, r, rfl, fun e => hc (u8_eq (by rw [e]; rfl))⟩
      have hdec : Lib.decDigits (valF 0 (pdig l)) = pdig l := dec_of _ hne f2 (by
        rcases hlz with ⟨h1, -⟩ | h1
        · exact .inl h1
        · exact .inr h1)
      rw [hV]
      generalize hm : valF 0 (pdig l) = m at *
      match l, hne with
      | c :: r, hne =>
        by_cases hc : c = 45
        · subst hc
          have hp : pdig (45 :: r) = r := rfl
          rw [hp] at *
          rw [sgn_neg]
          have hm0 : 1 ≤ m := by
            rcases hlz with ⟨h1, h2⟩ | h1
            · simp at h2
            · rw [← hm]; exact valF_pos r f2 h1
          rw [Lib.itoa_neg m hm0, hdec]
          exact ⟨rfl, by omega⟩
        · have hp : pdig (c :: r) = c :: r := by
            show (if c = 45 then r else c :: r) = c :: r
            rw [if_neg hc]
          rw [sgn_pos c r m hc, Lib.itoa_nonneg, hdec]
          exact ⟨hp, by omega⟩
    · rw [if_neg hv] at h; simp at h
theorem parV_bad (l : List UInt8) (h : parE l ≠ 0) : parV l = 0 := by
  unfold parE at h
  unfold parV
  cases hf : formOk l
  · rfl
  · rw [hf] at h
    by_cases hv : valF 0 (pdig l) ≤ 1125899906842624
    · rw [if_pos rfl, if_pos hv] at h; exact absurd rfl h
    · rw [if_pos rfl, if_neg hv]
/-- no plus sign in a number's text -/
theorem itoa_plus (n : Int) : ∀ c ∈ Lib.itoa n, c ≠ 43 := by
  have hd : ∀ m, ∀ c ∈ Lib.decDigits m, c ≠ 43 := fun m c hc e => by
    have := List.all_eq_true.1 (dec_dig m) c hc
    rw [e] at this
    revert this
    decide
  intro c hc
  unfold Lib.itoa at hc
  split at hc
  · rw [List.mem_cons] at hc
    rcases hc with rfl | hc
    · decide
    · exact hd _ c hc
  · exact hd _ c hc
theorem valF_split : ∀ (l : List UInt8) (a : Nat), valF a l = a * 10 ^ l.length + valF 0 l
  | [], a => by
    show a = a * 10 ^ 0 + 0
    rw [Nat.pow_zero]
    omega
  | c :: r, a => by
    have z : 0 * 10 + (c.toNat - 48) = c.toNat - 48 := by omega
    have h1 := valF_split r (a * 10 + (c.toNat - 48))
    have h2 := valF_split r (0 * 10 + (c.toNat - 48))
    show valF (a * 10 + (c.toNat - 48)) r = a * 10 ^ (r.length + 1) + valF (0 * 10 + (c.toNat - 48)) r
    rw [h1, h2, z, Nat.pow_succ, Nat.add_mul]
    have e : a * 10 * 10 ^ r.length = a * (10 ^ r.length * 10) := by rw [Nat.mul_assoc, Nat.mul_comm 10]
    rw [e]
    omega
theorem valF_lt : ∀ l : List UInt8, l.all isDig = true → valF 0 l < 10 ^ l.length
  | [], _ => by
    show 0 < 10 ^ 0
    decide
  | c :: r, h => by
    rw [List.all_cons, Bool.and_eq_true, isDig_iff] at h
    have h1 := valF_lt r h.2
    have h2 := valF_split r (0 * 10 + (c.toNat - 48))
    show valF (0 * 10 + (c.toNat - 48)) r < 10 ^ (r.length + 1)
    rw [h2, Nat.pow_succ, show 0 * 10 + (c.toNat - 48) = c.toNat - 48 by omega]
    have h3 : (c.toNat - 48) * 10 ^ r.length ≤ 9 * 10 ^ r.length := Nat.mul_le_mul_right _ (by omega)
    omega
theorem less_val : ∀ (P Q : List UInt8), P.length = Q.length → P.all isDig = true → Q.all isDig = true → Op.bytesLess P Q = decide (valF 0 P < valF 0 Q)
  | [], [], _, _, _ => rfl
  | [], _ :: _, h, _, _ => by simp at h
  | _ :: _, [], h, _, _ => by simp at h
  | c :: r, d :: t, h, hP, hQ => by
    rw [List.all_cons, Bool.and_eq_true, isDig_iff] at hP hQ
    have hl : r.length = t.length := by simpa using h
    have ih := less_val r t hl hP.2 hQ.2
    have h1 := valF_split r (0 * 10 + (c.toNat - 48))
    have h2 := valF_split t (0 * 10 + (d.toNat - 48))
    have l1 := valF_lt r hP.2
    have l2 := valF_lt t hQ.2
    have z1 : 0 * 10 + (c.toNat - 48) = c.toNat - 48 := by omega
    have z2 : 0 * 10 + (d.toNat - 48) = d.toNat - 48 := by omega
    rw [z1] at h1
    rw [z2] at h2
    have e1 : valF 0 (c :: r) = (c.toNat - 48) * 10 ^ t.length + valF 0 r := by rw [← hl]; show valF (0 * 10 + (c.toNat - 48)) r = _; rw [z1, h1]
    have e2 : valF 0 (d :: t) = (d.toNat - 48) * 10 ^ t.length + valF 0 t := by show valF (0 * 10 + (d.toNat - 48)) t = _; rw [z2, h2]
    rw [hl] at l1
    rw [e1, e2]
    show (decide (c < d) || (c == d && Op.bytesLess r t)) = _
    rw [ih]
    by_cases h3 : c.toNat < d.toNat
    · have : c < d := by rw [UInt8.lt_iff_toNat_lt]; exact h3
      have h4 : (c.toNat - 48 + 1) * 10 ^ t.length ≤ (d.toNat - 48) * 10 ^ t.length := Nat.mul_le_mul_right _ (by omega)
      rw [Nat.add_mul, Nat.one_mul] at h4
      simp only [this, decide_true, Bool.true_or]
      symm
      rw [decide_eq_true_eq]
      omega
    · by_cases h4 : c = d
      · subst h4
        have : ¬ c < c := by rw [UInt8.lt_iff_toNat_lt]; omega
        simp only [this, decide_false, Bool.false_or, beq_self_eq_true, Bool.true_and, Nat.add_lt_add_iff_left]
      · have hne : c.toNat ≠ d.toNat := fun e => h4 (u8_eq e)
        have h5 : (d.toNat - 48 + 1) * 10 ^ t.length ≤ (c.toNat - 48) * 10 ^ t.length := Nat.mul_le_mul_right _ (by omega)
        rw [Nat.add_mul, Nat.one_mul] at h5
        have h6 : ¬ c < d := by rw [UInt8.lt_iff_toNat_lt]; omega
        have h7 : (c == d) = false := by simpa using h4
        simp only [h6, decide_false, h7, Bool.false_and, Bool.or_self]
        symm
        rw [decide_eq_false_iff_not]
        omega
/-- of two texts of positive numbers with one length the greater one is the greater number's -/
theorem less_itoa {n m : Int} (hn : 0 < n) (hm : 0 < m) (hl : (Lib.itoa n).length = (Lib.itoa m).length) : Op.bytesLess (Lib.itoa n) (Lib.itoa m) = decide (n < m) := by
  obtain ⟨a, rfl⟩ : ∃ a : Nat, n = a := ⟨n.toNat, by omega⟩
  obtain ⟨b, rfl⟩ : ∃ b : Nat, m = b := ⟨m.toNat, by omega⟩
  rw [Lib.itoa_nonneg, Lib.itoa_nonneg] at *
  rw [less_val _ _ hl (dec_dig a) (dec_dig b), dec_val, dec_val, decide_eq_decide]
  omega
end Go.Proofs.YtjbfoanboidkbaaDoor.Nu
