/-
  Plain facts on numerals: what is parsed, what is written; a number's text is parsed as the number, and a text that is parsed is its number's. No program in sight.
  Conditions: none.
-/
import Derived.Lib.AtoiAll
import Derived.Lib.ItoaNum
import Derived.Lib.SlTrimSet
import Derived.Lib.Strings
import Derived.Lib.ItoaMem
import Derived.Laws.Strings
namespace Go.Proofs.YtpmponafjhnegaaGreatDoor.Nu
open Go
def isDig (c : UInt8) : Bool := decide (48 ≤ c.toNat) && decide (c.toNat ≤ 57)
theorem isDig_iff (c : UInt8) : isDig c = true ↔ 48 ≤ c.toNat ∧ c.toNat ≤ 57 := by simp [isDig]
/-- the value of digits, behind a value -/
def valF : Nat → List UInt8 → Nat
  | a, [] => a
  | a, c :: r => valF (a * 10 + (c.toNat - 48)) r
theorem valF_ge (l : List UInt8) : ∀ a : Nat, a ≤ valF a l := by
  induction l with
  | nil => exact fun _ => Nat.le_refl _
  | cons _ r ih => exact fun _ => Nat.le_trans (by omega) (ih _)
theorem valF_append : ∀ (l m : List UInt8) (a : Nat), valF a (l ++ m) = valF (valF a l) m
  | [], _, _ => rfl
  | _ :: r, m, _ => valF_append r m _
/-- what stands behind a sign -/
def pdig : List UInt8 → List UInt8
  | [] => []
  | c :: r => if c = 45 then r else c :: r
def formOk (l : List UInt8) : Bool := (!(pdig l).isEmpty) && ((pdig l).all isDig && !(decide ((pdig l).head? = some 48) && decide (l ≠ [48])))
def sgn (l : List UInt8) (n : Nat) : Int := if l.head? = some 45 then -(n : Int) else n
def parV (l : List UInt8) : Int := if formOk l then (if valF 0 (pdig l) ≤ 1125899906842624 then sgn l (valF 0 (pdig l)) else 0) else 0
def parE (l : List UInt8) : Int := if formOk l then (if valF 0 (pdig l) ≤ 1125899906842624 then 0 else 9) else 3
theorem u8_eq {c d : UInt8} (h : c.toNat = d.toNat) : c = d := UInt8.toNat_inj.1 h
theorem parse_digits : ∀ (l : List UInt8) (a : Nat), a < 18446744073709551616 → l.all isDig = true →
    Lib.parseUint10 a l = if valF a l < 18446744073709551616 then .ok (valF a l) else .range
  | [], a, ha, _ => by
    show Lib.NumEnd.ok a = if a < 18446744073709551616 then .ok a else .range
    rw [if_pos ha]
  | c :: r, a, ha, h => by
    rw [List.all_cons, Bool.and_eq_true, isDig_iff] at h
    obtain ⟨hc, hr⟩ := h
    unfold Lib.parseUint10
    rw [if_pos hc]
    have hge := valF_ge r (a * 10 + (c.toNat - 48))
    by_cases h1 : 1844674407370955162 ≤ a
    · rw [if_pos h1, if_neg]
      show ¬ valF (a * 10 + (c.toNat - 48)) r < _
      omega
    · rw [if_neg h1]
      by_cases h2 : 18446744073709551616 ≤ a * 10 + (c.toNat - 48)
      · rw [if_pos h2, if_neg]
        show ¬ valF (a * 10 + (c.toNat - 48)) r < _
        omega
      · rw [if_neg h2, parse_digits r _ (by omega) hr]
        rfl
theorem sgn_neg (r : List UInt8) (n : Nat) : sgn (45 :: r) n = -(n : Int) := by simp [sgn]
theorem sgn_pos (c : UInt8) (r : List UInt8) (n : Nat) (h : ¬ c = 45) : sgn (c :: r) n = n := by simp [sgn, h]
/-- how the library's parse ends at a right form -/
theorem atoi_form (l : List UInt8) (h : formOk l = true) :
    (Lib.atoiAll l = .range ∧ 1125899906842624 < valF 0 (pdig l)) ∨ Lib.atoiAll l = .ok (sgn l (valF 0 (pdig l))) := by
  unfold formOk at h
  simp only [Bool.and_eq_true, Bool.not_eq_true'] at h
  obtain ⟨h1, h2, -⟩ := h
  match l, h1, h2 with
  | c :: r, h1, h2 =>
    unfold pdig at h1 h2 ⊢
    unfold Lib.atoiAll
    dsimp only at h1 h2 ⊢
    by_cases hc : c = 45
    · subst hc
      simp only [if_true] at h1 h2 ⊢
      have hne : r ≠ [] := by simpa using h1
      have hp : Lib.parseMag r = if valF 0 r < 18446744073709551616 then .ok (valF 0 r) else .range := by
        unfold Lib.parseMag
        rw [if_neg hne, parse_digits r 0 (by decide) h2]
      have e45 : (45 : UInt8).toNat = 45 := rfl
      simp only [e45, or_true, if_true]
      rw [hp, sgn_neg]
      by_cases hv : valF 0 r < 18446744073709551616
      · rw [if_pos hv]
        by_cases hv2 : 9223372036854775808 < valF 0 r
        · left
          refine ⟨?_, by omega⟩
          simp [hv2]
        · right
          simp [hv2]
      · left
        rw [if_neg hv]
        exact ⟨rfl, by omega⟩
    · rw [if_neg hc] at h1 h2 ⊢
      have hd : 48 ≤ c.toNat ∧ c.toNat ≤ 57 := by
        rw [List.all_cons, Bool.and_eq_true, isDig_iff] at h2
        exact h2.1
      have hp : Lib.parseMag (c :: r) = if valF 0 (c :: r) < 18446744073709551616 then .ok (valF 0 (c :: r)) else .range := by
        unfold Lib.parseMag
        rw [if_neg (by simp), parse_digits (c :: r) 0 (by decide) h2]
      have n43 : ¬ c.toNat = 43 := by omega
      have n45 : ¬ c.toNat = 45 := by omega
      simp only [n43, n45, or_self, if_false]
      rw [hp, sgn_pos c r _ hc]
      by_cases hv : valF 0 (c :: r) < 18446744073709551616
      · rw [if_pos hv]
        by_cases hv2 : 9223372036854775808 ≤ valF 0 (c :: r)
        · left
          refine ⟨?_, by omega⟩
          simp [hv2]
        · right
          simp [hv2]
      · left
        rw [if_neg hv]
        exact ⟨rfl, by omega⟩
/-- trimming digits leaves nothing exactly if all are digits -/
theorem trim_nil (l cs : List UInt8) : Lib.trimS l cs = [] ↔ ∀ c ∈ l, cs.contains c = true := by
  have hd : ∀ m : List UInt8, m.dropWhile (cs.contains ·) = [] ↔ ∀ c ∈ m, cs.contains c = true := fun m => by
    induction m with
    | nil => simp
    | cons a m ih =>
      rw [List.dropWhile_cons]
      by_cases h : cs.contains a = true
      · rw [if_pos h, ih]; simp only [List.mem_cons, forall_eq_or_imp, h, true_and]
      · rw [if_neg h]
        simp only [reduceCtorEq, false_iff]
        exact fun hh => h (hh a (by simp))
  unfold Lib.trimS Lib.trimLeftS Lib.trimRightS
  rw [hd]
  constructor
  · intro h
    have h2 : l.reverse.dropWhile (cs.contains ·) = [] := by
      cases hx : l.reverse.dropWhile (cs.contains ·) with
      | nil => rfl
      | cons a m =>
        have h3 : cs.contains a = true := h a (by rw [hx]; simp)
        have h4 := List.head?_dropWhile_not (cs.contains ·) l.reverse
        rw [hx] at h4
        simp only [List.head?_cons] at h4
        rw [h3] at h4
        simp at h4
    rw [hd] at h2
    exact fun c hc => h2 c (by simpa using hc)
  · intro h c hc
    have h2 := (hd l.reverse).2 (fun c hc => h c (by simpa using hc))
    rw [h2] at hc
    simp at hc
theorem dig_set (c : UInt8) : ([48, 49, 50, 51, 52, 53, 54, 55, 56, 57] : List UInt8).contains c = isDig c := by
  have h : ∀ n : Fin 256, ([48, 49, 50, 51, 52, 53, 54, 55, 56, 57] : List UInt8).contains (UInt8.ofNat n.val) = isDig (UInt8.ofNat n.val) := by decide +kernel
  have h2 := h ⟨c.toNat, UInt8.toNat_lt c⟩
  simpa using h2
theorem trim_dig (l : List UInt8) : (Lib.trimS l [48, 49, 50, 51, 52, 53, 54, 55, 56, 57]).isEmpty = l.all isDig := by
  rw [Bool.eq_iff_iff, List.isEmpty_iff, trim_nil, List.all_eq_true]
  constructor
  · intro h c hc; rw [← dig_set]; exact h c hc
  · intro h c hc; rw [dig_set]; exact h c hc
theorem pdig_trim (l : List UInt8) : Lib.trimPrefix l [45] = pdig l := by
  unfold Lib.trimPrefix pdig
  match l with
  | [] => rfl
  | c :: r =>
    by_cases h : c = 45
    · subst h; simp [Lib.hasPrefix]
    · have h' : ¬ 45 = c := fun e => h e.symm
      simp [Lib.hasPrefix, h, h']
def chr (d : Nat) : UInt8 := UInt8.ofNat (48 + d)
theorem chr_nat {d : Nat} (h : d < 10) : (chr d).toNat = 48 + d := by
  unfold chr
  rw [UInt8.toNat_ofNat', Nat.mod_eq_of_lt (by omega)]
theorem dec_small {n : Nat} (h : n < 10) : Lib.decDigits n = [chr n] := by rw [Lib.decDigits, dif_pos h]; rfl
theorem dec_big {n : Nat} (h : ¬ n < 10) : Lib.decDigits n = Lib.decDigits (n / 10) ++ [chr (n % 10)] := by rw [Lib.decDigits, dif_neg h]; rfl
theorem dec_ne (n : Nat) : Lib.decDigits n ≠ [] := by
  by_cases h : n < 10
  · rw [dec_small h]; simp
  · rw [dec_big h]; simp
theorem dec_val (n : Nat) : valF 0 (Lib.decDigits n) = n := by
  induction n using Nat.strongRecOn with
  | _ n ih =>
    by_cases h : n < 10
    · rw [dec_small h]
      show 0 * 10 + ((chr n).toNat - 48) = n
      rw [chr_nat h]; omega
    · rw [dec_big h, valF_append, ih (n / 10) (by omega)]
      show n / 10 * 10 + ((chr (n % 10)).toNat - 48) = n
      rw [chr_nat (by omega)]; omega
theorem dec_dig (n : Nat) : (Lib.decDigits n).all isDig = true := by
  induction n using Nat.strongRecOn with
  | _ n ih =>
    by_cases h : n < 10
    · rw [dec_small h]
      simp [isDig_iff, chr_nat h]
      omega
    · rw [dec_big h, List.all_append, ih (n / 10) (by omega)]
      simp [isDig_iff, chr_nat (show n % 10 < 10 by omega)]
      omega
theorem dec_head {n : Nat} (h0 : n ≠ 0) : ∃ c r, Lib.decDigits n = c :: r ∧ c.toNat ≠ 48 := by
  induction n using Nat.strongRecOn with
  | _ n ih =>
    by_cases h : n < 10
    · refine ⟨chr n, [], dec_small h, ?_⟩
      rw [chr_nat h]; omega
    · obtain ⟨c, r, e, hc⟩ := ih (n / 10) (by omega) (by omega)
      refine ⟨c, r ++ [chr (n % 10)], ?_, hc⟩
      rw [dec_big h, e]; rfl
theorem dig_45 {c : UInt8} (h : isDig c = true) : c ≠ 45 := fun e => by subst e; revert h; decide
theorem pdig_dec (n : Nat) : pdig (Lib.decDigits n) = Lib.decDigits n := by
  have h := dec_dig n
  cases hx : Lib.decDigits n with
  | nil => rfl
  | cons c r =>
    rw [hx, List.all_cons, Bool.and_eq_true] at h
    show (if c = 45 then r else c :: r) = c :: r
    rw [if_neg (dig_45 h.1)]
/-- a number's text is parsed as the number -/
theorem par_itoa (n : Int) (h : -1125899906842624 ≤ n ∧ n ≤ 1125899906842624) : parV (Lib.itoa n) = n ∧ parE (Lib.itoa n) = 0 := by
  have key : ∀ (l P : List UInt8) (m : Nat), pdig l = P → P = Lib.decDigits m → (m = 0 → l = [48]) → m ≤ 1125899906842624 → sgn l m = n → parV l = n ∧ parE l = 0 := by
    intro l P m h1 h2 h3 h4 h5
    have hne : P ≠ [] := by rw [h2]; exact dec_ne m
    have hf : formOk l = true := by
      unfold formOk
      rw [h1, h2, dec_dig m]
      have he : (Lib.decDigits m).isEmpty = false := by simp [dec_ne m]
      rw [he]
      by_cases hm : m = 0
      · rw [h3 hm]; simp
      · obtain ⟨c, r, e, hc⟩ := dec_head hm
        have : c ≠ 48 := fun e => hc (by rw [e]; rfl)
        rw [e]; simp [this]
    unfold parV parE
    rw [if_pos hf, if_pos hf, h1, h2, dec_val, if_pos h4, if_pos h4, h5]
    exact ⟨rfl, rfl⟩
  by_cases hn : n < 0
  · obtain ⟨m, rfl⟩ : ∃ m : Nat, n = -(m : Int) := ⟨n.natAbs, by omega⟩
    rw [Lib.itoa_neg m (by omega)]
    exact key _ _ m rfl rfl (fun h0 => by omega) (by omega) (sgn_neg _ _)
  · obtain ⟨m, rfl⟩ : ∃ m : Nat, n = (m : Int) := ⟨n.toNat, by omega⟩
    rw [Lib.itoa_nonneg]
    refine key _ _ m (pdig_dec m) rfl (fun h0 => by subst h0; decide +kernel) (by omega) ?_
    have hd := dec_dig m
    cases hx : Lib.decDigits m with
    | nil => rfl
    | cons c r =>
      rw [hx, List.all_cons, Bool.and_eq_true] at hd
      exact sgn_pos c r m (dig_45 hd.1)
theorem valF_pos : ∀ (l : List UInt8), l.all isDig = true → (∃ c r, l = c :: r ∧ c.toNat ≠ 48) → 0 < valF 0 l := by
  intro l h ⟨c, r, e, hc⟩
  subst e
  rw [List.all_cons, Bool.and_eq_true, isDig_iff] at h
  have := valF_ge r (0 * 10 + (c.toNat - 48))
  show 0 < valF (0 * 10 + (c.toNat - 48)) r
  omega
/-- digits without a leading nought are the digits of their value -/
theorem dec_of (l : List UInt8) : l ≠ [] → l.all isDig = true → (l = [48] ∨ ∃ c r, l = c :: r ∧ c.toNat ≠ 48) → Lib.decDigits (valF 0 l) = l := by
  induction hn : l.length using Nat.strongRecOn generalizing l with
  | _ n ih =>
    intro h0 h1 h2
    have e := List.dropLast_concat_getLast h0
    generalize l.dropLast = Q at e
    generalize l.getLast h0 = c at e
    subst e
    rw [List.all_append, Bool.and_eq_true] at h1
    have hc : isDig c = true := by simpa using h1.2
    rw [isDig_iff] at hc
    have hv : valF 0 (Q ++ [c]) = valF 0 Q * 10 + (c.toNat - 48) := by rw [valF_append]; rfl
    have hchr : chr (c.toNat - 48) = c := u8_eq (by rw [chr_nat (by omega)]; omega)
    rw [hv]
    by_cases hQ : Q = []
    · subst hQ
      have : valF 0 ([] : List UInt8) = 0 := rfl
      rw [this, dec_small (by omega), show 0 * 10 + (c.toNat - 48) = c.toNat - 48 by omega, hchr]
      rfl
    · have hQ2 : ∃ d r, Q = d :: r ∧ d.toNat ≠ 48 := by
        cases Q with
        | nil => exact absurd rfl hQ
        | cons d r =>
          rcases h2 with h2 | ⟨d', r', e', hd'⟩
          · simp at h2
          · simp at e'
            exact ⟨d, r, rfl, by rw [e'.1]; exact hd'⟩
      have hp := valF_pos Q h1.1 hQ2
      have := ih Q.length (by rw [← hn]; simp) Q rfl hQ h1.1 (.inr hQ2)
      rw [dec_big (by omega), show (valF 0 Q * 10 + (c.toNat - 48)) / 10 = valF 0 Q by omega, this, show (valF 0 Q * 10 + (c.toNat - 48)) % 10 = c.toNat - 48 by omega, hchr]
/-- a text that is parsed is its number's text -/
theorem itoa_par (l : List UInt8) (h : parE l = 0) : Lib.itoa (parV l) = l ∧ (-1125899906842624 ≤ parV l ∧ parV l ≤ 1125899906842624) := by
  cases hf : formOk l
  · unfold parE at h; rw [hf] at h; simp at h
  · unfold parE at h
    rw [if_pos hf] at h
    by_cases hv : valF 0 (pdig l) ≤ 1125899906842624
    · have hV : parV l = sgn l (valF 0 (pdig l)) := by unfold parV; rw [if_pos hf, if_pos hv]
      unfold formOk at hf
      simp only [Bool.and_eq_true, Bool.not_eq_true'] at hf
      obtain ⟨f1, f2, f3⟩ := hf
      have hne : pdig l ≠ [] := by simpa using f1
      have hlz : pdig l = [48] ∧ l = [48] ∨ ∃ c r, pdig l = c :: r ∧ c.toNat ≠ 48 := by
        cases hx : pdig l with
        | nil => exact absurd hx hne
        | cons c r =>
          rw [hx] at f3
          by_cases hc : c = 48
          · have hl : l = [48] := by simpa [hc] using f3
            left
            rw [hl] at hx
            have : pdig [48] = [48] := by decide
            rw [this] at hx
            exact ⟨by rw [← hx], hl⟩
          · right
            exact ⟨c, r, rfl, fun e => hc (u8_eq (by rw [e]; rfl))⟩
      have hdec : Lib.decDigits (valF 0 (pdig l)) = pdig l := dec_of _ hne f2 (by
        rcases hlz with ⟨h1, -⟩ | h1
        · exact .inl h1
        · exact .inr h1)
      rw [hV]
      generalize hm : valF 0 (pdig l) = m at *
      match l, hne with
      | c :: r, hne =>
        by_cases hc : c = 45
        · subst hc
          have hp : pdig (45 :: r) = r := rfl
          rw [hp] at *
          rw [sgn_neg]
          have hm0 : 1 ≤ m := by
            rcases hlz with ⟨h1, h2⟩ | h1
            · simp at h2
            · rw [← hm]; exact valF_pos r f2 h1
          rw [Lib.itoa_neg m hm0, hdec]
          exact ⟨rfl, by omega⟩
        · have hp : pdig (c :: r) = c :: r := by
            show (if c = 45 then r else c :: r) = c :: r
            rw [if_neg hc]
          rw [sgn_pos c r m hc, Lib.itoa_nonneg, hdec]
          exact ⟨hp, by omega⟩
    · rw [if_neg hv] at h; simp at h
theorem parV_bad (l : List UInt8) (h : parE l ≠ 0) : parV l = 0 := by
  unfold parE at h
  unfold parV
  cases hf : formOk l
  · rfl
  · rw [hf] at h
    by_cases hv : valF 0 (pdig l) ≤ 1125899906842624
    · rw [if_pos rfl, if_pos hv] at h; exact absurd rfl h
    · rw [if_pos rfl, if_neg hv]
/-- no plus sign in a number's text -/
theorem itoa_plus (n : Int) : ∀ c ∈ Lib.itoa n, c ≠ 43 := by
  have hd : ∀ m, ∀ c ∈ Lib.decDigits m, c ≠ 43 := fun m c hc e => by
    have := List.all_eq_true.1 (dec_dig m) c hc
    rw [e] at this
    revert this
    decide
  intro c hc
  unfold Lib.itoa at hc
  split at hc
  · rw [List.mem_cons] at hc
    rcases hc with rfl | hc
    · decide
    · exact hd _ c hc
  · exact hd _ c hc
end Go.Proofs.YtpmponafjhnegaaGreatDoor.Nu
