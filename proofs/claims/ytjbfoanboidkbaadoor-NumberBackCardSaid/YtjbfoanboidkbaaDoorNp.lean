/-
  Plain facts on numerals: what is parsed, what is written. No program in sight.
  Conditions: none.
-/
import Derived.Lib.AtoiAll
import Derived.Lib.ItoaNum
import Derived.Lib.SlTrimSet
import Derived.Lib.Strings
namespace Go.Proofs.YtjbfoanboidkbaaDoor.Nu
open Go
def isDig (c : UInt8) : Bool := decide (48 ≤ c.toNat) && decide (c.toNat ≤ 57)
theorem isDig_iff (c : UInt8) : isDig c = true ↔ 48 ≤ c.toNat ∧ c.toNat ≤ 57 := by simp [isDig]
/-- the value of digits, behind a value -/
def valF : Nat → List UInt8 → Nat
  | a, [] => a
  | a, c :: r => valF (a * 10 + (c.toNat - 48)) r
theorem valF_ge (l : List UInt8) : ∀ a : Nat, a ≤ valF a l := by
  induction l with
  | nil => exact fun _ => Nat.le_refl _
  | cons _ r ih => exact fun _ => Nat.le_trans (by omega) (ih _)
theorem valF_append : ∀ (l m : List UInt8) (a : Nat), valF a (l ++ m) = valF (valF a l) m
  | [], _, _ => rfl
  | _ :: r, m, _ => valF_append r m _
/-- what stands behind a sign -/
def pdig : List UInt8 → List UInt8
  | [] => []
  | c :: r => if c = 45 then r else c :: r
def formOk (l : List UInt8) : Bool := (!(pdig l).isEmpty) && ((pdig l).all isDig && !(decide ((pdig l).head? = some 48) && decide (l ≠ [48])))
def sgn (l : List UInt8) (n : Nat) : Int := if l.head? = some 45 then -(n : Int) else n
def parV (l : List UInt8) : Int := if formOk l then (if valF 0 (pdig l) ≤ 1125899906842624 then sgn l (valF 0 (pdig l)) else 0) else 0
def parE (l : List UInt8) : Int := if formOk l then (if valF 0 (pdig l) ≤ 1125899906842624 then 0 else 9) else 3
theorem u8_eq {c d : UInt8} (h : c.toNat = d.toNat) : c = d := UInt8.toNat_inj.1 h
theorem parse_digits : ∀ (l : List UInt8) (a : Nat), a < 18446744073709551616 → l.all isDig = true →
    Lib.parseUint10 a l = if valF a l < 18446744073709551616 then .ok (valF a l) else .range
  | [], a, ha, _ => by
    show Lib.NumEnd.ok a = if a < 18446744073709551616 then .ok a else .range
    rw [if_pos ha]
  | c :: r, a, ha, h => by
    rw [List.all_cons, Bool.and_eq_true, isDig_iff] at h
    obtain ⟨hc, hr⟩ := h
    unfold Lib.parseUint10
    rw [if_pos hc]
    have hge := valF_ge r (a * 10 + (c.toNat - 48))
    by_cases h1 : 1844674407370955162 ≤ a
    · rw [if_pos h1, if_neg]
      show ¬ valF (a * 10 + (c.toNat - 48)) r < _
      omega
    · rw [if_neg h1]
      by_cases h2 : 18446744073709551616 ≤ a * 10 + (c.toNat - 48)
      · rw [if_pos h2, if_neg]
        show ¬ valF (a * 10 + (c.toNat - 48)) r < _
        omega
      · rw [if_neg h2, parse_digits r _ (by omega) hr]
        rfl
theorem sgn_neg (r : List UInt8) (n : Nat) : sgn (45 :: r) n = -(n : Int) := by simp [sgn]
theorem sgn_pos (c : UInt8) (r : List UInt8) (n : Nat) (h : ¬ c = 45) : sgn (c :: r) n = n := by simp [sgn, h]
/-- how the library's parse ends at a right form -/
theorem atoi_form (l : List UInt8) (h : formOk l = true) :
    (Lib.atoiAll l = .range ∧ 1125899906842624 < valF 0 (pdig l)) ∨ Lib.atoiAll l = .ok (sgn l (valF 0 (pdig l))) := by
  unfold formOk at h
  simp only [Bool.and_eq_true, Bool.not_eq_true'] at h
  obtain ⟨h1, h2, -⟩ := h
  match l, h1, h2 with
  | c :: r, h1, h2 =>
    unfold pdig at h1 h2 ⊢
    unfold Lib.atoiAll
    dsimp only at h1 h2 ⊢
    by_cases hc : c = 45
    · subst hc
      simp only [if_true] at h1 h2 ⊢
      have hne : r ≠ [] := by simpa using h1
      have hp : Lib.parseMag r = if valF 0 r < 18446744073709551616 then .ok (valF 0 r) else .range := by
        unfold Lib.parseMag
        rw [if_neg hne, parse_digits r 0 (by decide) h2]
      have e45 : (45 : UInt8).toNat = 45 := rfl
      simp only [e45, or_true, if_true]
      rw [hp, sgn_neg]
      by_cases hv : valF 0 r < 18446744073709551616
      · rw [if_pos hv]
        by_cases hv2 : 9223372036854775808 < valF 0 r
        · left
          refine ⟨?_, by omega⟩
          simp [hv2]
        · right
          simp [hv2]
      · left
        rw [if_neg hv]
        exact ⟨rfl, by omega⟩
    · rw [if_neg hc] at h1 h2 ⊢
      have hd : 48 ≤ c.toNat ∧ c.toNat ≤ 57 := by
        rw [List.all_cons, Bool.and_eq_true, isDig_iff] at h2
        exact h2.1
      have hp : Lib.parseMag (c :: r) = if valF 0 (c :: r) < 18446744073709551616 then .ok (valF 0 (c :: r)) else .range := by
        unfold Lib.parseMag
        rw [if_neg (by simp), parse_digits (c :: r) 0 (by decide) h2]
      have n43 : ¬ c.toNat = 43 := by omega
      have n45 : ¬ c.toNat = 45 := by omega
      simp only [n43, n45, or_self, if_false]
      rw [hp, sgn_pos c r _ hc]
      by_cases hv : valF 0 (c :: r) < 18446744073709551616
      · rw [if_pos hv]
        by_cases hv2 : 9223372036854775808 ≤ valF 0 (c :: r)
        · left
          refine ⟨?_, by omega⟩
          simp [hv2]
        · right
          simp [hv2]
      · left
        rw [if_neg hv]
        exact ⟨rfl, by omega⟩
/-- trimming digits leaves nothing exactly if all are digits -/
theorem trim_nil (l cs : List UInt8) : Lib.trimS l cs = [] ↔ ∀ c ∈ l, cs.contains c = true := by
  have hd : ∀ m : List UInt8, m.dropWhile (cs.contains ·) = [] ↔ ∀ c ∈ m, cs.contains c = true := fun m => by
    induction m with
    | nil => simp
    | cons a m ih =>
      rw [List.dropWhile_cons]
      by_cases h : cs.contains a = true
      · rw [if_pos h, ih]; simp only [List.mem_cons, forall_eq_or_imp, h, true_and]
      · rw [if_neg h]
        simp only [reduceCtorEq, false_iff]
        exact fun hh => h (hh a (by simp))
  unfold Lib.trimS Lib.trimLeftS Lib.trimRightS
  rw [hd]
  constructor
  · intro h
    have h2 : l.reverse.dropWhile (cs.contains ·) = [] := by
      cases hx : l.reverse.dropWhile (cs.contains ·) with
      | nil => rfl
      | cons a m =>
        have h3 : cs.contains a = true := h a (by rw [hx]; simp)
        have h4 := List.head?_dropWhile_not (cs.contains ·) l.reverse
        rw [hx] at h4
        simp only [List.head?_cons] at h4
        rw [h3] at h4
        simp at h4
    rw [hd] at h2
    exact fun c hc => h2 c (by simpa using hc)
  · intro h c hc
    have h2 := (hd l.reverse).2 (fun c hc => h c (by simpa using hc))
    rw [h2] at hc
    simp at hc
theorem dig_set (c : UInt8) : ([48, 49, 50, 51, 52, 53, 54, 55, 56, 57] : List UInt8).contains c = isDig c := by
  have h : ∀ n : Fin 256, ([48, 49, 50, 51, 52, 53, 54, 55, 56, 57] : List UInt8).contains (UInt8.ofNat n.val) = isDig (UInt8.ofNat n.val) := by decide +kernel
  have h2 := h ⟨c.toNat, UInt8.toNat_lt c⟩
  simpa using h2
theorem trim_dig (l : List UInt8) : (Lib.trimS l [48, 49, 50, 51, 52, 53, 54, 55, 56, 57]).isEmpty = l.all isDig := by
  rw [Bool.eq_iff_iff, List.isEmpty_iff, trim_nil, List.all_eq_true]
  constructor
  · intro h c hc; rw [← dig_set]; exact h c hc
  · intro h c hc; rw [dig_set]; exact h c hc
theorem pdig_trim (l : List UInt8) : Lib.trimPrefix l [45] = pdig l := by
  unfold Lib.trimPrefix pdig
  match l with
  | [] => rfl
  | c :: r =>
    by_cases h : c = 45
    · subst h; simp [Lib.hasPrefix]
    · have h' : ¬ 45 = c := fun e => h e.symm
      simp [Lib.hasPrefix, h, h']
end Go.Proofs.YtjbfoanboidkbaaDoor.Nu
