/-
  Which checkpoints are together in a line: plain.
  Conditions: as each theorem says.
-/
import Derived.Test.YtdenojfbdkdpiaaRb
namespace Go.Proofs.Ytdenojfbdkdpiaa
open Go.RowKit Go.Shelf
theorem rch_or {M : List Msg} {s1 s2 : Msg → Bool} {nx : Msg → Msg → Bool} {m : Msg} : Rch M (fun m => s1 m || s2 m) nx m ↔ Rch M s1 nx m ∨ Rch M s2 nx m := by
  constructor
  · intro h
    induction h with
    | start hm hs =>
      rcases Bool.or_eq_true _ _ ▸ hs with h | h
      · exact .inl (.start hm h)
      · exact .inr (.start hm h)
    | step _ hm hn ih =>
      rcases ih with h | h
      · exact .inl (.step h hm hn)
      · exact .inr (.step h hm hn)
  · rintro (h | h)
    · induction h with
      | start hm hs => exact .start hm (by simp [hs])
      | step _ hm hn ih => exact .step ih hm hn
    · induction h with
      | start hm hs => exact .start hm (by simp [hs])
      | step _ hm hn ih => exact .step ih hm hn
theorem zp_two {M : List Msg} {s1 s2 g1 g2 : Msg → Bool} {nx : Msg → Msg → Bool} : ZP M (fun m => s1 m || s2 m) nx (fun m => g1 m || g2 m) ↔ (ZP M s1 nx g1 ∨ ZP M s1 nx g2) ∨ ZP M s2 nx g1 ∨ ZP M s2 nx g2 := by
  constructor
  · rintro ⟨m, hm, hg⟩
    rw [Bool.or_eq_true] at hg
    rcases rch_or.1 hm with h | h <;> rcases hg with k | k
    · exact .inl (.inl ⟨m, h, k⟩)
    · exact .inl (.inr ⟨m, h, k⟩)
    · exact .inr (.inl ⟨m, h, k⟩)
    · exact .inr (.inr ⟨m, h, k⟩)
  · rintro ((⟨m, h, k⟩ | ⟨m, h, k⟩) | ⟨m, h, k⟩ | ⟨m, h, k⟩)
    · exact ⟨m, rch_or.2 (.inl h), by simp [k]⟩
    · exact ⟨m, rch_or.2 (.inl h), by simp [k]⟩
    · exact ⟨m, rch_or.2 (.inr h), by simp [k]⟩
    · exact ⟨m, rch_or.2 (.inr h), by simp [k]⟩
/-- a line is one of the choices that are consistent, and every such choice is a line -/
theorem line_mem {t : List Pr} {l : List (List Int)} (hv : cpB t l = true) (cs : List Int) : cs ∈ (prodL l).filter (conB t) ↔ IsLine (msgs t) l cs := by
  have hc := cp_of hv
  rw [List.mem_filter, mem_prod, conB_iff]
  constructor
  · rintro ⟨⟨h1, h2⟩, h3⟩
    exact ⟨h1, h2, h3.2.2.2⟩
  · intro h
    refine ⟨⟨h.len, h.mem⟩, hc.1, by rw [h.len, hc.2.1], fun p a ha => ?_, h.closed⟩
    obtain ⟨r, hr⟩ := get_at (show p < l.length by have := (List.getElem?_eq_some_iff.1 ha).1; rw [h.len] at this; exact this)
    have hok := hc.2.2 p r hr
    exact ⟨asc_nonneg hok.asc (h.mem p r a hr ha), okRow_le hok (h.mem p r a hr ha)⟩
theorem lv_mem {l : List (List Int)} {x : Nat × Nat} (hx : CkP l x) : ∃ r, l[x.1]? = some r ∧ lvZ l x ∈ r := by
  obtain ⟨r, hr⟩ := get_at hx.1
  have hg : l.getD x.1 [] = r := by rw [List.getD_eq_getElem?_getD, hr]; rfl
  have h2 := hx.2.2
  have h1 := hx.2.1
  rw [hg] at h2
  obtain ⟨a, ha⟩ := get_at (show x.2 - 1 < r.length by omega)
  refine ⟨r, hr, ?_⟩
  unfold lvZ
  rw [hg, List.getD_eq_getElem?_getD, ha]
  exact List.mem_of_getElem? ha
/-- two states of two processes -/
def twoX (p : Nat) (a : Int) (q : Nat) (b : Int) (k : Nat) : Option Int := if k = p then some a else if k = q then some b else none
theorem stX_two {p q : Nat} (a b : Int) (h : p ≠ q) : stX (twoX p a q b) = fun m => stX (oneX p a) m || stX (oneX q b) m := by
  funext m
  rw [stX_one, stX_one]
  unfold stX twoX
  by_cases h1 : m.1.1 = p
  · rw [if_pos h1, decide_eq_true h1, decide_eq_false (show ¬ m.1.1 = q by omega)]; simp
  · rw [if_neg h1, decide_eq_false h1]
    by_cases h2 : m.1.1 = q
    · rw [if_pos h2, decide_eq_true h2]; simp
    · rw [if_neg h2, decide_eq_false h2]; rfl
theorem goX_two {p q : Nat} (a b : Int) (h : p ≠ q) : goX (twoX p a q b) = fun m => goX (oneX p a) m || goX (oneX q b) m := by
  funext m
  rw [goX_one, goX_one]
  unfold goX twoX
  by_cases h1 : m.2.1 = p
  · rw [if_pos h1, decide_eq_true h1, decide_eq_false (show ¬ m.2.1 = q by omega)]; simp
  · rw [if_neg h1, decide_eq_false h1]
    by_cases h2 : m.2.1 = q
    · rw [if_pos h2, decide_eq_true h2]; simp
    · rw [if_neg h2, decide_eq_false h2]; rfl
theorem at_of_lv {cs : List Int} {p : Nat} {a : Int} (hp : p < cs.length) : cs.getD p 0 = a ↔ cs[p]? = some a := by
  obtain ⟨b, hb⟩ := get_at hp
  rw [List.getD_eq_getElem?_getD, hb]
  simp
/-- Netzer and Xu, for two checkpoints: in one line exactly if no path joins them -/
theorem pair_iff {t : List Pr} {l : List (List Int)} (hv : cpB t l = true) {x y : Nat × Nat} (hx : CkP l x) (hy : CkP l y) (hne : x.1 ≠ y.1) :
    ((prodL l).filter (conB t)).any (togB l x y) = !((zzB l (msgs t) x x || zzB l (msgs t) x y) || (zzB l (msgs t) y x || zzB l (msgs t) y y)) := by
  have hc := cp_of hv
  have hz := fault_zero (of_decide_eq_true hc.1)
  have hP : Paired t := paired_of hz.2.2.2.1
  have hf := msg_fit hP hc.2
  have key := line_iff hf (X := twoX x.1 (lvZ l x) y.1 (lvZ l y)) (fun p a h => by
    unfold twoX at h
    by_cases h1 : p = x.1
    · rw [if_pos h1] at h; cases h; rw [h1]; exact lv_mem hx
    · rw [if_neg h1] at h
      by_cases h2 : p = y.1
      · rw [if_pos h2] at h; cases h; rw [h2]; exact lv_mem hy
      · rw [if_neg h2] at h; cases h)
  rw [stX_two _ _ hne, goX_two _ _ hne, zp_two] at key
  have hz2 : (zzB l (msgs t) x x || zzB l (msgs t) x y || (zzB l (msgs t) y x || zzB l (msgs t) y y)) = true ↔ (ZP (msgs t) (stX (oneX x.1 (lvZ l x))) (nxB l) (goX (oneX x.1 (lvZ l x))) ∨ ZP (msgs t) (stX (oneX x.1 (lvZ l x))) (nxB l) (goX (oneX y.1 (lvZ l y)))) ∨ ZP (msgs t) (stX (oneX y.1 (lvZ l y))) (nxB l) (goX (oneX x.1 (lvZ l x))) ∨ ZP (msgs t) (stX (oneX y.1 (lvZ l y))) (nxB l) (goX (oneX y.1 (lvZ l y))) := by
    rw [Bool.or_eq_true, Bool.or_eq_true, Bool.or_eq_true]
    unfold zzB
    rw [zB_iff, zB_iff, zB_iff, zB_iff]
  have hany : ((prodL l).filter (conB t)).any (togB l x y) = true ↔ ∃ c, IsLine (msgs t) l c ∧ ∀ p a, twoX x.1 (lvZ l x) y.1 (lvZ l y) p = some a → c[p]? = some a := by
    rw [List.any_eq_true]
    constructor
    · rintro ⟨c, hm, ht⟩
      have hl := (line_mem hv c).1 hm
      unfold togB at ht
      rw [Bool.and_eq_true, decide_eq_true_iff, decide_eq_true_iff, at_of_lv (by rw [hl.len]; exact hx.1), at_of_lv (by rw [hl.len]; exact hy.1)] at ht
      refine ⟨c, hl, fun p a h => ?_⟩
      unfold twoX at h
      by_cases h1 : p = x.1
      · rw [if_pos h1] at h; cases h; rw [h1]; exact ht.1
      · rw [if_neg h1] at h
        by_cases h2 : p = y.1
        · rw [if_pos h2] at h; cases h; rw [h2]; exact ht.2
        · rw [if_neg h2] at h; cases h
    · rintro ⟨c, hl, h⟩
      refine ⟨c, (line_mem hv c).2 hl, ?_⟩
      unfold togB
      rw [Bool.and_eq_true, decide_eq_true_iff, decide_eq_true_iff, at_of_lv (by rw [hl.len]; exact hx.1), at_of_lv (by rw [hl.len]; exact hy.1)]
      refine ⟨h _ _ ?_, h _ _ ?_⟩
      · unfold twoX; rw [if_pos rfl]
      · unfold twoX; rw [if_neg (Ne.symm hne), if_pos rfl]
  rw [Bool.eq_iff_iff, hany, key, Bool.not_eq_true', ← Bool.not_eq_true, hz2]
end Go.Proofs.Ytdenojfbdkdpiaa
