/-
  Lines at several failures: plain.
  Conditions: as each theorem says.
-/
import Derived.Test.YtdenojfbdkdpiaaYm
import Derived.Test.YtdenojfbdkdpiaaPc
namespace Go.Proofs.Ytdenojfbdkdpiaa
open Go.RowKit Go.Shelf
theorem perm_sub {M : List Msg} {l : List (List Int)} {F G : List Int} (h : ∀ x, x ∈ F → x ∈ G) {c : List Int} (hc : IsLine M (permF l G) c) : IsLine M (permF l F) c := by
  refine ⟨by rw [hc.len, permF_len, permF_len], fun p r a hr ha => ?_, hc.closed⟩
  obtain ⟨r0, h0⟩ := get_at (show p < l.length by rw [← permF_len l F]; exact (List.getElem?_eq_some_iff.1 hr).1)
  rw [permF_get h0] at hr
  cases hr
  have h1 := hc.mem p _ a (permF_get h0) ha
  by_cases hp : (p : Int) ∈ F
  · rw [if_pos hp]
    rw [if_pos (h _ hp)] at h1
    exact h1
  · rw [if_neg hp]
    split at h1
    · exact stored_sub h1
    · exact h1
/-- more failures: no later line -/
theorem more_geq {M : List Msg} {l : List (List Int)} {F G : List Int} (h : ∀ x, x ∈ F → x ∈ G) {c d : List Int} (hc : IsTop M (permF l F) c) (hd : IsTop M (permF l G) d) : Geq c d :=
  hc.top _ (perm_sub h hd.line)
theorem permF_nil (l : List (List Int)) : permF l [] = l := by
  apply List.ext_getElem?
  intro p
  by_cases hp : p < l.length
  · obtain ⟨r, hr⟩ := get_at hp
    rw [permF_get hr, hr]
    simp
  · rw [List.getElem?_eq_none (by rw [permF_len]; omega), List.getElem?_eq_none (by omega)]
/-- the lengths of the processes -/
def lensL (t : List Pr) : List Int := t.map fun x => (x.evs.length : Int)
theorem lensL_get {t : List Pr} {p : Nat} {x : Pr} (h : t[p]? = some x) : (lensL t)[p]? = some (x.evs.length : Int) := by
  unfold lensL
  rw [List.getElem?_map, h]
  rfl
theorem lensL_evN {t : List Pr} {p : Nat} {a : Int} (h : (lensL t)[p]? = some a) : a = (evN t p : Int) := by
  unfold lensL at h
  rw [List.getElem?_map] at h
  obtain ⟨x, hx, rfl⟩ := Option.map_eq_some_iff.1 h
  rw [evN_at hx]
/-- without a failure nothing is lost -/
theorem lens_top {t : List Pr} {l : List (List Int)} (hv : cpB t l = true) : IsTop (msgs t) (permF l []) (lensL t) := by
  have hc := cp_of hv
  have hz := fault_zero (of_decide_eq_true hc.1)
  have hP : Paired t := paired_of hz.2.2.2.1
  rw [permF_nil]
  refine ⟨⟨by rw [hc.2.1]; simp [lensL], fun p r a hr ha => ?_, fun m hm a b ha hb _ => ?_⟩, fun d hd p a b ha hb => ?_⟩
  · have h := (hc.2.2 p r hr).2.1
    rw [lensL_evN ha]
    exact List.mem_of_getElem? h
  · obtain ⟨h1, -⟩ := rcv_mem hP hm
    have := h1.2
    rw [lensL_evN hb]
    omega
  · obtain ⟨r, hr⟩ := get_at (show p < l.length by rw [← hd.len]; exact (List.getElem?_eq_some_iff.1 ha).1)
    rw [lensL_evN hb]
    exact okRow_le (hc.2.2 p r hr) (hd.mem p r a hr ha)
/-- a process is out of range -/
def badF2 (F : List Int) (n : Nat) : Bool := F.any fun x => decide (x < 0) || decide ((n : Int) ≤ x)
theorem badF2_app (F G : List Int) (n : Nat) : badF2 (F ++ G) n = (badF2 F n || badF2 G n) := List.any_append
theorem badF_of {l : List (List Int)} {F : List Int} {n : Nat} (h : badF2 F n = false) (hn : l.length = n) (hl : F.length ≤ 1000) : badF l F = false := by
  subst hn
  unfold badF2 at h
  unfold badF
  rw [h, decide_eq_false (by omega)]
  rfl
/-- all processes have failed -/
theorem in_all {F : List Int} {n m : Nat} (h : badF2 F n = false) (hm : n = m) : ∀ x, x ∈ F → x ∈ allF m := fun x hx => by
  subst hm
  unfold badF2 at h
  rw [List.any_eq_false] at h
  have := h x hx
  simp only [Bool.or_eq_true, decide_eq_true_eq, not_or] at this
  exact List.mem_map.2 ⟨x.toNat, List.mem_range.2 (by omega), by omega⟩
end Go.Proofs.Ytdenojfbdkdpiaa
