/-
  Forced lists are checkpoint lists without useless checkpoints. Plain lemmas.
  Conditions: as each theorem says.
-/
import Derived.Test.YtdenojfbdkdpiaaGreatQa
import Derived.Test.YtdenojfbdkdpiaaGreatPk
namespace Go.Proofs.YtdenojfbdkdpiaaGreat
open Go.RowKit Go.Shelf
theorem frc_ok {r : List Int} {es : List Ev} (h : okRow es.length r) : okRow es.length (frc r es 0 false) := by
  have hasc := frc_asc r es 0 false
  have h0 : (0 : Int) ∈ frc r es 0 false := frc_old r es 0 false 0 (Nat.le_refl _) (Nat.zero_le _) (List.mem_iff_getElem?.2 ⟨0, h.1⟩)
  have hn : (es.length : Int) ∈ frc r es 0 false := frc_old r es 0 false es.length (Nat.zero_le _) (by omega) (List.mem_iff_getElem?.2 ⟨_, h.2.1⟩)
  have hb : ∀ a, a ∈ frc r es 0 false → 0 ≤ a ∧ a ≤ (es.length : Int) := fun a ha => by
    have := frc_ge r es 0 false a ha
    omega
  generalize frc r es 0 false = f at *
  rw [List.pairwise_iff_getElem] at hasc
  have hlt : ∀ (i j : Nat) (a b : Int), i < j → f[i]? = some a → f[j]? = some b → a < b := fun i j a b hij ha hb' => by
    obtain ⟨hi, rfl⟩ := List.getElem?_eq_some_iff.1 ha
    obtain ⟨hj, rfl⟩ := List.getElem?_eq_some_iff.1 hb'
    exact hasc i j hi hj hij
  obtain ⟨i, hi⟩ := List.mem_iff_getElem?.1 h0
  obtain ⟨j, hj⟩ := List.mem_iff_getElem?.1 hn
  have hil := (List.getElem?_eq_some_iff.1 hi).1
  have hjl := (List.getElem?_eq_some_iff.1 hj).1
  refine ⟨?_, ?_, fun i a b ha hb => hlt i (i + 1) a b (by omega) ha hb⟩
  · by_cases hz : i = 0
    · rw [← hz]; exact hi
    · obtain ⟨a, ha⟩ := get_at (show 0 < f.length by omega)
      have := hlt 0 i a 0 (by omega) ha hi
      have := (hb a (List.mem_of_getElem? ha)).1
      omega
  · by_cases hz : j = f.length - 1
    · rw [← hz]; exact hj
    · obtain ⟨a, ha⟩ := get_at (show f.length - 1 < f.length by omega)
      have := hlt j (f.length - 1) _ a (by omega) hj ha
      have := (hb a (List.mem_of_getElem? ha)).2
      omega
theorem frcL_row {t : List Pr} {l : List (List Int)} (h : cpP t l) {p : Nat} {f : List Int} (hf : (frcL t l)[p]? = some f) : ∃ x r, t[p]? = some x ∧ l[p]? = some r ∧ f = frc r x.evs 0 false := by
  have hp : p < l.length := by have := (List.getElem?_eq_some_iff.1 hf).1; rwa [frcL_len] at this
  obtain ⟨x, hx⟩ := get_at (show p < t.length by rw [← h.1]; exact hp)
  obtain ⟨r, hr⟩ := get_at hp
  rw [frcL_get hp, frcP_at hx hr] at hf
  cases hf
  exact ⟨x, r, hx, hr, rfl⟩
theorem frcL_cp {t : List Pr} {l : List (List Int)} (h : cpP t l) : cpP t (frcL t l) := ⟨by rw [frcL_len]; exact h.1, fun p f hf => by
  obtain ⟨x, r, hx, hr, rfl⟩ := frcL_row h hf
  have := h.2 p r hr
  rw [evN_at hx] at this ⊢
  exact frc_ok this⟩
theorem frcL_parted {t : List Pr} {l : List (List Int)} (h : cpP t l) : Parted t (frcL t l) := fun p f hf i j e g hij he hk hg hk3 => by
  obtain ⟨x, r, hx, hr, rfl⟩ := frcL_row h hf
  have e1 : x.evs[i]? = some e := by unfold evAt at he; rw [hx] at he; exact he
  have e2 : x.evs[j]? = some g := by unfold evAt at hg; rw [hx] at hg; exact hg
  obtain ⟨a, h1, h2, h3⟩ := (frc_between r x.evs 0 false).2 i j e g hij e1 hk e2 hk3
  exact ⟨a, h1, by omega, by omega⟩
theorem frcL_again {t : List Pr} {l : List (List Int)} (h : cpP t l) : frcL t (frcL t l) = frcL t l := by
  apply list_all (by rw [frcL_len])
  intro p a b ha hb
  have hp : p < l.length := by have := (List.getElem?_eq_some_iff.1 hb).1; rwa [frcL_len] at this
  obtain ⟨x, r, hx, hr, rfl⟩ := frcL_row h hb
  rw [frcL_get (by rw [frcL_len]; exact hp), frcP_at hx hb] at ha
  cases ha
  exact frc_again r _ x.evs 0 false fun j _ => Iff.rfl
theorem useless_none {t : List Pr} {l : List (List Int)} (hv : validB t = true) (h : cpP t l) : useL (frcL t l) (msgs t) (ckU (frcL t l) (frcL t l).length 0) = [] := by
  have hz := fault_zero (of_decide_eq_true hv)
  have hP : Paired t := paired_of hz.2.2.2.1
  unfold useL
  rw [List.filter_eq_nil_iff]
  intro x _ hx
  exact parted_none (fun m hm => msg_is hP hm) (msg_fit hP (frcL_cp h)) (frcL_parted h) hz.2.2.2.2 x.1 (lvZ (frcL t l) x) (zB_iff.1 hx)
theorem contains_c (xs : List Int) (A : Option Addr) (c : Nat) (x : Int) (w : World) (hx : Row w A (intsV xs)) (hne : xs ≠ []) (lx : xs.length ≤ 1000000000) :
    Calls Tryz.prog 15 #[.slice A xs.length c, .int .i64 x] w (Ret w (.bool (decide (x ∈ xs)))) := by
  obtain ⟨b, o, rfl, -, hc⟩ := row_at hx hne
  refine (Tryz.slices_Contains_int b o xs.length c xs x w (Nat.le_refl _) (by omega) (contains_int hc)).mono ?_
  rintro e w' ⟨rfl, rfl⟩
  rw [List.take_length]
  exact ⟨by rw [show xs.contains x = decide (x ∈ xs) by rw [Bool.eq_iff_iff]; simp], Ex.refl _⟩
end Go.Proofs.YtdenojfbdkdpiaaGreat
