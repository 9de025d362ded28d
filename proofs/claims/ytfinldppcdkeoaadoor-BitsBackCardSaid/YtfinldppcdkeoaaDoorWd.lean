/-
  Membership, and the guard on the number of words.
  Conditions: words below 2^64, at most 20 words, where it is said.
-/
import Derived.Test.YtfinldppcdkeoaaDoorWc
namespace Go.Proofs.YtfinldppcdkeoaaDoor
open Go.RowKit Bm
def hasB (n : Int) (ws : List Nat) (i : Int) : Bool := validB n ws && (decide (0 ≤ i) && (decide (i < n) && bitAt ws i.toNat))
set_option maxHeartbeats 800000 in
theorem bHas_c (n i : Int) (A : Option Addr) (c : Nat) (ws : List Nat) (w : World) (hC : Cells w A (u64s ws)) (hw : Wd ws) (hm : ws.length ≤ 20) :
    Calls Tryd.prog 33 #[.agg #[.int .i64 n, .slice A ws.length c], .int .i64 i] w (Ret w (.bool (hasB n ws i))) := by
  have H1 := Lib.hid (fun w' (hx : Ex w w') => valid_c n A c ws w' (hC.ex hx) hw)
  cases h1 : validB n ws
  · have hf : Hid (hasB n ws i = false) := by show hasB n ws i = false; simp [hasB, h1]
    rw [h1] at H1; clear h1 hC hw
    generalize ws.length = m at *
    go_enter Tryd.func33, Tryd.ntmps33
    go_wp2_with fail
    refine (H1.out _ (by repeat (first | exact Ex.refl _ | apply Ex.ext | apply Ex.alloc))).mono ?_
    rintro e w' ⟨rfl, y, rfl⟩
    go_wp2
    go_ret
    exact Ret.mk (by rw [hf.out]; rfl) (((Ex.refl _).alloc _).ext _)
  · obtain ⟨q, rfl, hv⟩ := (validB_iff n ws).1 h1
    have H2 := Lib.hid (fun w' => inside_c q i A ws.length c w')
    by_cases hin : 0 ≤ i ∧ i < q
    · obtain ⟨k, rfl⟩ : ∃ k : Nat, i = k := ⟨i.toNat, by omega⟩
      have hlt : k < 64 * ws.length := by have := hv.len; omega
      have H3 := Lib.hid (fun w' (hx : Ex w w') => has_c q k A c w' ws (hC.ex hx) hw hlt hm)
      have hf : Hid (hasB q ws k = bitAt ws k) := by show hasB q ws k = bitAt ws k; simp [hasB, h1]; omega
      have hq : (decide ((0 : Int) ≤ (k : Int)) && decide ((k : Int) < (q : Int))) = true := by simp; omega
      rw [hq] at H2
      rw [h1] at H1; clear h1 hC hw hq hv
      generalize ws.length = m at *
      go_enter Tryd.func33, Tryd.ntmps33
      go_wp2_with fail
      refine (H1.out _ (by repeat (first | exact Ex.refl _ | apply Ex.ext | apply Ex.alloc))).mono ?_
      rintro e w' ⟨rfl, y, rfl⟩
      go_wp2_with fail
      refine (Calls.up (W := w.alloc (.cells #[.int .i64 q, .slice A m c] 24)) ⟨_, rfl⟩ (H2.out _)).mono ?_
      rintro e w' ⟨rfl, y2, rfl⟩
      go_wp2_with fail
      refine (Calls.up (W := w.alloc (.cells #[.int .i64 q, .slice A m c] 24)) ⟨_, rfl⟩ (H3.out _ (by repeat (first | exact Ex.refl _ | apply Ex.ext | apply Ex.alloc)))).mono ?_
      rintro e w' ⟨rfl, y3, rfl⟩
      go_wp2
      go_ret
      exact Ret.mk (by rw [hf.out]; rfl) (((Ex.refl _).alloc _).ext _)
    · have hf : Hid (hasB q ws i = false) := by show hasB q ws i = false; simp [hasB]; intro _ h2 h3; omega
      have hq : (decide ((0 : Int) ≤ i) && decide (i < (q : Int))) = false := by simp; omega
      rw [hq] at H2
      rw [h1] at H1; clear h1 hC hw hq hv
      generalize ws.length = m at *
      go_enter Tryd.func33, Tryd.ntmps33
      go_wp2_with fail
      refine (H1.out _ (by repeat (first | exact Ex.refl _ | apply Ex.ext | apply Ex.alloc))).mono ?_
      rintro e w' ⟨rfl, y, rfl⟩
      go_wp2_with fail
      refine (Calls.up (W := w.alloc (.cells #[.int .i64 q, .slice A m c] 24)) ⟨_, rfl⟩ (H2.out _)).mono ?_
      rintro e w' ⟨rfl, y2, rfl⟩
      go_wp2
      go_ret
      exact Ret.mk (by rw [hf.out]; rfl) (((Ex.refl _).alloc _).ext _)
set_option maxHeartbeats 800000 in
theorem rHas_c (n i : Int) (A : Option Addr) (c : Nat) (ws : List Nat) (w : World) (hC : Cells w A (u64s ws)) (hw : Wd ws) (hm : ws.length ≤ 20) :
    Calls Tryd.prog 34 #[.agg #[.int .i64 n, .slice A ws.length c], .int .i64 i] w (Ret w (.bool (hasB n ws i))) := by
  have H1 := Lib.hid (fun w' (hx : Ex w w') => rvalid_c n A c ws w' (hC.ex hx) hw)
  cases h1 : validB n ws
  · have hf : Hid (hasB n ws i = false) := by show hasB n ws i = false; simp [hasB, h1]
    rw [h1] at H1; clear h1 hC hw
    generalize ws.length = m at *
    go_enter Tryd.func34, Tryd.ntmps34
    go_wp2_with fail
    refine (H1.out _ (by repeat (first | exact Ex.refl _ | apply Ex.ext | apply Ex.alloc))).mono ?_
    rintro e w' ⟨rfl, y, rfl⟩
    go_wp2
    go_ret
    exact Ret.mk (by rw [hf.out]; rfl) (((Ex.refl _).alloc _).ext _)
  · obtain ⟨q, rfl, hv⟩ := (validB_iff n ws).1 h1
    by_cases h0 : 0 ≤ i
    · by_cases h2 : i < q
      · obtain ⟨k, rfl⟩ : ∃ k : Nat, i = k := ⟨i.toNat, by omega⟩
        have hlt : k < 64 * ws.length := by have := hv.len; omega
        have H3 := Lib.hid (fun w' (hx : Ex w w') => bit_c q k A c w' ws (hC.ex hx) hw hlt hm)
        have hf : Hid (hasB q ws k = bitAt ws k) := by show hasB q ws k = bitAt ws k; simp [hasB, h1]; omega
        rw [h1] at H1; clear h1 hC hw hv
        generalize ws.length = m at *
        go_enter Tryd.func34, Tryd.ntmps34
        go_wp2_with fail
        refine (H1.out _ (by repeat (first | exact Ex.refl _ | apply Ex.ext | apply Ex.alloc))).mono ?_
        rintro e w' ⟨rfl, y, rfl⟩
        go_wp2_with fail
        refine (Calls.up (W := w.alloc (.cells #[.int .i64 q, .slice A m c] 24)) ⟨_, rfl⟩ (H3.out _ (by repeat (first | exact Ex.refl _ | apply Ex.ext | apply Ex.alloc)))).mono ?_
        rintro e w' ⟨rfl, y3, rfl⟩
        go_wp2
        go_ret
        exact Ret.mk (by rw [hf.out]; rfl) (((Ex.refl _).alloc _).ext _)
      · have hf : Hid (hasB q ws i = false) := by show hasB q ws i = false; simp [hasB]; intro _ h2 h3; omega
        have hd : decide (i < (q : Int)) = false := by simp; omega
        rw [h1] at H1; clear h1 hC hw hv
        generalize ws.length = m at *
        go_enter Tryd.func34, Tryd.ntmps34
        go_wp2_with fail
        refine (H1.out _ (by repeat (first | exact Ex.refl _ | apply Ex.ext | apply Ex.alloc))).mono ?_
        rintro e w' ⟨rfl, y, rfl⟩
        go_wp2
        go_ret
        exact Ret.mk (by rw [hf.out]; rfl) (((Ex.refl _).alloc _).ext _)
    · have hf : Hid (hasB q ws i = false) := by show hasB q ws i = false; simp [hasB]; intro _ h2 h3; omega
      have hd : decide (0 ≤ i) = false := by simp; omega
      rw [h1] at H1; clear h1 hC hw hv
      generalize ws.length = m at *
      go_enter Tryd.func34, Tryd.ntmps34
      go_wp2_with fail
      refine (H1.out _ (by repeat (first | exact Ex.refl _ | apply Ex.ext | apply Ex.alloc))).mono ?_
      rintro e w' ⟨rfl, y, rfl⟩
      go_wp2
      go_ret
      exact Ret.mk (by rw [hf.out]; rfl) (((Ex.refl _).alloc _).ext _)
/-- a list of sets in block g, given by their words' numbers -/
def SetsAt (w : World) (g : Nat) (L : List (Int × Option Addr × Nat × Nat)) : Prop :=
  g < w.heap.size ∧ ∀ j s, L[j]? = some s → w.cell? ⟨g, j * 2, none⟩ = some (.int .i64 s.1) ∧ w.cell? ⟨g, j * 2 + 1, none⟩ = some (.slice s.2.1 s.2.2.1 s.2.2.2)
def RetNN (w : World) (e : Ending) (w' : World) : Prop := ∃ k : Nat, e = .returned (.int .i64 k) ∧ Ex w w'
theorem dec20 (m : Nat) : decide ((20 : Int) < (m : Int)) = decide (20 < m) := by rw [decide_eq_decide]; omega
theorem few1_c (n : Int) (A : Option Addr) (m c : Nat) (w : World) : Calls Tryd.prog 47 #[.agg #[.int .i64 n, .slice A m c]] w (Ret w (.bool (decide (20 < m)))) := by
  go_enter Tryd.func47, Tryd.ntmps47
  go_wp2
  go_ret
  exact Ret.mk (by rw [← dec20]; rfl) ((Ex.refl _).alloc _)
set_option maxHeartbeats 800000 in
theorem few_index (g : Nat) (L : List (Int × Option Addr × Nat × Nat)) (w : World) (hS : SetsAt w g L) (hL : L.length ≤ 100) (hall : ∀ s ∈ L, s.2.2.1 ≤ 20) :
    Calls Tryd.prog 68 #[.slice (some ⟨g, 0, none⟩) L.length L.length, .func (.func 47) #[] #[]] w (Ret w (.int .i64 (-1))) := by
  obtain ⟨hg, hc⟩ := hS
  have HC := Lib.hid hc
  have HL := Lib.hid hall
  have HM : Hid (∀ k, k < L.length → ∃ s, L[k]? = some s ∧ s ∈ L) := fun k hk => ⟨L[k], List.getElem?_eq_getElem hk, List.getElem_mem _⟩
  clear hc hall
  generalize L.length = m at *
  go_enter Tryd.func68, Tryd.ntmps68
  go_wp2
  go_loopw [8] (fun i wr => ∃ k : Nat, i = .int .i64 k ∧ k ≤ m ∧ Ex w wr) (fun i _ => m - (intOf i).toNat)
  case atStart => exact ⟨0, rfl, by omega, Ex.refl _⟩
  case round =>
    obtain ⟨k, rfl, hk, z, rfl⟩ := hrel
    by_cases hlt : k < m
    · obtain ⟨⟨n, A, p, c⟩, hs, hin⟩ := HM.out k hlt
      obtain ⟨c1, c2⟩ := HC.out k _ hs
      have h20 := HL.out _ hin
      have hf := Lib.hid (few1_c n A p c (ext w z))
      simp only at c1 c2 h20
      rw [decide_eq_false (by omega : ¬ 20 < p)] at hf
      clear hs hin
      have hkm : (k : Int) < m := by omega
      go_wp2_with fail
      refine (Calls.up (W := w) ⟨_, rfl⟩ hf.out).mono ?_
      rintro e w' ⟨rfl, y, rfl⟩
      go_wp2
      go_roundw
      case rel => exact ⟨k + 1, by go_num, by omega, (Ex.refl _).ext _⟩
      case measure => simp [intOf]; omega
    · go_wp2
      go_ret
      exact Ret.mk rfl ((Ex.refl _).ext _)
set_option maxHeartbeats 800000 in
theorem few_index2 (g : Nat) (L : List (Int × Option Addr × Nat × Nat)) (w : World) (hS : SetsAt w g L) (hL : L.length ≤ 100) (hex : ∃ s ∈ L, 20 < s.2.2.1) :
    Calls Tryd.prog 68 #[.slice (some ⟨g, 0, none⟩) L.length L.length, .func (.func 47) #[] #[]] w (RetNN w) := by
  obtain ⟨hg, hc⟩ := hS
  have HC := Lib.hid hc
  have HM : Hid (∀ k, k < L.length → ∃ s, L[k]? = some s ∧ s ∈ L) := fun k hk => ⟨L[k], List.getElem?_eq_getElem hk, List.getElem_mem _⟩
  obtain ⟨s0, hs0, h0⟩ := hex
  obtain ⟨k0, hk0, hk1⟩ := List.getElem_of_mem hs0
  have HK : Hid (L[k0]? = some s0) := by show L[k0]? = some s0; rw [List.getElem?_eq_getElem hk0, hk1]
  have H0 := Lib.hid h0
  clear hc h0 hk1 hs0
  generalize L.length = m at *
  go_enter Tryd.func68, Tryd.ntmps68
  go_wp2
  go_loopw [8] (fun i wr => ∃ k : Nat, i = .int .i64 k ∧ k ≤ k0 ∧ Ex w wr) (fun i _ => m - (intOf i).toNat)
  case atStart => exact ⟨0, rfl, by omega, Ex.refl _⟩
  case round =>
    obtain ⟨k, rfl, hk, z, rfl⟩ := hrel
    have hlt : k < m := by omega
    obtain ⟨⟨n, A, p, c⟩, hs, hin⟩ := HM.out k hlt
    have hne : 20 < p ∨ k < k0 := by
      by_cases e : k = k0
      · left
        have h1 := HK.out
        rw [← e, hs] at h1
        have h2 := H0.out
        rw [← Option.some.inj h1] at h2
        exact h2
      · right; omega
    obtain ⟨c1, c2⟩ := HC.out k _ hs
    have hf := Lib.hid (few1_c n A p c (ext w z))
    simp only at c1 c2
    clear hs hin
    have hkm : (k : Int) < m := by omega
    by_cases hp : 20 < p
    · rw [decide_eq_true hp] at hf
      clear hne hp
      go_wp2_with fail
      refine (Calls.up (W := w) ⟨_, rfl⟩ hf.out).mono ?_
      rintro e w' ⟨rfl, y, rfl⟩
      go_wp2
      go_ret
      exact ⟨k, rfl, (Ex.refl _).ext _⟩
    · rw [decide_eq_false hp] at hf
      have hkk : k < k0 := by omega
      clear hne hp
      go_wp2_with fail
      refine (Calls.up (W := w) ⟨_, rfl⟩ hf.out).mono ?_
      rintro e w' ⟨rfl, y, rfl⟩
      go_wp2
      go_roundw
      case rel => exact ⟨k + 1, by go_num, by omega, (Ex.refl _).ext _⟩
      case measure => simp [intOf]; omega
/-- few, on a list that a law laid -/
theorem few_c (g : Nat) (L : List (Int × Option Addr × Nat × Nat)) (w : World) (hS : SetsAt w g L) (hL : L.length ≤ 100) :
    Calls Tryd.prog 12 #[.slice (some ⟨g, 0, none⟩) L.length L.length] w (Ret w (.bool (decide (∀ s ∈ L, s.2.2.1 ≤ 20)))) := by
  by_cases h : ∀ s ∈ L, s.2.2.1 ≤ 20
  · rw [decide_eq_true h]
    have H := Lib.hid (few_index g L w hS hL h)
    clear hS h
    generalize L.length = m at *
    go_enter Tryd.func12, Tryd.ntmps12
    go_wp2_with fail
    go_enter Tryd.func46, Tryd.ntmps46
    go_wp2_with fail
    refine H.out.mono ?_
    rintro e w' ⟨rfl, y, rfl⟩
    go_wp2
    go_ret
    exact Ret.mk rfl ((Ex.refl _).ext _)
  · rw [decide_eq_false h]
    have H := Lib.hid (few_index2 g L w hS hL (Classical.byContradiction fun hn => h fun s hs => Nat.le_of_not_lt fun hlt => hn ⟨s, hs, hlt⟩))
    clear hS h
    generalize L.length = m at *
    go_enter Tryd.func12, Tryd.ntmps12
    go_wp2_with fail
    go_enter Tryd.func46, Tryd.ntmps46
    go_wp2_with fail
    refine H.out.mono ?_
    rintro e w' ⟨k, rfl, y, rfl⟩
    go_wp2
    go_ret
    exact Ret.mk rfl ((Ex.refl _).ext _)
end Go.Proofs.YtfinldppcdkeoaaDoor
