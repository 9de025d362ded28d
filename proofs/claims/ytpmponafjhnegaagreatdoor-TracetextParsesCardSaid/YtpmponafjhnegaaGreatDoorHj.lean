/-
  slices.IndexFunc and slices.ContainsFunc at the element types of this seat, walked: for every function value that answers by a plain test.
  Conditions: as each theorem says.
-/
import Derived.Test.YtpmponafjhnegaaGreatDoorBase
import Derived.Shelf.Abstract
namespace Go.Proofs.YtpmponafjhnegaaGreatDoor
open Go.RowKit
/-- the first number below n for which q holds, else -1 -/
def idxF (q : Nat → Bool) (n : Nat) : Int := match (List.range n).find? q with | some i => (i : Int) | none => -1
theorem idxF_hit {q : Nat → Bool} {n k : Nat} (hk : k < n) (hq : q k = true) (ha : ∀ j, j < k → q j = false) : idxF q n = (k : Int) := by
  unfold idxF
  rw [show (List.range n).find? q = some k from ?_]
  rw [List.find?_range_eq_some]
  exact ⟨hq, List.mem_range.2 hk, fun j hj => by rw [ha j hj]; rfl⟩
theorem idxF_miss {q : Nat → Bool} {n : Nat} (ha : ∀ j, j < n → q j = false) : idxF q n = -1 := by
  unfold idxF
  rw [show (List.range n).find? q = none from ?_]
  rw [List.find?_range_eq_none]
  exact fun j hj => by rw [ha j hj]; rfl
theorem idxF_any (q : Nat → Bool) (n : Nat) : decide (0 ≤ idxF q n) = (List.range n).any q := by
  by_cases h : ∃ j, j < n ∧ q j = true
  · obtain ⟨j, hj, hq⟩ := h
    have h1 : (List.range n).any q = true := List.any_eq_true.2 ⟨j, List.mem_range.2 hj, hq⟩
    rw [h1]
    unfold idxF
    cases hf : (List.range n).find? q with
    | some i => exact decide_eq_true (by simp only; omega)
    | none =>
      rw [List.find?_eq_none] at hf
      exact absurd hq (by simpa using hf j (List.mem_range.2 hj))
  · have ha : ∀ j, j < n → q j = false := fun j hj => by
      cases hq : q j with
      | false => rfl
      | true => exact absurd ⟨j, hj, hq⟩ h
    rw [idxF_miss ha]
    have h1 : (List.range n).any q = false := by
      rw [List.any_eq_false]
      intro j hj
      rw [ha j (List.mem_range.1 hj)]
      decide
    rw [h1]
    rfl
set_option maxRecDepth 20000 in
set_option maxHeartbeats 1600000 in
theorem idxProc_c (g : Nat) (lb : Array Value) (eg : ∀ args w, (callFunc g args).run Tryz.prog w = .ok (.enter g args) w) (A : Option Addr) (n c : Nat) (v0 v1 v2 : Nat → Value) (q : Nat → Bool) (w : World) (hn : n ≤ 1000000000)
    (hc : ∀ w', Ex w w' → ∀ j, j < n → ∃ b o, A = some ⟨b, o, none⟩ ∧ b < w'.heap.size ∧ w'.cell? ⟨b, o + j * 3, none⟩ = some (v0 j) ∧ w'.cell? ⟨b, o + j * 3 + 1, none⟩ = some (v1 j) ∧ w'.cell? ⟨b, o + j * 3 + 2, none⟩ = some (v2 j))
    (hq : ∀ w', Ex w w' → ∀ j, j < n → Calls Tryz.prog g (#[.agg #[v0 j, v1 j, v2 j]] ++ lb) w' (Ret w' (.bool (q j)))) :
    Calls Tryz.prog 139 #[.slice A n c, .func (.func g) #[] lb] w (Ret w (.int .i64 (idxF q n))) := by
  have HC := Lib.hid hc
  have HQ := Lib.hid hq
  have H1 : Hid (∀ k, k < n → q k = true → (∀ j, j < k → q j = false) → idxF q n = (k : Int)) := fun k h1 h2 h3 => idxF_hit h1 h2 h3
  have H2 : Hid ((∀ j, j < n → q j = false) → idxF q n = -1) := fun h => idxF_miss h
  clear hc hq
  generalize idxF q n = R at *
  go_enter Tryz.func139, Tryz.ntmps139
  go_wp2_with fail
  go_loopw [8] (fun i wr => ∃ k : Nat, i = .int .i64 k ∧ k ≤ n ∧ Hid ((∀ j, j < k → q j = false) ∧ Ex w wr)) (fun i _ => n - (intOf i).toNat)
  case atStart => exact ⟨0, rfl, Nat.zero_le _, Lib.hid ⟨fun j h => absurd h (Nat.not_lt_zero _), Ex.refl _⟩⟩
  case round =>
    obtain ⟨k, rfl, hk, HH⟩ := hrel
    by_cases hkn : k < n
    · have m0 : (0 : Int) ≤ (k : Int) := by omega
      have m1 : (k : Int) < (n : Int) := by omega
      obtain ⟨b, o, rfl, hb, k0, k1, k2⟩ := HC.out wr HH.out.2 k hkn
      have HCall := Lib.hid (HQ.out wr HH.out.2 k hkn)
      have HR : Hid (q k = true → R = (k : Int)) := fun h => H1.out k hkn h HH.out.1
      have HN : Hid (q k = false → ∀ j, j < k + 1 → q j = false) := fun h j hj => by
        by_cases hjk : j = k
        · rw [hjk]; exact h
        · exact HH.out.1 j (by omega)
      generalize q k = B at *
      cases B with
      | true =>
        have hR := HR.out rfl
        subst hR
        go_wp2_with (go_at_fn g; refine (HCall.out).mono ?_; rintro e9 w' ⟨rfl, z, rfl⟩)
        go_ret
        exact Ret.mk rfl (HH.out.2.ext z)
      | false =>
        have HN2 := Lib.hid (HN.out rfl)
        go_wp2_with (go_at_fn g; refine (HCall.out).mono ?_; rintro e9 w' ⟨rfl, z, rfl⟩)
        refine ⟨⟨k + 1, by go_num, by omega, Lib.hid ⟨HN2.out, HH.out.2.ext z⟩⟩, by simp [intOf]; omega⟩
    · obtain rfl : k = n := by omega
      have hR := H2.out HH.out.1
      subst hR
      have s1 : decide ((k : Int) < (k : Int)) = false := decide_eq_false (by omega)
      go_wp2_with fail
      go_ret
      exact Ret.mk rfl HH.out.2
theorem anyProc_c (g : Nat) (lb : Array Value) (eg : ∀ args w, (callFunc g args).run Tryz.prog w = .ok (.enter g args) w) (A : Option Addr) (n c : Nat) (v0 v1 v2 : Nat → Value) (q : Nat → Bool) (w : World) (hn : n ≤ 1000000000)
    (hc : ∀ w', Ex w w' → ∀ j, j < n → ∃ b o, A = some ⟨b, o, none⟩ ∧ b < w'.heap.size ∧ w'.cell? ⟨b, o + j * 3, none⟩ = some (v0 j) ∧ w'.cell? ⟨b, o + j * 3 + 1, none⟩ = some (v1 j) ∧ w'.cell? ⟨b, o + j * 3 + 2, none⟩ = some (v2 j))
    (hq : ∀ w', Ex w w' → ∀ j, j < n → Calls Tryz.prog g (#[.agg #[v0 j, v1 j, v2 j]] ++ lb) w' (Ret w' (.bool (q j)))) :
    Calls Tryz.prog 114 #[.slice A n c, .func (.func g) #[] lb] w (Ret w (.bool ((List.range n).any q))) := by
  have HI := Lib.hid (idxProc_c g lb eg A n c v0 v1 v2 q w hn hc hq)
  rw [← idxF_any]
  clear hc hq eg
  generalize idxF q n = R at *
  go_enter Tryz.func114, Tryz.ntmps114
  go_wp2_with (go_at_call 139; refine (HI.out).mono ?_; rintro e9 w' ⟨rfl, z, rfl⟩)
  go_ret
  exact Ret.mk (by first | rfl | simp) ⟨z, rfl⟩
set_option maxRecDepth 20000 in
set_option maxHeartbeats 1600000 in
theorem idxVar_c (g : Nat) (lb : Array Value) (eg : ∀ args w, (callFunc g args).run Tryz.prog w = .ok (.enter g args) w) (A : Option Addr) (n c : Nat) (v0 v1 : Nat → Value) (q : Nat → Bool) (w : World) (hn : n ≤ 1000000000)
    (hc : ∀ w', Ex w w' → ∀ j, j < n → ∃ b o, A = some ⟨b, o, none⟩ ∧ b < w'.heap.size ∧ w'.cell? ⟨b, o + j * 2, none⟩ = some (v0 j) ∧ w'.cell? ⟨b, o + j * 2 + 1, none⟩ = some (v1 j))
    (hq : ∀ w', Ex w w' → ∀ j, j < n → Calls Tryz.prog g (#[.agg #[v0 j, v1 j]] ++ lb) w' (Ret w' (.bool (q j)))) :
    Calls Tryz.prog 71 #[.slice A n c, .func (.func g) #[] lb] w (Ret w (.int .i64 (idxF q n))) := by
  have HC := Lib.hid hc
  have HQ := Lib.hid hq
  have H1 : Hid (∀ k, k < n → q k = true → (∀ j, j < k → q j = false) → idxF q n = (k : Int)) := fun k h1 h2 h3 => idxF_hit h1 h2 h3
  have H2 : Hid ((∀ j, j < n → q j = false) → idxF q n = -1) := fun h => idxF_miss h
  clear hc hq
  generalize idxF q n = R at *
  go_enter Tryz.func71, Tryz.ntmps71
  go_wp2_with fail
  go_loopw [8] (fun i wr => ∃ k : Nat, i = .int .i64 k ∧ k ≤ n ∧ Hid ((∀ j, j < k → q j = false) ∧ Ex w wr)) (fun i _ => n - (intOf i).toNat)
  case atStart => exact ⟨0, rfl, Nat.zero_le _, Lib.hid ⟨fun j h => absurd h (Nat.not_lt_zero _), Ex.refl _⟩⟩
  case round =>
    obtain ⟨k, rfl, hk, HH⟩ := hrel
    by_cases hkn : k < n
    · have m0 : (0 : Int) ≤ (k : Int) := by omega
      have m1 : (k : Int) < (n : Int) := by omega
      obtain ⟨b, o, rfl, hb, k0, k1⟩ := HC.out wr HH.out.2 k hkn
      have HCall := Lib.hid (HQ.out wr HH.out.2 k hkn)
      have HR : Hid (q k = true → R = (k : Int)) := fun h => H1.out k hkn h HH.out.1
      have HN : Hid (q k = false → ∀ j, j < k + 1 → q j = false) := fun h j hj => by
        by_cases hjk : j = k
        · rw [hjk]; exact h
        · exact HH.out.1 j (by omega)
      generalize q k = B at *
      cases B with
      | true =>
        have hR := HR.out rfl
        subst hR
        go_wp2_with (go_at_fn g; refine (HCall.out).mono ?_; rintro e9 w' ⟨rfl, z, rfl⟩)
        go_ret
        exact Ret.mk rfl (HH.out.2.ext z)
      | false =>
        have HN2 := Lib.hid (HN.out rfl)
        go_wp2_with (go_at_fn g; refine (HCall.out).mono ?_; rintro e9 w' ⟨rfl, z, rfl⟩)
        refine ⟨⟨k + 1, by go_num, by omega, Lib.hid ⟨HN2.out, HH.out.2.ext z⟩⟩, by simp [intOf]; omega⟩
    · obtain rfl : k = n := by omega
      have hR := H2.out HH.out.1
      subst hR
      have s1 : decide ((k : Int) < (k : Int)) = false := decide_eq_false (by omega)
      go_wp2_with fail
      go_ret
      exact Ret.mk rfl HH.out.2
theorem anyVar_c (g : Nat) (lb : Array Value) (eg : ∀ args w, (callFunc g args).run Tryz.prog w = .ok (.enter g args) w) (A : Option Addr) (n c : Nat) (v0 v1 : Nat → Value) (q : Nat → Bool) (w : World) (hn : n ≤ 1000000000)
    (hc : ∀ w', Ex w w' → ∀ j, j < n → ∃ b o, A = some ⟨b, o, none⟩ ∧ b < w'.heap.size ∧ w'.cell? ⟨b, o + j * 2, none⟩ = some (v0 j) ∧ w'.cell? ⟨b, o + j * 2 + 1, none⟩ = some (v1 j))
    (hq : ∀ w', Ex w w' → ∀ j, j < n → Calls Tryz.prog g (#[.agg #[v0 j, v1 j]] ++ lb) w' (Ret w' (.bool (q j)))) :
    Calls Tryz.prog 31 #[.slice A n c, .func (.func g) #[] lb] w (Ret w (.bool ((List.range n).any q))) := by
  have HI := Lib.hid (idxVar_c g lb eg A n c v0 v1 q w hn hc hq)
  rw [← idxF_any]
  clear hc hq eg
  generalize idxF q n = R at *
  go_enter Tryz.func31, Tryz.ntmps31
  go_wp2_with (go_at_call 71; refine (HI.out).mono ?_; rintro e9 w' ⟨rfl, z, rfl⟩)
  go_ret
  exact Ret.mk (by first | rfl | simp) ⟨z, rfl⟩
set_option maxRecDepth 20000 in
set_option maxHeartbeats 1600000 in
theorem idxAssign_c (g : Nat) (lb : Array Value) (eg : ∀ args w, (callFunc g args).run Tryz.prog w = .ok (.enter g args) w) (A : Option Addr) (n c : Nat) (v0 v1 : Nat → Value) (q : Nat → Bool) (w : World) (hn : n ≤ 1000000000)
    (hc : ∀ w', Ex w w' → ∀ j, j < n → ∃ b o, A = some ⟨b, o, none⟩ ∧ b < w'.heap.size ∧ w'.cell? ⟨b, o + j * 2, none⟩ = some (v0 j) ∧ w'.cell? ⟨b, o + j * 2 + 1, none⟩ = some (v1 j))
    (hq : ∀ w', Ex w w' → ∀ j, j < n → Calls Tryz.prog g (#[.agg #[v0 j, v1 j]] ++ lb) w' (Ret w' (.bool (q j)))) :
    Calls Tryz.prog 140 #[.slice A n c, .func (.func g) #[] lb] w (Ret w (.int .i64 (idxF q n))) := by
  have HC := Lib.hid hc
  have HQ := Lib.hid hq
  have H1 : Hid (∀ k, k < n → q k = true → (∀ j, j < k → q j = false) → idxF q n = (k : Int)) := fun k h1 h2 h3 => idxF_hit h1 h2 h3
  have H2 : Hid ((∀ j, j < n → q j = false) → idxF q n = -1) := fun h => idxF_miss h
  clear hc hq
  generalize idxF q n = R at *
  go_enter Tryz.func140, Tryz.ntmps140
  go_wp2_with fail
  go_loopw [8] (fun i wr => ∃ k : Nat, i = .int .i64 k ∧ k ≤ n ∧ Hid ((∀ j, j < k → q j = false) ∧ Ex w wr)) (fun i _ => n - (intOf i).toNat)
  case atStart => exact ⟨0, rfl, Nat.zero_le _, Lib.hid ⟨fun j h => absurd h (Nat.not_lt_zero _), Ex.refl _⟩⟩
  case round =>
    obtain ⟨k, rfl, hk, HH⟩ := hrel
    by_cases hkn : k < n
    · have m0 : (0 : Int) ≤ (k : Int) := by omega
      have m1 : (k : Int) < (n : Int) := by omega
      obtain ⟨b, o, rfl, hb, k0, k1⟩ := HC.out wr HH.out.2 k hkn
      have HCall := Lib.hid (HQ.out wr HH.out.2 k hkn)
      have HR : Hid (q k = true → R = (k : Int)) := fun h => H1.out k hkn h HH.out.1
      have HN : Hid (q k = false → ∀ j, j < k + 1 → q j = false) := fun h j hj => by
        by_cases hjk : j = k
        · rw [hjk]; exact h
        · exact HH.out.1 j (by omega)
      generalize q k = B at *
      cases B with
      | true =>
        have hR := HR.out rfl
        subst hR
        go_wp2_with (go_at_fn g; refine (HCall.out).mono ?_; rintro e9 w' ⟨rfl, z, rfl⟩)
        go_ret
        exact Ret.mk rfl (HH.out.2.ext z)
      | false =>
        have HN2 := Lib.hid (HN.out rfl)
        go_wp2_with (go_at_fn g; refine (HCall.out).mono ?_; rintro e9 w' ⟨rfl, z, rfl⟩)
        refine ⟨⟨k + 1, by go_num, by omega, Lib.hid ⟨HN2.out, HH.out.2.ext z⟩⟩, by simp [intOf]; omega⟩
    · obtain rfl : k = n := by omega
      have hR := H2.out HH.out.1
      subst hR
      have s1 : decide ((k : Int) < (k : Int)) = false := decide_eq_false (by omega)
      go_wp2_with fail
      go_ret
      exact Ret.mk rfl HH.out.2
theorem anyAssign_c (g : Nat) (lb : Array Value) (eg : ∀ args w, (callFunc g args).run Tryz.prog w = .ok (.enter g args) w) (A : Option Addr) (n c : Nat) (v0 v1 : Nat → Value) (q : Nat → Bool) (w : World) (hn : n ≤ 1000000000)
    (hc : ∀ w', Ex w w' → ∀ j, j < n → ∃ b o, A = some ⟨b, o, none⟩ ∧ b < w'.heap.size ∧ w'.cell? ⟨b, o + j * 2, none⟩ = some (v0 j) ∧ w'.cell? ⟨b, o + j * 2 + 1, none⟩ = some (v1 j))
    (hq : ∀ w', Ex w w' → ∀ j, j < n → Calls Tryz.prog g (#[.agg #[v0 j, v1 j]] ++ lb) w' (Ret w' (.bool (q j)))) :
    Calls Tryz.prog 119 #[.slice A n c, .func (.func g) #[] lb] w (Ret w (.bool ((List.range n).any q))) := by
  have HI := Lib.hid (idxAssign_c g lb eg A n c v0 v1 q w hn hc hq)
  rw [← idxF_any]
  clear hc hq eg
  generalize idxF q n = R at *
  go_enter Tryz.func119, Tryz.ntmps119
  go_wp2_with (go_at_call 140; refine (HI.out).mono ?_; rintro e9 w' ⟨rfl, z, rfl⟩)
  go_ret
  exact Ret.mk (by first | rfl | simp) ⟨z, rfl⟩
set_option maxRecDepth 20000 in
set_option maxHeartbeats 1600000 in
theorem idxEvent_c (g : Nat) (lb : Array Value) (eg : ∀ args w, (callFunc g args).run Tryz.prog w = .ok (.enter g args) w) (A : Option Addr) (n c : Nat) (v0 v1 v2 v3 v4 : Nat → Value) (q : Nat → Bool) (w : World) (hn : n ≤ 1000000000)
    (hc : ∀ w', Ex w w' → ∀ j, j < n → ∃ b o, A = some ⟨b, o, none⟩ ∧ b < w'.heap.size ∧ w'.cell? ⟨b, o + j * 5, none⟩ = some (v0 j) ∧ w'.cell? ⟨b, o + j * 5 + 1, none⟩ = some (v1 j) ∧ w'.cell? ⟨b, o + j * 5 + 2, none⟩ = some (v2 j) ∧ w'.cell? ⟨b, o + j * 5 + 3, none⟩ = some (v3 j) ∧ w'.cell? ⟨b, o + j * 5 + 4, none⟩ = some (v4 j))
    (hq : ∀ w', Ex w w' → ∀ j, j < n → Calls Tryz.prog g (#[.agg #[v0 j, v1 j, v2 j, v3 j, v4 j]] ++ lb) w' (Ret w' (.bool (q j)))) :
    Calls Tryz.prog 72 #[.slice A n c, .func (.func g) #[] lb] w (Ret w (.int .i64 (idxF q n))) := by
  have HC := Lib.hid hc
  have HQ := Lib.hid hq
  have H1 : Hid (∀ k, k < n → q k = true → (∀ j, j < k → q j = false) → idxF q n = (k : Int)) := fun k h1 h2 h3 => idxF_hit h1 h2 h3
  have H2 : Hid ((∀ j, j < n → q j = false) → idxF q n = -1) := fun h => idxF_miss h
  clear hc hq
  generalize idxF q n = R at *
  go_enter Tryz.func72, Tryz.ntmps72
  go_wp2_with fail
  go_loopw [8] (fun i wr => ∃ k : Nat, i = .int .i64 k ∧ k ≤ n ∧ Hid ((∀ j, j < k → q j = false) ∧ Ex w wr)) (fun i _ => n - (intOf i).toNat)
  case atStart => exact ⟨0, rfl, Nat.zero_le _, Lib.hid ⟨fun j h => absurd h (Nat.not_lt_zero _), Ex.refl _⟩⟩
  case round =>
    obtain ⟨k, rfl, hk, HH⟩ := hrel
    by_cases hkn : k < n
    · have m0 : (0 : Int) ≤ (k : Int) := by omega
      have m1 : (k : Int) < (n : Int) := by omega
      obtain ⟨b, o, rfl, hb, k0, k1, k2, k3, k4⟩ := HC.out wr HH.out.2 k hkn
      have HCall := Lib.hid (HQ.out wr HH.out.2 k hkn)
      have HR : Hid (q k = true → R = (k : Int)) := fun h => H1.out k hkn h HH.out.1
      have HN : Hid (q k = false → ∀ j, j < k + 1 → q j = false) := fun h j hj => by
        by_cases hjk : j = k
        · rw [hjk]; exact h
        · exact HH.out.1 j (by omega)
      generalize q k = B at *
      cases B with
      | true =>
        have hR := HR.out rfl
        subst hR
        go_wp2_with (go_at_fn g; refine (HCall.out).mono ?_; rintro e9 w' ⟨rfl, z, rfl⟩)
        go_ret
        exact Ret.mk rfl (HH.out.2.ext z)
      | false =>
        have HN2 := Lib.hid (HN.out rfl)
        go_wp2_with (go_at_fn g; refine (HCall.out).mono ?_; rintro e9 w' ⟨rfl, z, rfl⟩)
        refine ⟨⟨k + 1, by go_num, by omega, Lib.hid ⟨HN2.out, HH.out.2.ext z⟩⟩, by simp [intOf]; omega⟩
    · obtain rfl : k = n := by omega
      have hR := H2.out HH.out.1
      subst hR
      have s1 : decide ((k : Int) < (k : Int)) = false := decide_eq_false (by omega)
      go_wp2_with fail
      go_ret
      exact Ret.mk rfl HH.out.2
theorem anyEvent_c (g : Nat) (lb : Array Value) (eg : ∀ args w, (callFunc g args).run Tryz.prog w = .ok (.enter g args) w) (A : Option Addr) (n c : Nat) (v0 v1 v2 v3 v4 : Nat → Value) (q : Nat → Bool) (w : World) (hn : n ≤ 1000000000)
    (hc : ∀ w', Ex w w' → ∀ j, j < n → ∃ b o, A = some ⟨b, o, none⟩ ∧ b < w'.heap.size ∧ w'.cell? ⟨b, o + j * 5, none⟩ = some (v0 j) ∧ w'.cell? ⟨b, o + j * 5 + 1, none⟩ = some (v1 j) ∧ w'.cell? ⟨b, o + j * 5 + 2, none⟩ = some (v2 j) ∧ w'.cell? ⟨b, o + j * 5 + 3, none⟩ = some (v3 j) ∧ w'.cell? ⟨b, o + j * 5 + 4, none⟩ = some (v4 j))
    (hq : ∀ w', Ex w w' → ∀ j, j < n → Calls Tryz.prog g (#[.agg #[v0 j, v1 j, v2 j, v3 j, v4 j]] ++ lb) w' (Ret w' (.bool (q j)))) :
    Calls Tryz.prog 33 #[.slice A n c, .func (.func g) #[] lb] w (Ret w (.bool ((List.range n).any q))) := by
  have HI := Lib.hid (idxEvent_c g lb eg A n c v0 v1 v2 v3 v4 q w hn hc hq)
  rw [← idxF_any]
  clear hc hq eg
  generalize idxF q n = R at *
  go_enter Tryz.func33, Tryz.ntmps33
  go_wp2_with (go_at_call 72; refine (HI.out).mono ?_; rintro e9 w' ⟨rfl, z, rfl⟩)
  go_ret
  exact Ret.mk (by first | rfl | simp) ⟨z, rfl⟩
end Go.Proofs.YtpmponafjhnegaaGreatDoor
