/-
  The walk of the law Sums.
  Conditions: the world's tables are as laid (Env).
-/
import Derived.Test.YtjbfoanboidkbaaDoorNj
namespace Go.Proofs.YtjbfoanboidkbaaDoor
open Go.RowKit Nu Bn
theorem lim_cases (n : Int) : (limV n = n ∧ limE n = 0 ∧ isB n = true) ∨ (limV n = 0 ∧ limE n = 9 ∧ isB n = false) := by
  unfold limV limE
  cases isB n
  · right; simp
  · left; simp
set_option maxRecDepth 100000 in
theorem sums_guard (a b : Int) (A : Option Addr) (m c : Nat) (w : World) (hE : Env w) (h : (100 < m ∧ m ≤ 1000) ∨ 1100 < m) : Calls Tryd.prog 8 #[.int .i64 a, .int .i64 b, .slice A m c] w (Ret w (.bool true)) := by
  have HA := Lib.hid (fun w' (hx : Ex w w') => awake_c w' (hE.ex hx))
  clear hE
  rcases h with ⟨h1, h2⟩ | h1
  · have g1 : decide ((100 : Int) < (m : Int)) = true := by simp; omega
    have g2 : decide ((m : Int) ≤ 1000) = true := by simp; omega
    go_enter Tryd.func8, Tryd.ntmps8
    go_wp2_with fail
    refine (HA.out _ (Ex.refl _)).mono ?_; rintro e w' ⟨rfl, z0, rfl⟩
    go_wp2_with fail
    go_ret
    exact Ret.mk rfl ((Ex.refl _).ext _)
  · have g1 : decide ((100 : Int) < (m : Int)) = true := by simp; omega
    have g2 : decide ((m : Int) ≤ 1000) = false := by simp; omega
    have g3 : decide ((1100 : Int) < (m : Int)) = true := by simp; omega
    go_enter Tryd.func8, Tryd.ntmps8
    go_wp2_with fail
    refine (HA.out _ (Ex.refl _)).mono ?_; rintro e w' ⟨rfl, z0, rfl⟩
    go_wp2_with fail
    go_ret
    exact Ret.mk rfl ((Ex.refl _).ext _)
set_option maxRecDepth 100000 in
set_option maxHeartbeats 8000000 in
theorem sums_walk (a b : Int) (l : List Int) (A : Option Addr) (c : Nat) (w : World) (hE : Env w) (hC : Cells w A (intsV l)) (h : l.length ≤ 100 ∨ (1000 < l.length ∧ l.length ≤ 1100)) : Calls Tryd.prog 8 #[.int .i64 a, .int .i64 b, .slice A l.length c] w (Ret w (.bool true)) := by
  have HA := Lib.hid (fun w' (hx : Ex w w') => awake_c w' (hE.ex hx))
  have HI := Lib.hid rIs_c
  have HS := Lib.hid (fun w' (hx : Ex w w') => sum_c l A c w' (hC.ex hx))
  have HF : (∃ (_ : Hid (∀ w, Calls Tryd.prog 23 #[.int .i64 a, .int .i64 b] w (Ret w (Two 0 2)))) (_ : Hid (∀ w, Calls Tryd.prog 24 #[.int .i64 a, .int .i64 b] w (Ret w (Two 0 2)))), isB a = false ∨ (isB a = true ∧ isB b = false)) ∨
      ∃ (s e p f : Int) (o1 o2 : Bool) (_ : Hid (∀ w, Calls Tryd.prog 23 #[.int .i64 a, .int .i64 b] w (Ret w (Two s e)))) (_ : Hid (∀ w, Calls Tryd.prog 24 #[.int .i64 a, .int .i64 b] w (Ret w (Two p f)))) (_ : Hid (∀ w, Calls Tryd.prog 25 #[.int .i64 a, .int .i64 b] w (Ret w (Twb s o1)))) (_ : Hid (∀ w, Calls Tryd.prog 26 #[.int .i64 a, .int .i64 b] w (Ret w (Twb p o2)))), isB a = true ∧ isB b = true ∧ ((e = 0 ∧ o1 = true) ∨ (e = 9 ∧ o1 = false)) ∧ ((f = 0 ∧ o2 = true) ∨ (f = 9 ∧ o2 = false)) := by
    by_cases hh : isB a = true ∧ isB b = true
    · obtain ⟨h1, h2⟩ := hh
      have h3 := Lib.hid (fun w => add_c a b w)
      have h4 := Lib.hid (fun w => mul_c a b w)
      have e1 : addV a b = limV (a + b) := by unfold addV; rw [h1, h2]; rfl
      have e2 : addE a b = limE (a + b) := by unfold addE; rw [h1, h2]; rfl
      have e3 : mulV a b = limV (a * b) := by unfold mulV; rw [h1, h2]; rfl
      have e4 : mulE a b = limE (a * b) := by unfold mulE; rw [h1, h2]; rfl
      rw [e1, e2] at h3
      rw [e3, e4] at h4
      refine .inr ⟨_, _, _, _, _, _, h3, h4, Lib.hid fun w => rAdd_c a b w h1 h2, Lib.hid fun w => rMul_c a b w h1 h2, h1, h2, ?_, ?_⟩
      · rcases lim_cases (a + b) with ⟨-, x, y⟩ | ⟨-, x, y⟩
        · exact .inl ⟨x, y⟩
        · exact .inr ⟨x, y⟩
      · rcases lim_cases (a * b) with ⟨-, x, y⟩ | ⟨-, x, y⟩
        · exact .inl ⟨x, y⟩
        · exact .inr ⟨x, y⟩
    · have h' : (isB a && isB b) = false := by
        cases h1 : isB a <;> cases h2 : isB b <;> simp_all
      have h3 := Lib.hid (fun w => add_c a b w)
      have h4 := Lib.hid (fun w => mul_c a b w)
      have e1 : addV a b = 0 := by unfold addV; rw [h']; rfl
      have e2 : addE a b = 2 := by unfold addE; rw [h']; rfl
      have e3 : mulV a b = 0 := by unfold mulV; rw [h']; rfl
      have e4 : mulE a b = 2 := by unfold mulE; rw [h']; rfl
      rw [e1, e2] at h3
      rw [e3, e4] at h4
      refine .inl ⟨h3, h4, ?_⟩
      cases h1 : isB a
      · exact .inl rfl
      · exact .inr ⟨rfl, by rw [h1] at h'; simpa using h'⟩
  have HC : Hid (∀ w', Ex w w' → ∀ k, k < l.length → ∃ ad, A = some ad ∧ (ad.add k).block < w'.heap.size ∧ w'.cell? (ad.add k) = some (.int .i64 (l.getD k 0))) := fun w' hx k hk => by
    obtain ⟨ad, e, hb, hc⟩ := hC k (.int .i64 (l.getD k 0)) (by unfold intsV; rw [List.getElem?_map, List.getElem?_eq_getElem hk, List.getD_eq_getElem?_getD, List.getElem?_eq_getElem hk]; rfl)
    exact ⟨ad, e, Nat.lt_of_lt_of_le hb hx.below.size, (hx.below.cell hb).trans hc⟩
  have HZ : Hid (sumTo l 0 = 0) := rfl
  have HS1 := Lib.hid (fun k (hk : k < l.length) => sumTo_succ hk)
  -- what the sum is: too long, a bad number at some place, or a sum
  have HT1 : Hid (1000 < l.length → sumV l = 0 ∧ sumE l = 5) := fun h => ⟨by unfold sumV; rw [if_pos h], by unfold sumE; rw [if_pos h]⟩
  have HT2 : Hid (l.length ≤ 1000 → ∀ k, k < l.length → isB (l.getD k 0) = false → sumV l = 0 ∧ sumE l = 2) := fun h k hk hb => by
    have e : (l.any fun x => !isB x) = true := List.any_eq_true.2 ⟨l.getD k 0, by rw [List.getD_eq_getElem?_getD, List.getElem?_eq_getElem hk]; exact List.getElem_mem _, by rw [hb]; rfl⟩
    exact ⟨by unfold sumV; rw [if_neg (by omega), e]; rfl, by unfold sumE; rw [if_neg (by omega), e]; rfl⟩
  have HT3 : Hid (l.length ≤ 1000 → (∀ k, k < l.length → isB (l.getD k 0) = true) → sumV l = limV (sumTo l l.length) ∧ sumE l = limE (sumTo l l.length)) := fun h hb => by
    have e : (l.any fun x => !isB x) = false := List.any_eq_false.2 fun x hx => by
      obtain ⟨k, hk, rfl⟩ := List.mem_iff_getElem.1 hx
      have := hb k hk
      rw [List.getD_eq_getElem?_getD, List.getElem?_eq_getElem hk] at this
      have h2 : isB l[k] = true := this
      rw [h2]; decide
    rw [sumTo_all]
    exact ⟨by unfold sumV; rw [if_neg (by omega), e]; rfl, by unfold sumE; rw [if_neg (by omega), e]; rfl⟩
  have HB : Hid (∀ k, k ≤ l.length → (∀ j, j < k → isB (l.getD j 0) = true) → -(1125899906842624 * (k : Int)) ≤ sumTo l k ∧ sumTo l k ≤ 1125899906842624 * (k : Int)) := fun k hk hb => by
    have h1 := sumTo_bd (l := l.take k) (fun x hx => by
      obtain ⟨j, hj, rfl⟩ := List.mem_iff_getElem.1 hx
      rw [List.length_take] at hj
      have := hb j (by omega)
      rw [List.getD_eq_getElem?_getD, List.getElem?_eq_getElem (by omega)] at this
      rw [List.getElem_take]
      exact this) k (by rw [List.length_take]; omega)
    unfold sumTo at h1 ⊢
    rwa [List.take_take, Nat.min_self] at h1
  have HLim := Lib.hid (lim_cases (sumTo l l.length))
  clear hE hC
  generalize sumV l = T at *
  generalize sumE l = G at *
  have gd : decide ((100 : Int) < (l.length : Int)) = false ∨ (decide ((100 : Int) < (l.length : Int)) = true ∧ decide ((l.length : Int) ≤ 1000) = false ∧ decide ((1100 : Int) < (l.length : Int)) = false ∧ 1000 < l.length) := by
    rcases h with h | ⟨h, h'⟩
    · left; simp; omega
    · right; simp; omega
  have gd2 : decide ((1100 : Int) < (l.length : Int)) = false := by simp; omega
  generalize l.length = m at *
  unfold Two Twb at *
  rcases gd with g1 | ⟨g1, g2, g3, g4⟩
  · have hm : m ≤ 100 := by simp at g1; omega
    have g5 : decide ((1000 : Int) < (m : Int)) = false := by simp; omega
    rcases HF with ⟨F1, F2, hab | ⟨ha, hb⟩⟩ | ⟨s, e, p, f, o1, o2, F1, F2, F3, F4, ha, hb, ⟨rfl, rfl⟩ | ⟨rfl, rfl⟩, ⟨rfl, rfl⟩ | ⟨rfl, rfl⟩⟩
    all_goals
      go_enter Tryd.func8, Tryd.ntmps8
      go_wp2_with (first
        | (go_at_call 10; refine (HA.out _ (Ex.refl _)).mono ?_; rintro e w' ⟨rfl, z0, rfl⟩)
        | (go_at_call 23; refine (F1.out _).mono ?_; rintro e w' ⟨rfl, z1, rfl⟩)
        | (go_at_call 24; refine (F2.out _).mono ?_; rintro e w' ⟨rfl, z2, rfl⟩)
        | (go_at_call 14; refine (HI.out _ _).mono ?_; rintro e w' ⟨rfl, z4, rfl⟩)
        | (go_at_call 25; refine (F3.out _).mono ?_; rintro e w' ⟨rfl, z5, rfl⟩)
        | (go_at_call 26; refine (F4.out _).mono ?_; rintro e w' ⟨rfl, z6, rfl⟩)
        | (go_at_call 27; refine (HS.out _ (by repeat (first | exact Ex.refl _ | apply Ex.ext))).mono ?_; rintro e w' ⟨rfl, z7, rfl⟩))
    all_goals
      go_loopw [17, 19, 133] (fun s _ i wr => ∃ k : Nat, i = .int .i64 k ∧ k ≤ m ∧ s = .int .i64 (sumTo l k) ∧ Hid (∀ j, j < k → isB (l.getD j 0) = true) ∧ Ex w wr) (fun _ _ i _ => m - (intOf i).toNat)
      case atStart => exact ⟨0, rfl, by omega, by rw [HZ.out], (fun j hj => absurd hj (by omega)), by repeat (first | exact Ex.refl _ | apply Ex.ext)⟩
      case round =>
        obtain ⟨k, rfl, hk, rfl, hall, hx⟩ := hrel
        by_cases hlt : k < m
        · obtain ⟨ad, rfl, -, hc⟩ := HC.out _ hx k hlt
          have hki : (k : Int) < (m : Int) := by omega
          have HXx := Lib.hid hx
          have hx2 := HT2.out (by omega) k hlt
          have HI' := Lib.hid (HI.out (l.getD k 0))
          cases hbx : isB (l.getD k 0)
          · obtain ⟨e1, e2⟩ := hx2 hbx
            rw [hbx] at HI'
            subst e1 e2
            clear hbx hx hx2
            generalize l.getD k 0 = x at *
            go_wp2_with fail
            refine (HI'.out _).mono ?_
            rintro e' w' ⟨rfl, z8, rfl⟩
            go_wp2_with fail
            go_ret
            exact Ret.mk rfl (HXx.out.ext _)
          · have HAll : Hid (∀ j, j < k + 1 → isB (l.getD j 0) = true) := fun j hj => by
              by_cases h : j < k
              · exact hall j h
              · obtain rfl : j = k := by omega
                exact hbx
            have hb1 := HB.out k hk hall
            have hb2 := HB.out (k + 1) hlt HAll
            have hs := HS1.out k hlt
            rw [hs] at hb2
            have HS' := Lib.hid hs
            rw [hbx] at HI'
            clear hbx hx hx2 hs
            generalize sumTo l k = s' at *
            generalize l.getD k 0 = x at *
            have p1 : -9000000000000000000 ≤ s' + x := by omega
            have p2 : s' + x ≤ 9000000000000000000 := by omega
            clear hb1 hb2
            go_wp2_with fail
            refine (HI'.out _).mono ?_
            rintro e' w' ⟨rfl, z8, rfl⟩
            go_wp2_with fail
            refine ⟨⟨k + 1, by go_num, by omega, by rw [HS'.out], HAll, HXx.out.ext _⟩, by simp [intOf]; omega⟩
        · obtain rfl : k = m := by omega
          obtain ⟨e1, e2⟩ := HT3.out (by omega) hall
          have HI' := Lib.hid (HI.out (sumTo l k))
          have HXx := Lib.hid hx
          rcases HLim.out with ⟨q1, q2, q3⟩ | ⟨q1, q2, q3⟩
          all_goals
            rw [q1] at e1
            rw [q2] at e2
            rw [q3] at HI'
            subst e1 e2
            clear q1 q2 q3 hx
            generalize sumTo l k = s' at *
            go_wp2_with fail
            refine (HI'.out _).mono ?_
            rintro e' w' ⟨rfl, z8, rfl⟩
            go_wp2_with fail
            go_ret
            exact Ret.mk (by simp) (HXx.out.ext _)
  · have g5 : decide ((1000 : Int) < (m : Int)) = true := by simp; omega
    obtain ⟨e1, e2⟩ := HT1.out g4
    subst e1 e2
    rcases HF with ⟨F1, F2, hab | ⟨ha, hb⟩⟩ | ⟨s, e, p, f, o1, o2, F1, F2, F3, F4, ha, hb, ⟨rfl, rfl⟩ | ⟨rfl, rfl⟩, ⟨rfl, rfl⟩ | ⟨rfl, rfl⟩⟩
    all_goals
      go_enter Tryd.func8, Tryd.ntmps8
      go_wp2_with (first
        | (go_at_call 10; refine (HA.out _ (Ex.refl _)).mono ?_; rintro e w' ⟨rfl, z0, rfl⟩)
        | (go_at_call 23; refine (F1.out _).mono ?_; rintro e w' ⟨rfl, z1, rfl⟩)
        | (go_at_call 24; refine (F2.out _).mono ?_; rintro e w' ⟨rfl, z2, rfl⟩)
        | (go_at_call 14; refine (HI.out _ _).mono ?_; rintro e w' ⟨rfl, z4, rfl⟩)
        | (go_at_call 25; refine (F3.out _).mono ?_; rintro e w' ⟨rfl, z5, rfl⟩)
        | (go_at_call 26; refine (F4.out _).mono ?_; rintro e w' ⟨rfl, z6, rfl⟩)
        | (go_at_call 27; refine (HS.out _ (by repeat (first | exact Ex.refl _ | apply Ex.ext))).mono ?_; rintro e w' ⟨rfl, z7, rfl⟩))
    all_goals
      go_ret
      exact Ret.mk (by simp) (by repeat (first | exact Ex.refl _ | apply Ex.ext))
theorem sums_c (a b : Int) (A : Option Addr) (c : Nat) (l : List Int) (w : World) (hE : Env w) (hC : Cells w A (intsV l)) : Calls Tryd.prog 8 #[.int .i64 a, .int .i64 b, .slice A l.length c] w (Ret w (.bool true)) := by
  by_cases h : l.length ≤ 100 ∨ (1000 < l.length ∧ l.length ≤ 1100)
  · exact sums_walk a b l A c w hE hC h
  · exact sums_guard a b A _ c w hE (by omega)
end Go.Proofs.YtjbfoanboidkbaaDoor
