/-
  Words that come in: rightness, ContainsFunc, Join.
  Conditions: few and short words; the world's tables are as laid (Env).
-/
import Derived.Test.YtlkebnobcfffeaaDoorPu
namespace Go.Proofs.YtlkebnobcfffeaaDoor
open Go.RowKit
structure Gw where
  kind : Int
  text : ByteArray
  a : Int
  b : Int
def gwVs (x : Gw) : List Value := [.int .i64 x.kind, .string x.text, .int .i64 x.a, .int .i64 x.b]
def gwV (x : Gw) : Value := .agg #[.int .i64 x.kind, .string x.text, .int .i64 x.a, .int .i64 x.b]
def gwsV (l : List Gw) : List Value := l.flatMap gwVs
/-- block b reads xs from o on -/
def Row (w : World) (b o : Nat) (xs : List Value) : Prop := b < w.heap.size ∧ ∀ (j : Nat) u, xs[j]? = some u → w.cell? ⟨b, o + j, none⟩ = some u
theorem Row.ex {w w' : World} {b o : Nat} {xs : List Value} (h : Row w b o xs) (hx : Ex w w') : Row w' b o xs :=
  ⟨Nat.lt_of_lt_of_le h.1 hx.below.size, fun j u hj => (hx.below.cell (p := ⟨b, o + j, none⟩) h.1).trans (h.2 j u hj)⟩
theorem At.row {w : World} {g : Nat} {xs : List Value} (h : At w g xs) : Row w g 0 xs := ⟨h.1, fun j u hj => by rw [Nat.zero_add]; exact h.2 j u hj⟩
theorem gws_get : ∀ (l : List Gw) (k : Nat) (x : Gw), l[k]? = some x → ∀ j, j < 4 → (gwsV l)[k * 4 + j]? = (gwVs x)[j]?
  | [], k, x, h, j, _ => by simp at h
  | y :: l, 0, x, h, j, hj => by
    simp at h; subst h
    show (gwVs y ++ gwsV l)[0 * 4 + j]? = _
    rw [List.getElem?_append_left (by show 0 * 4 + j < 4; omega)]
    simp
  | y :: l, k + 1, x, h, j, hj => by
    show (gwVs y ++ gwsV l)[(k + 1) * 4 + j]? = _
    rw [List.getElem?_append_right (by show 4 ≤ _; omega)]
    have := gws_get l k x (by simpa using h) j hj
    rw [← this]
    congr 1
    show (k + 1) * 4 + j - 4 = _
    omega
theorem Row.word {w : World} {b o : Nat} {l : List Gw} (h : Row w b o (gwsV l)) {k : Nat} {x : Gw} (hx : l[k]? = some x) :
    w.cell? ⟨b, o + k * 4, none⟩ = some (.int .i64 x.kind) ∧ w.cell? ⟨b, o + k * 4 + 1, none⟩ = some (.string x.text) ∧ w.cell? ⟨b, o + k * 4 + 2, none⟩ = some (.int .i64 x.a) ∧ w.cell? ⟨b, o + k * 4 + 3, none⟩ = some (.int .i64 x.b) :=
  ⟨h.2 (k * 4 + 0) _ (gws_get l k x hx 0 (by omega)), h.2 (k * 4 + 1) _ (gws_get l k x hx 1 (by omega)), h.2 (k * 4 + 2) _ (gws_get l k x hx 2 (by omega)), h.2 (k * 4 + 3) _ (gws_get l k x hx 3 (by omega))⟩
def bigB (x : Gw) : Bool := decide (20 < x.text.size)
theorem big_c (x : Gw) (w : World) : Calls Tryd.prog 23 #[gwV x] w (Ret w (.bool (bigB x))) := by
  have e : decide ((20 : Int) < (x.text.size : Int)) = bigB x := by
    unfold bigB
    rw [Bool.eq_iff_iff]; simp; omega
  unfold gwV
  obtain ⟨k, T, a, b⟩ := x
  dsimp only at e ⊢
  generalize bigB _ = q at *
  go_enter Tryd.func23, Tryd.ntmps23
  go_wp2_with fail
  go_ret
  exact Ret.mk rfl ((Ex.refl _).alloc _)
set_option maxHeartbeats 800000 in
theorem index_c (b o c : Nat) (l : List Gw) (w : World) (hR : Row w b o (gwsV l)) (hl : l.length ≤ 1000000) :
    Calls Tryd.prog 39 #[.slice (some ⟨b, o, none⟩) l.length c, .func (.func 23) #[] #[]] w (fun e w' => ∃ v : Int, e = .returned (.int .i64 v) ∧ (decide (0 ≤ v) = l.any bigB) ∧ Ex w w') := by
  have H1 := Lib.hid (fun w' (hx : Ex w w') => hR.ex hx)
  have HG : Hid (∀ k, k < l.length → ∃ x, l[k]? = some x) := fun k hk => ⟨_, List.getElem?_eq_getElem hk⟩
  have HA : Hid (∀ k x, l[k]? = some x → bigB x = true → l.any bigB = true) := fun k x h hb => List.any_eq_true.2 ⟨x, List.mem_of_getElem? h, hb⟩
  have HN : Hid ((∀ k x, l[k]? = some x → bigB x = false) → l.any bigB = false) := fun h => by
    rw [List.any_eq_false]
    intro x hx
    obtain ⟨k, hk⟩ := List.mem_iff_getElem?.1 hx
    rw [h k x hk]; simp
  have HB := Lib.hid big_c
  unfold gwV at HB
  have HIx : Hid (∀ k x, l[k]? = some x → k < l.length) := fun k x h => (List.getElem?_eq_some_iff.1 h).1
  clear hR
  go_enter Tryd.func39, Tryd.ntmps39
  go_wp2_with fail
  go_loopw [8] (fun i wr => ∃ k : Nat, i = .int .i64 k ∧ k ≤ l.length ∧ Hid (∀ j x, j < k → l[j]? = some x → bigB x = false) ∧ Hid (Ex w wr)) (fun i _ => l.length - (intOf i).toNat)
  case atStart => exact ⟨0, rfl, by omega, Lib.hid (fun j x h => by omega), Lib.hid (Ex.refl _)⟩
  case round =>
    obtain ⟨k, rfl, hk, HP, HX⟩ := hrel
    by_cases hlt : k < l.length
    · have n1 : (k : Int) < (l.length : Int) := by omega
      have n0 : (0 : Int) ≤ (k : Int) := by omega
      obtain ⟨x, hxk⟩ := HG.out k hlt
      obtain ⟨a0, a1, a2, a3⟩ := (H1.out _ HX.out).word hxk
      have la := (H1.out _ HX.out).1
      have HBx := Lib.hid (HB.out x)
      have Hxk := Lib.hid hxk
      clear hxk
      obtain ⟨kd, T, pa, pb⟩ := x
      dsimp only at a0 a1 a2 a3 HBx
      obtain ⟨q, hq⟩ : ∃ q, bigB ⟨kd, T, pa, pb⟩ = q := ⟨_, rfl⟩
      rw [hq] at HBx
      have Hq := Lib.hid hq
      clear hq
      cases q
      · go_wp2_with fail
        refine (HBx.out _).mono ?_
        rintro e w' ⟨rfl, z, rfl⟩
        go_wp2_with fail
        refine ⟨⟨k + 1, by go_num, by omega, Lib.hid (fun j x h hj => ?_), Lib.hid (HX.out.ext _)⟩, by simp [intOf]; omega⟩
        by_cases hjk : j = k
        · subst hjk
          rw [Hxk.out] at hj
          injection hj with hj
          rw [← hj]; exact Hq.out
        · exact HP.out j x (by omega) hj
      · go_wp2_with fail
        refine (HBx.out _).mono ?_
        rintro e w' ⟨rfl, z, rfl⟩
        go_wp2_with fail
        go_ret
        exact ⟨k, rfl, by rw [HA.out k _ Hxk.out Hq.out]; simp, HX.out.ext _⟩
    · have n1 : decide ((k : Int) < (l.length : Int)) = false := decide_eq_false (by omega)
      have n2 : decide (k < l.length) = false := decide_eq_false (by omega)
      have HQ : Hid (l.any bigB = false) := HN.out (fun j x hj => HP.out j x (by have := HIx.out j x hj; omega) hj)
      clear hlt
      go_wp2_with fail
      go_ret
      exact ⟨-1, rfl, by rw [HQ.out]; simp, HX.out⟩
theorem contains_c (b o c : Nat) (l : List Gw) (w : World) (hR : Row w b o (gwsV l)) (hl : l.length ≤ 1000000) :
    Calls Tryd.prog 22 #[.slice (some ⟨b, o, none⟩) l.length c, .func (.func 23) #[] #[]] w (Ret w (.bool (l.any bigB))) := by
  have H := Lib.hid (index_c b o c l w hR hl)
  obtain ⟨q, hq⟩ : ∃ q, l.any bigB = q := ⟨_, rfl⟩
  rw [hq] at H ⊢
  clear hq hR
  cases q
  all_goals
    go_enter Tryd.func22, Tryd.ntmps22
    go_wp2_with fail
    refine H.out.mono ?_
    rintro e w' ⟨v, rfl, hv, z, rfl⟩
    go_wp2_with fail
    go_ret
    exact Ret.mk (by first | rfl | (rw [hv])) ((Ex.refl _).ext _)
theorem contains_nil (A : Option Addr) (c : Nat) (w : World) :
    Calls Tryd.prog 22 #[.slice A 0 c, .func (.func 23) #[] #[]] w (Ret w (.bool false)) := by
  have H : Hid (∀ w, Calls Tryd.prog 39 #[.slice A 0 c, .func (.func 23) #[] #[]] w (Ret w (.int .i64 (-1)))) := fun w => by
    go_enter Tryd.func39, Tryd.ntmps39
    go_wp2_with fail
    go_loopw [8] (fun i wr => i = .int .i64 0 ∧ Ex w wr) (fun i _ => 0)
    case atStart => exact ⟨rfl, Ex.refl _⟩
    case round =>
      obtain ⟨rfl, hx⟩ := hrel
      go_wp2_with fail
      go_ret
      exact Ret.mk rfl hx
  go_enter Tryd.func22, Tryd.ntmps22
  go_wp2_with fail
  refine (H.out _).mono ?_
  rintro e w' ⟨rfl, z, rfl⟩
  go_wp2_with fail
  go_ret
  exact Ret.mk rfl ((Ex.refl _).ext _)
/-- a word is right -/
def rightB (x : Gw) : Bool := decide (0 ≤ x.kind) && decide (firstL x.text.data.toList = (x.kind.toNat, x.text.size, 0)) && decide (x.kind ≠ 4)
theorem rightB_iff (x : Gw) : rightB x = true ↔ ∃ k : Nat, x.kind = k ∧ Right k x.text.data.toList := by
  unfold rightB Right
  simp only [Bool.and_eq_true, decide_eq_true_eq, ← size_data]
  constructor
  · rintro ⟨⟨h1, h2⟩, h3⟩
    exact ⟨x.kind.toNat, by omega, h2, by omega⟩
  · rintro ⟨k, h1, h2, h3⟩
    rw [h1]
    exact ⟨⟨by omega, by simpa using h2⟩, by omega⟩
theorem first_kind (l : List UInt8) : (firstL l).1 = 1 ∨ (firstL l).1 = 2 ∨ (firstL l).1 = 3 ∨ (firstL l).1 = 4 := by
  cases l with
  | nil => exact .inr (.inr (.inr rfl))
  | cons c r =>
    by_cases hd : digB c = true
    · rw [first_dig (c := c) rfl hd]; exact .inl rfl
    · by_cases hl : letB c = true
      · rw [first_let (c := c) rfl (by simpa using hd) hl]; exact .inr (.inl rfl)
      · rw [first_sgn (c := c) rfl (by simpa using hd) (by simpa using hl)]
        split <;> exact .inr (.inr (.inl rfl))
theorem right_other (x : Gw) (h1 : x.kind ≠ 1) (h2 : x.kind ≠ 2) (h3 : x.kind ≠ 3) : rightB x = false := by
  cases h : rightB x with
  | false => rfl
  | true =>
    obtain ⟨k, hk, hr⟩ := (rightB_iff x).1 h
    have := first_kind x.text.data.toList
    rw [hr.1] at this
    have h4 := hr.2
    omega
theorem right_num (x : Gw) (h1 : x.kind = 1) : rightB x = (decide (0 < x.text.size) && decide (spanL digB x.text.data.toList = x.text.size) && decide (numE x.text.data.toList = 0)) := by
  unfold rightB
  rw [h1]
  by_cases h0 : 0 < x.text.size
  · obtain ⟨r, hr⟩ := data_cons h0
    have hh : x.text.data.toList.head? = some x.text[0] := by rw [hr]; rfl
    by_cases hd : digB x.text[0] = true
    · rw [first_dig hh hd]
      rw [Bool.eq_iff_iff]
      simp only [Bool.and_eq_true, decide_eq_true_eq, Prod.mk.injEq]
      constructor
      · rintro ⟨⟨-, -, h2, h3⟩, -⟩
        have e : x.text.data.toList.take (spanL digB x.text.data.toList) = x.text.data.toList := by rw [h2, size_data, List.take_length]
        rw [e] at h3
        exact ⟨⟨h0, h2⟩, h3⟩
      · rintro ⟨⟨-, h2⟩, h3⟩
        have e : x.text.data.toList.take (spanL digB x.text.data.toList) = x.text.data.toList := by rw [h2, size_data, List.take_length]
        rw [e]
        exact ⟨⟨by omega, rfl, h2, h3⟩, by omega⟩
    · have hs := span_zero digB x.text h0 (by simpa using hd)
      have hne : ¬ firstL x.text.data.toList = ((1 : Int).toNat, x.text.size, 0) := by
        intro h
        by_cases hl : letB x.text[0] = true
        · rw [first_let hh (by simpa using hd) hl] at h; simp at h
        · rw [first_sgn hh (by simpa using hd) (by simpa using hl)] at h
          split at h <;> simp at h
      rw [hs, decide_eq_false hne, decide_eq_false (show ¬ 0 = x.text.size by omega)]
      simp
  · have hn : x.text.data.toList = [] := List.length_eq_zero_iff.1 (by rw [← size_data]; omega)
    rw [hn, decide_eq_false h0]
    simp [firstL]
theorem right_name (x : Gw) (h1 : x.kind = 2) : rightB x = nmB x.text.data.toList := by
  unfold rightB
  rw [h1]
  by_cases h0 : 0 < x.text.size
  · obtain ⟨r, hr⟩ := data_cons h0
    have hh : x.text.data.toList.head? = some x.text[0] := by rw [hr]; rfl
    by_cases hl : letB x.text[0] = true
    · have hd : digB x.text[0] = false := by
        cases hd : digB x.text[0] with
        | false => rfl
        | true => rw [dig_let hd] at hl; cases hl
      rw [first_let hh hd hl]
      by_cases h16 : x.text.size ≤ 16
      · rw [name_span x.text h0 h16 hl]
        rw [Bool.eq_iff_iff]
        simp only [Bool.and_eq_true, decide_eq_true_eq, Prod.mk.injEq]
        constructor
        · rintro ⟨⟨-, -, h2, -⟩, -⟩; exact h2
        · intro h2
          exact ⟨⟨by omega, rfl, h2, by rw [h2, if_pos h16]⟩, by omega⟩
      · rw [name_long x.text (by omega)]
        rw [Bool.eq_false_iff]
        simp only [ne_eq, Bool.and_eq_true, decide_eq_true_eq, Prod.mk.injEq]
        rintro ⟨⟨-, -, h2, h3⟩, -⟩
        rw [h2, if_neg h16] at h3
        cases h3
    · rw [name_first x.text h0 (by simpa using hl)]
      have hne : ¬ firstL x.text.data.toList = ((2 : Int).toNat, x.text.size, 0) := by
        intro h
        by_cases hd : digB x.text[0] = true
        · rw [first_dig hh hd] at h; simp at h
        · rw [first_sgn hh (by simpa using hd) (by simpa using hl)] at h
          split at h <;> simp at h
      rw [decide_eq_false hne]
      simp
  · have hn : x.text.data.toList = [] := List.length_eq_zero_iff.1 (by rw [← size_data]; omega)
    rw [name_nil x.text (by omega), hn]
    simp [firstL]
theorem sign_nil : signF ⟨#[]⟩ = none := by decide
theorem sign_head : ∀ t ∈ signs, ∀ c, t.data.toList.head? = some c → digB c = false ∧ letB c = false := by decide
theorem right_sign (x : Gw) (h1 : x.kind = 3) : rightB x = decide (signF x.text = some x.text) := by
  unfold rightB
  rw [h1]
  by_cases h0 : 0 < x.text.size
  · obtain ⟨r, hr⟩ := data_cons h0
    have hh : x.text.data.toList.head? = some x.text[0] := by rw [hr]; rfl
    have hD2 : (⟨x.text.data.toList.toArray⟩ : ByteArray) = x.text := (of_data rfl).symm
    by_cases hdl : digB x.text[0] = false ∧ letB x.text[0] = false
    · rw [first_sgn hh hdl.1 hdl.2, hD2]
      rw [Bool.eq_iff_iff]
      simp only [Bool.and_eq_true, decide_eq_true_eq]
      cases hs : signF x.text with
      | none => simp
      | some t =>
        have ht := sign_take hs
        constructor
        · rintro ⟨⟨-, h2⟩, -⟩
          simp only [Prod.mk.injEq] at h2
          rw [h2.2.1] at ht
          rw [ht]
          congr 1
          rw [size_data, List.take_length]
        · intro h
          injection h with h
          exact ⟨⟨by omega, by rw [h]; rfl⟩, by omega⟩
    · have hne : ¬ firstL x.text.data.toList = ((3 : Int).toNat, x.text.size, 0) := by
        intro h
        by_cases hd : digB x.text[0] = true
        · rw [first_dig hh hd] at h; simp at h
        · have hd : digB x.text[0] = false := by simpa using hd
          have hl : letB x.text[0] = true := by
            cases hl : letB x.text[0] with
            | true => rfl
            | false => exact absurd ⟨hd, hl⟩ hdl
          rw [first_let hh hd hl] at h; simp at h
      have hns : ¬ signF x.text = some x.text := fun h => hdl (sign_head _ (List.mem_of_find?_eq_some h) _ hh)
      rw [decide_eq_false hne, decide_eq_false hns]
      simp
  · have hn : x.text.data.toList = [] := List.length_eq_zero_iff.1 (by rw [← size_data]; omega)
    have he : x.text = ⟨#[]⟩ := of_data hn
    rw [he, sign_nil]
    simp [firstL]
end Go.Proofs.YtlkebnobcfffeaaDoor
