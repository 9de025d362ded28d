/-
  All choices of one state of each process, in the order in which they are counted through. Plain lemmas.
  Conditions: as each theorem says.
-/
import Derived.Test.YtdenojfbdkdpiaaYm
namespace Go.Proofs.Ytdenojfbdkdpiaa
/-- all choices: the first process turns fastest -/
def prodL : List (List Int) → List (List Int)
  | [] => [[]]
  | r :: l => (prodL l).flatMap fun c => r.map fun a => a :: c
def digs : List (List Int) → Nat → List Nat
  | [], _ => []
  | r :: l, k => (k % r.length) :: digs l (k / r.length)
def totL (l : List (List Int)) : Nat := (l.map List.length).foldr (· * ·) 1
theorem totL_cons (r : List Int) (l : List (List Int)) : totL (r :: l) = r.length * totL l := rfl
theorem prod_len : ∀ l : List (List Int), (prodL l).length = totL l
  | [] => rfl
  | r :: l => by
    have h := prod_len l
    unfold prodL
    rw [totL_cons, ← h]
    generalize prodL l = L
    induction L with
    | nil => simp
    | cons x L ih =>
      rw [List.flatMap_cons, List.length_append, ih, List.length_map, List.length_cons, Nat.mul_succ]
      omega
theorem digs_len : ∀ (l : List (List Int)) (k : Nat), (digs l k).length = l.length
  | [], _ => rfl
  | _ :: l, _ => by unfold digs; rw [List.length_cons, digs_len l, List.length_cons]
/-- the choice of the digits -/
def pick : List (List Int) → List Nat → List Int
  | r :: l, d :: ds => r.getD d 0 :: pick l ds
  | _, _ => []
theorem flat_get (r : List Int) : ∀ (L : List (List Int)) (j i : Nat) (c : List Int) (a : Int), L[j]? = some c → r[i]? = some a → (L.flatMap fun c => r.map fun a => a :: c)[j * r.length + i]? = some (a :: c)
  | [], j, i, c, a, h, _ => by simp at h
  | x :: L, 0, i, c, a, h, ha => by
    simp only [List.getElem?_cons_zero, Option.some.injEq] at h
    subst h
    have hi := (List.getElem?_eq_some_iff.1 ha).1
    rw [Nat.zero_mul, Nat.zero_add, List.flatMap_cons, List.getElem?_append_left (by rw [List.length_map]; exact hi), List.getElem?_map, ha]
    rfl
  | x :: L, j + 1, i, c, a, h, ha => by
    rw [List.flatMap_cons, Nat.succ_mul, show j * r.length + r.length + i = (r.map fun a => a :: x).length + (j * r.length + i) by rw [List.length_map]; omega, List.getElem?_append_right (Nat.le_add_right _ _), Nat.add_sub_cancel_left]
    exact flat_get r L j i c a (by simpa using h) ha
theorem prod_get : ∀ (l : List (List Int)) (k : Nat), k < totL l → (prodL l)[k]? = some (pick l (digs l k))
  | [], k, h => by
    obtain rfl : k = 0 := by unfold totL at h; simp at h; exact h
    rfl
  | r :: l, k, h => by
    rw [totL_cons] at h
    have hr : 0 < r.length := Nat.pos_of_ne_zero fun h0 => by rw [h0] at h; simp at h
    have hk : k / r.length < totL l := Nat.div_lt_of_lt_mul h
    have hm : k % r.length < r.length := Nat.mod_lt _ hr
    obtain ⟨a, ha⟩ := get_at hm
    unfold prodL
    conv => lhs; rw [show k = k / r.length * r.length + k % r.length by rw [Nat.mul_comm]; exact (Nat.div_add_mod k _).symm]
    rw [flat_get r _ _ _ _ a (prod_get l _ hk) ha]
    show some (a :: pick l (digs l (k / r.length))) = some (r.getD (k % r.length) 0 :: pick l (digs l (k / r.length)))
    rw [List.getD_eq_getElem?_getD, ha]
    rfl
theorem mem_prod : ∀ (l : List (List Int)) (c : List Int), c ∈ prodL l ↔ c.length = l.length ∧ ∀ (p : Nat) (r : List Int) (a : Int), l[p]? = some r → c[p]? = some a → a ∈ r
  | [], c => by
    unfold prodL
    rw [List.mem_singleton]
    constructor
    · rintro rfl; exact ⟨rfl, fun p r a h => by simp at h⟩
    · rintro ⟨h, -⟩; exact List.eq_nil_of_length_eq_zero h
  | r :: l, c => by
    have ih := mem_prod l
    unfold prodL
    rw [List.mem_flatMap]
    constructor
    · rintro ⟨d, hd, hc⟩
      obtain ⟨a, ha, rfl⟩ := List.mem_map.1 hc
      obtain ⟨h1, h2⟩ := (ih d).1 hd
      refine ⟨by rw [List.length_cons, h1, List.length_cons], fun p q b hq hb => ?_⟩
      cases p with
      | zero => simp at hq hb; rw [← hq, ← hb]; exact ha
      | succ p => exact h2 p q b (by simpa using hq) (by simpa using hb)
    · rintro ⟨h1, h2⟩
      cases c with
      | nil => simp at h1
      | cons a d =>
        refine ⟨d, (ih d).2 ⟨by simpa using h1, fun p q b hq hb => h2 (p + 1) q b (by simpa using hq) (by simpa using hb)⟩, List.mem_map.2 ⟨a, h2 0 r a rfl rfl, rfl⟩⟩
/-- the digits are within the rows -/
theorem digs_lt : ∀ (l : List (List Int)) (k : Nat), (∀ r, r ∈ l → r ≠ []) → ∀ (p : Nat) (r : List Int) (d : Nat), l[p]? = some r → (digs l k)[p]? = some d → d < r.length
  | [], _, _, p, r, d, h, _ => by simp at h
  | x :: l, k, hne, p, r, d, h, hd => by
    have hx : 0 < x.length := List.length_pos_iff.2 (hne x List.mem_cons_self)
    unfold digs at hd
    cases p with
    | zero => simp at h hd; rw [← h, ← hd]; exact Nat.mod_lt _ hx
    | succ p => exact digs_lt l (k / x.length) (fun r hr => hne r (List.mem_cons_of_mem _ hr)) p r d (by simpa using h) (by simpa using hd)
theorem pick_get : ∀ (l : List (List Int)) (ds : List Nat) (p : Nat) (r : List Int) (d : Nat), l[p]? = some r → ds[p]? = some d → (pick l ds)[p]? = some (r.getD d 0)
  | [], _, p, r, d, h, _ => by simp at h
  | x :: l, [], p, r, d, _, h => by simp at h
  | x :: l, y :: ds, 0, r, d, h, h' => by simp at h h'; subst h h'; rfl
  | x :: l, y :: ds, p + 1, r, d, h, h' => by
    unfold pick
    rw [List.getElem?_cons_succ]
    exact pick_get l ds p r d (by simpa using h) (by simpa using h')
theorem pick_len : ∀ (l : List (List Int)) (ds : List Nat), ds.length = l.length → (pick l ds).length = l.length
  | [], [], _ => rfl
  | [], _ :: _, h => by simp at h
  | _ :: _, [], h => by simp at h
  | x :: l, y :: ds, h => by unfold pick; rw [List.length_cons, pick_len l ds (by simpa using h), List.length_cons]
/-- with j digits carried: those below j are 0, the others are as they were -/
def carr (j : Nat) (ds : List Nat) : List Nat := List.replicate (min j ds.length) 0 ++ ds.drop j
theorem carr_zero (ds : List Nat) : carr 0 ds = ds := by simp [carr]
theorem carr_len (j : Nat) (ds : List Nat) : (carr j ds).length = ds.length := by
  unfold carr
  rw [List.length_append, List.length_replicate, List.length_drop]
  omega
theorem carr_get {j p : Nat} {ds : List Nat} (h : j ≤ p) (hj : j ≤ ds.length) : (carr j ds)[p]? = ds[p]? := by
  unfold carr
  rw [Nat.min_eq_left hj, List.getElem?_append_right (by rw [List.length_replicate]; exact h), List.length_replicate, List.getElem?_drop]
  congr 1
  omega
theorem carr_set {j : Nat} {ds : List Nat} (hj : j < ds.length) : (carr j ds).set j 0 = carr (j + 1) ds := by
  apply List.ext_getElem?
  intro p
  rw [List.getElem?_set]
  by_cases hp : j = p
  · subst hp
    rw [if_pos rfl, if_pos (by rw [carr_len]; exact hj)]
    unfold carr
    rw [Nat.min_eq_left (show j + 1 ≤ ds.length by omega), List.getElem?_append_left (by rw [List.length_replicate]; omega), List.getElem?_replicate, if_pos (by omega)]
  · rw [if_neg hp]
    unfold carr
    rw [Nat.min_eq_left (show j + 1 ≤ ds.length by omega), Nat.min_eq_left (show j ≤ ds.length by omega)]
    by_cases hlt : p < j
    · rw [List.getElem?_append_left (by rw [List.length_replicate]; omega), List.getElem?_append_left (by rw [List.length_replicate]; omega), List.getElem?_replicate, List.getElem?_replicate, if_pos hlt, if_pos (by omega)]
    · rw [List.getElem?_append_right (by rw [List.length_replicate]; omega), List.getElem?_append_right (by rw [List.length_replicate]; omega), List.length_replicate, List.length_replicate, List.getElem?_drop, List.getElem?_drop]
      congr 1
      omega
/-- the digits below j are the last ones of their rows -/
def Full (l : List (List Int)) (ds : List Nat) (j : Nat) : Prop := ∀ (p : Nat) (r : List Int) (d : Nat), p < j → l[p]? = some r → ds[p]? = some d → d + 1 = r.length
theorem full_cons {x : List Int} {l : List (List Int)} {y : Nat} {ds : List Nat} {j : Nat} (h : Full (x :: l) (y :: ds) (j + 1)) : y + 1 = x.length ∧ Full l ds j :=
  ⟨h 0 x y (by omega) rfl rfl, fun p r d hp hr hd => h (p + 1) r d (by omega) (by simpa using hr) (by simpa using hd)⟩
/-- one choice on -/
theorem digs_next : ∀ (l : List (List Int)) (k j : Nat) (r : List Int) (d : Nat), (∀ r, r ∈ l → r ≠ []) → Full l (digs l k) j → l[j]? = some r → (digs l k)[j]? = some d → d + 1 < r.length → digs l (k + 1) = (carr j (digs l k)).set j (d + 1)
  | [], k, j, r, d, _, _, h, _, _ => by simp at h
  | x :: l, k, 0, r, d, hne, _, h, hd, hlt => by
    simp only [List.getElem?_cons_zero, Option.some.injEq] at h
    subst h
    unfold digs at hd ⊢
    simp only [List.getElem?_cons_zero, Option.some.injEq] at hd
    subst hd
    rw [carr_zero, List.set_cons_zero]
    have hx : 0 < x.length := by omega
    have h1 : (k + 1) % x.length = k % x.length + 1 := by
      rw [Nat.add_mod, Nat.mod_eq_of_lt (show 1 < x.length by omega), Nat.mod_eq_of_lt hlt]
    have h2 : (k + 1) / x.length = k / x.length := by
      have e1 := Nat.div_add_mod k x.length
      have e2 := Nat.div_add_mod (k + 1) x.length
      rw [h1] at e2
      have : x.length * ((k + 1) / x.length) = x.length * (k / x.length) := by omega
      exact Nat.eq_of_mul_eq_mul_left hx this
    rw [h1, h2]
  | x :: l, k, j + 1, r, d, hne, hf, h, hd, hlt => by
    have hx : 0 < x.length := List.length_pos_iff.2 (hne x List.mem_cons_self)
    unfold digs at hf hd ⊢
    obtain ⟨h0, h1⟩ := full_cons hf
    have e1 := Nat.div_add_mod k x.length
    have hk : k + 1 = x.length * (k / x.length + 1) := by rw [Nat.mul_succ]; omega
    have hm : (k + 1) % x.length = 0 := by rw [hk]; exact Nat.mul_mod_right _ _
    have hdv : (k + 1) / x.length = k / x.length + 1 := by rw [hk]; exact Nat.mul_div_cancel_left _ hx
    rw [hm, hdv, digs_next l (k / x.length) j r d (fun r hr => hne r (List.mem_cons_of_mem _ hr)) h1 (by simpa using h) (by simpa using hd) hlt]
    unfold carr
    rw [List.length_cons, show min (j + 1) ((digs l (k / x.length)).length + 1) = min j (digs l (k / x.length)).length + 1 by omega, List.replicate_succ, List.cons_append, List.set_cons_succ, List.drop_succ_cons]
/-- all digits are the last ones: it was the last choice -/
theorem digs_end : ∀ (l : List (List Int)) (k : Nat), (∀ r, r ∈ l → r ≠ []) → k < totL l → Full l (digs l k) l.length → k + 1 = totL l
  | [], k, _, h, _ => by unfold totL at h ⊢; simp at h ⊢; exact h
  | x :: l, k, hne, h, hf => by
    have hx : 0 < x.length := List.length_pos_iff.2 (hne x List.mem_cons_self)
    rw [totL_cons] at h ⊢
    unfold digs at hf
    rw [List.length_cons] at hf
    obtain ⟨h0, h1⟩ := full_cons hf
    have := digs_end l (k / x.length) (fun r hr => hne r (List.mem_cons_of_mem _ hr)) (Nat.div_lt_of_lt_mul h) h1
    have e1 := Nat.div_add_mod k x.length
    rw [← this, Nat.mul_succ]
    omega
theorem digs_zero : ∀ l : List (List Int), digs l 0 = List.replicate l.length 0
  | [] => rfl
  | x :: l => by unfold digs; rw [Nat.zero_mod, Nat.zero_div, digs_zero l]; rfl
theorem totL_pos : ∀ l : List (List Int), (∀ r, r ∈ l → r ≠ []) → 0 < totL l
  | [], _ => Nat.one_pos
  | x :: l, h => by rw [totL_cons]; exact Nat.mul_pos (List.length_pos_iff.2 (h x List.mem_cons_self)) (totL_pos l fun r hr => h r (List.mem_cons_of_mem _ hr))
/-- the size as the law reckons it -/
def sizeL (l : List (List Int)) : Nat := l.foldl (fun n x => min 2000 (n * x.length)) 1
theorem size_from : ∀ (l : List (List Int)) (n : Nat), (∀ r, r ∈ l → r ≠ []) → l.foldl (fun n x => min 2000 (n * x.length)) n < 2000 → n * totL l < 2000
  | [], n, _, h => by simpa [totL] using h
  | x :: l, n, hne, h => by
    have := size_from l (min 2000 (n * x.length)) (fun r hr => hne r (List.mem_cons_of_mem _ hr)) h
    rw [totL_cons, ← Nat.mul_assoc]
    have hp := totL_pos l fun r hr => hne r (List.mem_cons_of_mem _ hr)
    by_cases hc : n * x.length ≤ 2000
    · rwa [Nat.min_eq_right hc] at this
    · rw [Nat.min_eq_left (by omega)] at this
      have := Nat.mul_le_mul_left 2000 hp
      omega
theorem size_tot {l : List (List Int)} (hne : ∀ r, r ∈ l → r ≠ []) (h : sizeL l < 2000) : totL l < 2000 := by
  have := size_from l 1 hne h
  rwa [Nat.one_mul] at this
end Go.Proofs.Ytdenojfbdkdpiaa
