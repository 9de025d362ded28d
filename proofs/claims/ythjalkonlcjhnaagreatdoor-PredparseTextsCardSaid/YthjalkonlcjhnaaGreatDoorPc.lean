/-
  Signs and key words.
  Conditions: texts of at most 20000 bytes.
-/
import Derived.Test.YthjalkonlcjhnaaGreatDoorPb
import Derived.Test.YthjalkonlcjhnaaGreatDoorShelf
namespace Go.Proofs.YthjalkonlcjhnaaGreatDoor
open Go.RowKit
def signs : List ByteArray := [⟨#[33, 61]⟩, ⟨#[60, 61]⟩, ⟨#[62, 61]⟩, ⟨#[43]⟩, ⟨#[45]⟩, ⟨#[42]⟩, ⟨#[61]⟩, ⟨#[60]⟩, ⟨#[62]⟩, ⟨#[40]⟩, ⟨#[41]⟩, ⟨#[44]⟩, ⟨#[46]⟩]
def pre (s t : ByteArray) : Bool := Lib.hasPrefix s.data.toList t.data.toList
def signF (s : ByteArray) : Option ByteArray := signs.find? (pre s)
theorem find_at {α : Type} {p : α → Bool} : ∀ {L : List α} {k : Nat} {y : α}, (∀ j x, j < k → L[j]? = some x → p x = false) → L[k]? = some y → p y = true → L.find? p = some y
  | x :: L, 0, y, _, h, hp => by
    have e : x = y := by simpa using h
    subst e
    rw [List.find?_cons, hp]
  | x :: L, k + 1, y, h1, h, hp => by
    have hx := h1 0 x (by omega) rfl
    rw [List.find?_cons, hx]
    exact find_at (k := k) (fun j z hj hz => h1 (j + 1) z (by omega) (by simpa using hz)) (by simpa using h) hp
theorem find_none {α : Type} {p : α → Bool} {L : List α} (h : ∀ j x, j < L.length → L[j]? = some x → p x = false) : L.find? p = none := by
  rw [List.find?_eq_none]
  intro x hx
  obtain ⟨j, hj, e⟩ := List.mem_iff_getElem.1 hx
  rw [h j x hj (by rw [List.getElem?_eq_getElem hj, e])]
  decide
def strsV (L : List ByteArray) : List Value := L.map Value.string
theorem strs_get {L : List ByteArray} {k : Nat} {t : ByteArray} (h : L[k]? = some t) : (strsV L)[k]? = some (.string t) := by
  unfold strsV
  rw [List.getElem?_map, h]; rfl
theorem signs_get (k : Nat) (h : k < 13) : ∃ t, signs[k]? = some t ∧ t.size ≤ 2 := by
  match k, h with
  | 0, _ | 1, _ | 2, _ | 3, _ | 4, _ | 5, _ | 6, _ | 7, _ | 8, _ | 9, _ | 10, _ | 11, _ | 12, _ => exact ⟨_, rfl, by decide⟩
  | k + 13, h => omega
theorem Blk.new' (X : World) {g : Nat} (hg : g = X.heap.size) (t : Nat) (cs : List Value) : Blk (X.alloc (.cells cs.toArray t)) g t cs := by rw [hg]; exact Blk.new X t cs
def SignR (w : World) (o : Option ByteArray) (e : Ending) (w' : World) : Prop :=
  e = .returned (.tuple #[.string (o.getD ⟨#[]⟩), .bool o.isSome]) ∧ Ex w w'
set_option maxHeartbeats 800000 in
theorem sign_c (s : ByteArray) (w : World) : Calls Tryz.prog 107 #[.string s] w (SignR w (signF s)) := by
  have HP : Hid (∀ t w', Calls Tryz.prog 130 #[.string s, .string t] w' (Ret w' (.bool (pre s t)))) := fun t w' =>
    (Tryz.strings_HasPrefix s t w').mono fun _ _ ⟨he, hw⟩ => ⟨he, by rw [hw]; exact Ex.refl _⟩
  have HS : Hid (∀ k t, (∀ j x, j < k → signs[j]? = some x → pre s x = false) → signs[k]? = some t → pre s t = true → signF s = some t) := fun k t h1 h2 h3 => find_at h1 h2 h3
  have HA : Hid ((∀ j x, j < 13 → signs[j]? = some x → pre s x = false) → signF s = none) := fun h1 => find_none h1
  have hB : Blk (w.alloc (.cells #[.string ⟨#[33, 61]⟩, .string ⟨#[60, 61]⟩, .string ⟨#[62, 61]⟩, .string ⟨#[43]⟩, .string ⟨#[45]⟩, .string ⟨#[42]⟩, .string ⟨#[61]⟩, .string ⟨#[60]⟩, .string ⟨#[62]⟩, .string ⟨#[40]⟩, .string ⟨#[41]⟩, .string ⟨#[44]⟩, .string ⟨#[46]⟩] 9)) w.heap.size 9 (strsV signs) := Blk.new w 9 (strsV signs)
  have HB := Lib.hid hB
  have HX0 : Hid (Ex w (w.alloc (.cells #[.string ⟨#[33, 61]⟩, .string ⟨#[60, 61]⟩, .string ⟨#[62, 61]⟩, .string ⟨#[43]⟩, .string ⟨#[45]⟩, .string ⟨#[42]⟩, .string ⟨#[61]⟩, .string ⟨#[60]⟩, .string ⟨#[62]⟩, .string ⟨#[40]⟩, .string ⟨#[41]⟩, .string ⟨#[44]⟩, .string ⟨#[46]⟩] 9))) := (Ex.refl w).alloc _
  have HG := Lib.hid signs_get
  clear hB
  unfold SignR
  generalize signF s = R at *
  go_enter Tryz.func107, Tryz.ntmps107
  go_wp2_with fail
  generalize w.alloc (.cells #[.string ⟨#[33, 61]⟩, .string ⟨#[60, 61]⟩, .string ⟨#[62, 61]⟩, .string ⟨#[43]⟩, .string ⟨#[45]⟩, .string ⟨#[42]⟩, .string ⟨#[61]⟩, .string ⟨#[60]⟩, .string ⟨#[62]⟩, .string ⟨#[40]⟩, .string ⟨#[41]⟩, .string ⟨#[44]⟩, .string ⟨#[46]⟩] 9) = X at *
  generalize w.heap.size = g at *
  go_loopw [5, 8] (fun _ i wr => ∃ k : Nat, i = .int .i64 k ∧ k ≤ 13 ∧ Hid (∀ j x, j < k → signs[j]? = some x → pre s x = false) ∧ Blk wr g 9 (strsV signs) ∧ Ex w wr) (fun _ i _ => 13 - (intOf i).toNat)
  case atStart => exact ⟨0, rfl, by omega, (fun j _ hj => absurd hj (by omega)), HB.out, HX0.out⟩
  case round =>
    obtain ⟨k, rfl, hk, hall, hb, hx⟩ := hrel
    have HX := Lib.hid hx
    have HBk := Lib.hid hb
    by_cases hlt : k < 13
    · obtain ⟨t, ht, ht2⟩ := HG.out k hlt
      have hc : wr.cell? ⟨g, k, none⟩ = some (.string t) := (hb.cell k).trans (strs_get ht)
      have HP' := Lib.hid (HP.out t)
      have HS' := Lib.hid (HS.out k t hall ht)
      have HAll : Hid (pre s t = false → ∀ j x, j < k + 1 → signs[j]? = some x → pre s x = false) := fun h0 j x hj hjx => by
        by_cases h : j < k
        · exact hall j x h hjx
        · obtain rfl : j = k := by omega
          rw [ht] at hjx
          injection hjx with hjx
          rw [← hjx]; exact h0
      clear hx hb ht
      generalize pre s t = q at *
      cases q
      · have HAll' := Lib.hid (HAll.out rfl)
        go_wp2_with fail
        refine (HP'.out _).mono ?_
        rintro e w' ⟨rfl, z, rfl⟩
        go_wp2_with fail
        refine ⟨⟨k + 1, by go_num, by omega, HAll'.out, HBk.out.ex ⟨_, rfl⟩, HX.out.ext _⟩, by simp [intOf]; omega⟩
      · have e := HS'.out rfl
        subst e
        go_wp2_with fail
        refine (HP'.out _).mono ?_
        rintro e w' ⟨rfl, z, rfl⟩
        go_wp2_with fail
        go_ret2
        exact ⟨rfl, HX.out.ext _⟩
    · obtain rfl : k = 13 := by omega
      have e := HA.out hall
      subst e
      clear hx hb
      go_wp2_with fail
      go_ret2
      exact ⟨rfl, HX.out⟩
def keys : List ByteArray := [⟨#[116, 114, 117, 101]⟩, ⟨#[102, 97, 108, 115, 101]⟩, ⟨#[110, 111, 116]⟩, ⟨#[97, 110, 100]⟩, ⟨#[111, 114]⟩, ⟨#[69, 70]⟩, ⟨#[65, 70]⟩, ⟨#[69, 71]⟩, ⟨#[65, 71]⟩, ⟨#[99, 111, 117, 110, 116]⟩, ⟨#[99, 104, 97, 110, 110, 101, 108]⟩]
theorem keys_get : ∀ k : Nat, k < 11 → ∃ t, keys[k]? = some t
  | 0, _ | 1, _ | 2, _ | 3, _ | 4, _ | 5, _ | 6, _ | 7, _ | 8, _ | 9, _ | 10, _ => ⟨_, rfl⟩
  | k + 11, h => by omega
theorem rSigns_c (w : World) : Calls Tryz.prog 132 #[] w (fun e w' => ∃ g, e = .returned (.slice (some ⟨g, 0, none⟩) 13 13) ∧ Blk w' g 9 (strsV signs) ∧ Ex w w') := by
  have hB : Blk (w.alloc (.cells #[.string ⟨#[33, 61]⟩, .string ⟨#[60, 61]⟩, .string ⟨#[62, 61]⟩, .string ⟨#[43]⟩, .string ⟨#[45]⟩, .string ⟨#[42]⟩, .string ⟨#[61]⟩, .string ⟨#[60]⟩, .string ⟨#[62]⟩, .string ⟨#[40]⟩, .string ⟨#[41]⟩, .string ⟨#[44]⟩, .string ⟨#[46]⟩] 9)) w.heap.size 9 (strsV signs) := Blk.new w 9 (strsV signs)
  have HB := Lib.hid hB
  clear hB
  go_enter Tryz.func132, Tryz.ntmps132
  go_wp2_with fail
  go_ret
  exact ⟨_, rfl, HB.out, (Ex.refl w).alloc _⟩
theorem rKeys_c (w : World) : Calls Tryz.prog 124 #[] w (fun e w' => ∃ g, e = .returned (.slice (some ⟨g, 0, none⟩) 11 11) ∧ Blk w' g 9 (strsV keys) ∧ Ex w w') := by
  have hB : Blk (w.alloc (.cells #[.string ⟨#[116, 114, 117, 101]⟩, .string ⟨#[102, 97, 108, 115, 101]⟩, .string ⟨#[110, 111, 116]⟩, .string ⟨#[97, 110, 100]⟩, .string ⟨#[111, 114]⟩, .string ⟨#[69, 70]⟩, .string ⟨#[65, 70]⟩, .string ⟨#[69, 71]⟩, .string ⟨#[65, 71]⟩, .string ⟨#[99, 111, 117, 110, 116]⟩, .string ⟨#[99, 104, 97, 110, 110, 101, 108]⟩] 9)) w.heap.size 9 (strsV keys) := Blk.new w 9 (strsV keys)
  have HB := Lib.hid hB
  clear hB
  go_enter Tryz.func124, Tryz.ntmps124
  go_wp2_with fail
  go_ret
  exact ⟨_, rfl, HB.out, (Ex.refl w).alloc _⟩
theorem pre_of {s t : ByteArray} (_ : t.size ≤ s.size) : ((s.extract 0 t.size).toList == t.toList) = pre s t := by
  rw [Lib.toList_data, Lib.toList_data, Lib.extract_data]
  unfold pre Lib.hasPrefix
  rw [size_data t, Nat.sub_zero, List.drop_zero, Bool.eq_iff_iff, beq_iff_eq, List.isPrefixOf_iff_prefix]
  constructor
  · intro h1; rw [← h1]; exact List.take_prefix _ _
  · intro h1; exact (List.prefix_iff_eq_take.1 h1).symm
theorem pre_not {s t : ByteArray} (h : s.size < t.size) : pre s t = false := by
  cases hp : pre s t
  · rfl
  · unfold pre Lib.hasPrefix at hp
    rw [List.isPrefixOf_iff_prefix] at hp
    have := hp.length_le
    rw [← size_data, ← size_data] at this
    omega
set_option maxHeartbeats 1600000 in
theorem rSign_c (s : ByteArray) (w : World) : Calls Tryz.prog 112 #[.string s] w (Ret w (.string ((signF s).getD ⟨#[]⟩))) := by
  have HS : Hid (∀ k t, (∀ j x, j < k → signs[j]? = some x → pre s x = false) → signs[k]? = some t → pre s t = true → signF s = some t) := fun k t h1 h2 h3 => find_at h1 h2 h3
  have HA : Hid ((∀ j x, j < 13 → signs[j]? = some x → pre s x = false) → signF s = none) := fun h1 => find_none h1
  have HG := Lib.hid signs_get
  have HK := Lib.hid rSigns_c
  generalize signF s = R at *
  go_enter Tryz.func112, Tryz.ntmps112
  go_wp2_with fail
  refine (HK.out _).mono ?_
  rintro e w1 ⟨g, rfl, hB, hX0⟩
  have HB := Lib.hid hB
  have HX0 := Lib.hid hX0
  clear hB hX0
  go_wp2_with fail
  go_loopw [4] (fun i wr => ∃ k : Nat, i = .int .i64 k ∧ k ≤ 13 ∧ Hid (∀ j x, j < k → signs[j]? = some x → pre s x = false) ∧ Blk wr g 9 (strsV signs) ∧ Ex w wr) (fun i _ => 13 - (intOf i).toNat)
  case atStart => exact ⟨0, rfl, by omega, (fun j _ hj => absurd hj (by omega)), HB.out, HX0.out⟩
  case round =>
    obtain ⟨k, rfl, hk, hall, hb, hx⟩ := hrel
    have HX := Lib.hid hx
    have HBk := Lib.hid hb
    by_cases hlt : k < 13
    · obtain ⟨t, ht, ht2⟩ := HG.out k hlt
      have lg := hb.lt
      have hc : wr.cell? ⟨g, k, none⟩ = some (.string t) := (hb.cell k).trans (strs_get ht)
      have HS' := Lib.hid (HS.out k t hall ht)
      have HAll : Hid (pre s t = false → ∀ j x, j < k + 1 → signs[j]? = some x → pre s x = false) := fun h0 j x hj hjx => by
        by_cases h : j < k
        · exact hall j x h hjx
        · obtain rfl : j = k := by omega
          rw [ht] at hjx
          injection hjx with hjx
          rw [← hjx]; exact h0
      have hki : (k : Int) < 13 := by omega
      clear hx hb ht
      by_cases hsz : t.size ≤ s.size
      · have b1 : decide ((t.size : Int) ≤ (s.size : Int)) = true := by simp; omega
        have b2 : decide (t.size ≤ s.size) = true := by simp; omega
        have b3 := pre_of hsz
        generalize pre s t = q at *
        cases q
        · have HAll' := Lib.hid (HAll.out rfl)
          go_wp2_with fail
          refine wp_region_ext (by kernel_rfl) (by kernel_rfl) ?_
          repeat (go_big_quiet_step (fail))
          refine wpQuiet_end (fun z => ?_)
          go_wp2_with fail
          refine ⟨⟨k + 1, by go_num, by omega, HAll'.out, HBk.out.ex ⟨_, rfl⟩, HX.out.ext _⟩, by simp [intOf]; omega⟩
        · have e := HS'.out rfl
          subst e
          go_wp2_with fail
          refine wp_region_ext (by kernel_rfl) (by kernel_rfl) ?_
          repeat (go_big_quiet_step (fail))
          refine wpQuiet_end (fun z => ?_)
          go_wp2_with fail
          go_ret
          exact Ret.mk rfl (HX.out.ext _)
      · have b1 : decide ((t.size : Int) ≤ (s.size : Int)) = false := by simp; omega
        have b2 : decide (t.size ≤ s.size) = false := by simp; omega
        have HAll' := Lib.hid (HAll.out (pre_not (by omega)))
        go_wp2_with fail
        refine wp_region_ext (by kernel_rfl) (by kernel_rfl) ?_
        repeat (go_big_quiet_step (fail))
        refine wpQuiet_end (fun z => ?_)
        go_wp2_with fail
        refine ⟨⟨k + 1, by go_num, by omega, HAll'.out, HBk.out.ex ⟨_, rfl⟩, HX.out.ext _⟩, by simp [intOf]; omega⟩
    · obtain rfl : k = 13 := by omega
      have e := HA.out hall
      subst e
      clear hx hb
      go_wp2_with fail
      go_ret
      exact Ret.mk rfl HX.out
end Go.Proofs.YthjalkonlcjhnaaGreatDoor
