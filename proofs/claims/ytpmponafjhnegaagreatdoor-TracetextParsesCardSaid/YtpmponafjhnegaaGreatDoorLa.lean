/-
  Texts in pieces, plain: the pieces between the bytes of one kind, the joining of pieces, the cut at the first byte, and the library's words for these.
  Conditions: as each theorem says.
-/
import Derived.Test.YtpmponafjhnegaaGreatDoorBase
import Derived.Lib.Split
import Derived.Lib.CutLaws
namespace Go.Proofs.YtpmponafjhnegaaGreatDoor
/-- the pieces of a text between the bytes c -/
def spl (c : UInt8) : List UInt8 → List (List UInt8)
  | [] => [[]]
  | b :: r => if b = c then [] :: spl c r else (b :: (spl c r).headD []) :: (spl c r).tail
theorem spl_eq (c b : UInt8) (r : List UInt8) : spl c (b :: r) = if b = c then [] :: spl c r else (b :: (spl c r).headD []) :: (spl c r).tail := rfl
theorem spl_ne (c : UInt8) (l : List UInt8) : spl c l ≠ [] := by
  cases l with
  | nil => simp [spl]
  | cons b r => unfold spl; split <;> simp
theorem spl_cons (c : UInt8) (l : List UInt8) : ∃ w ws, spl c l = w :: ws := by
  cases h : spl c l with
  | nil => exact absurd h (spl_ne c l)
  | cons w ws => exact ⟨w, ws, rfl⟩
/-- pieces joined -/
def joinC (c : UInt8) : List (List UInt8) → List UInt8
  | [] => []
  | [w] => w
  | w :: v :: ws => w ++ c :: joinC c (v :: ws)
theorem joinC_cons (c : UInt8) (w : List UInt8) {ws : List (List UInt8)} (h : ws ≠ []) : joinC c (w :: ws) = w ++ c :: joinC c ws := by
  cases ws with
  | nil => exact absurd rfl h
  | cons v ws => rfl
theorem join_spl (c : UInt8) : ∀ l, joinC c (spl c l) = l
  | [] => rfl
  | b :: r => by
    unfold spl
    split
    · rename_i h
      rw [joinC_cons _ _ (spl_ne c r), join_spl c r, h]
      rfl
    · obtain ⟨w, ws, h⟩ := spl_cons c r
      have ih := join_spl c r
      rw [h] at ih ⊢
      show joinC c ((b :: w) :: ws) = _
      cases ws with
      | nil => simpa [joinC] using ih
      | cons v ws => simp only [joinC] at ih ⊢; rw [List.cons_append, ih]
theorem spl_mem {c : UInt8} : ∀ {l w : List UInt8}, w ∈ spl c l → c ∉ w
  | [], w, h => by simp [spl] at h; subst h; exact List.not_mem_nil
  | b :: r, w, h => by
    unfold spl at h
    split at h
    · rcases List.mem_cons.1 h with rfl | h
      · exact List.not_mem_nil
      · exact spl_mem h
    · rename_i hb
      obtain ⟨v, vs, e⟩ := spl_cons c r
      rw [e] at h
      rcases List.mem_cons.1 h with rfl | h
      · intro hc
        rcases List.mem_cons.1 hc with rfl | hc
        · exact hb rfl
        · exact spl_mem (l := r) (by rw [e]; exact List.mem_cons_self ..) hc
      · exact spl_mem (l := r) (by rw [e]; exact List.mem_cons_of_mem _ h)
theorem spl_none {c : UInt8} : ∀ {l : List UInt8}, c ∉ l → spl c l = [l]
  | [], _ => rfl
  | b :: r, h => by
    unfold spl
    rw [if_neg (fun e => h (by rw [e]; exact List.mem_cons_self ..)), spl_none (fun e => h (List.mem_cons_of_mem _ e))]
    rfl
theorem spl_app {c : UInt8} : ∀ {w : List UInt8} (r : List UInt8), c ∉ w → spl c (w ++ c :: r) = w :: spl c r
  | [], r, _ => by rw [List.nil_append, spl_eq, if_pos rfl]
  | b :: w, r, h => by
    rw [List.cons_append, spl_eq, if_neg (fun e => h (by rw [e]; exact List.mem_cons_self ..)), spl_app r (fun e => h (List.mem_cons_of_mem _ e))]
    rfl
theorem spl_join {c : UInt8} : ∀ {ws : List (List UInt8)}, ws ≠ [] → (∀ w ∈ ws, c ∉ w) → spl c (joinC c ws) = ws
  | [], h, _ => absurd rfl h
  | [w], _, h => spl_none (h w (List.mem_cons_self ..))
  | w :: v :: ws, _, h => by
    rw [joinC_cons _ _ (by simp), spl_app _ (h w (List.mem_cons_self ..)), spl_join (by simp) fun x hx => h x (List.mem_cons_of_mem _ hx)]
/-- in two at the first byte c -/
def cutC (c : UInt8) : List UInt8 → Option (List UInt8 × List UInt8)
  | [] => none
  | b :: r => if b = c then some ([], r) else (cutC c r).map fun x => (b :: x.1, x.2)
theorem cutC_some {c : UInt8} : ∀ {l a b : List UInt8}, cutC c l = some (a, b) → l = a ++ c :: b ∧ c ∉ a
  | [], a, b, h => by simp [cutC] at h
  | x :: r, a, b, h => by
    unfold cutC at h
    split at h
    · rename_i hx
      cases h
      exact ⟨by rw [hx]; rfl, List.not_mem_nil⟩
    · rename_i hx
      cases hr : cutC c r with
      | none => rw [hr] at h; cases h
      | some y =>
        rw [hr] at h
        cases h
        obtain ⟨h1, h2⟩ := cutC_some (a := y.1) (b := y.2) hr
        refine ⟨by rw [List.cons_append, ← h1], fun hc => ?_⟩
        rcases List.mem_cons.1 hc with rfl | hc
        · exact hx rfl
        · exact h2 hc
theorem cutC_app {c : UInt8} : ∀ {a : List UInt8} (b : List UInt8), c ∉ a → cutC c (a ++ c :: b) = some (a, b)
  | [], b, _ => by simp [cutC]
  | x :: a, b, h => by
    rw [List.cons_append]
    unfold cutC
    rw [if_neg (fun e => h (by rw [e]; exact List.mem_cons_self ..)), cutC_app b (fun e => h (List.mem_cons_of_mem _ e))]
    rfl
theorem cutC_none {c : UInt8} : ∀ {l : List UInt8}, cutC c l = none ↔ c ∉ l
  | [] => by simp [cutC]
  | x :: r => by
    unfold cutC
    split
    · rename_i hx
      simp [hx]
    · rename_i hx
      rw [Option.map_eq_none_iff, cutC_none, List.mem_cons]
      constructor
      · rintro h (h' | h')
        · exact hx h'.symm
        · exact h h'
      · exact fun h h' => h (.inr h')
theorem occ_one (s : List UInt8) (c : UInt8) (i : Nat) : Lib.occAt s [c] i = decide (s[i]? = some c) := by
  unfold Lib.occAt
  cases h : s.drop i with
  | nil =>
    have : s[i]? = none := List.getElem?_eq_none (List.drop_eq_nil_iff.1 h)
    rw [this]
    simp
  | cons b r =>
    have : s[i]? = some b := by
      have := congrArg (fun l => l[0]?) h
      simpa using this
    rw [this]
    simp only [List.isPrefixOf, Bool.and_true, Option.some.injEq]
    rw [Bool.eq_iff_iff, beq_iff_eq, decide_eq_true_eq]
    exact eq_comm
theorem index_cut (c : UInt8) (s : List UInt8) : Lib.index s [c] = match cutC c s with | some (a, _) => (a.length : Int) | none => -1 := by
  cases h : cutC c s with
  | none =>
    refine Lib.index_none fun j hj => ?_
    rw [occ_one, decide_eq_false_iff_not]
    exact fun e => cutC_none.1 h (List.mem_of_getElem? e)
  | some x =>
    obtain ⟨a, b⟩ := x
    obtain ⟨rfl, h2⟩ := cutC_some h
    refine Lib.index_first (by simp) ?_ fun j hj => ?_
    · rw [occ_one]; simp
    · rw [occ_one, decide_eq_false_iff_not, List.getElem?_append_left hj]
      exact fun e => h2 (List.mem_of_getElem? e)
theorem lib_cut (c : UInt8) (s : List UInt8) : Lib.cut s [c] = match cutC c s with | some (a, b) => (a, b, true) | none => (s, [], false) := by
  unfold Lib.cut
  rw [index_cut]
  cases h : cutC c s with
  | none => rfl
  | some x =>
    obtain ⟨a, b⟩ := x
    obtain ⟨rfl, h2⟩ := cutC_some h
    dsimp only
    have hl : (0 : Int) ≤ (a.length : Int) := by omega
    simp [hl]
theorem spl_cut (c : UInt8) : ∀ s : List UInt8, spl c s = match cutC c s with | some (a, b) => a :: spl c b | none => [s] := by
  intro s
  cases h : cutC c s with
  | none => exact spl_none (cutC_none.1 h)
  | some x =>
    obtain ⟨a, b⟩ := x
    obtain ⟨rfl, h2⟩ := cutC_some h
    exact spl_app b h2
theorem lib_split (c : UInt8) : ∀ (n : Nat) (s : List UInt8), s.length ≤ n → Lib.split s [c] = spl c s ∧ Lib.count s [c] + 1 = (spl c s).length := by
  intro n
  induction n with
  | zero =>
    intro s hs
    obtain rfl : s = [] := List.length_eq_zero_iff.1 (by omega)
    exact ⟨rfl, rfl⟩
  | succ n ih =>
    intro s hs
    have hi := index_cut c s
    rw [spl_cut]
    unfold Lib.split
    cases h : cutC c s with
    | none =>
      rw [h] at hi
      rw [Lib.count_miss hi]
      exact ⟨rfl, rfl⟩
    | some x =>
      obtain ⟨a, b⟩ := x
      rw [h] at hi
      dsimp only at hi ⊢
      obtain ⟨rfl, h2⟩ := cutC_some h
      rw [Lib.count_hit (by simp) hi]
      have hd : (a ++ c :: b).drop (a.length + [c].length) = b := by
        rw [List.drop_append]; simp
      rw [hd, Nat.add_comm 1]
      have hlb : (a ++ c :: b).length = a.length + (b.length + 1) := by simp
      rw [hlb] at hs
      have hz : ¬ ((a.length : Int) == -1) = true := by rw [beq_iff_eq]; omega
      obtain ⟨h3, h4⟩ := ih b (by omega)
      unfold Lib.splitK
      rw [hi, if_neg hz]
      have hd2 : (a ++ c :: b).drop ((a.length : Int).toNat + [c].length) = b := by
        rw [Int.toNat_natCast]; exact hd
      rw [hd2]
      unfold Lib.split at h3
      rw [h3]
      refine ⟨?_, by rw [List.length_cons]; omega⟩
      congr 1
      simp
end Go.Proofs.YtpmponafjhnegaaGreatDoor
