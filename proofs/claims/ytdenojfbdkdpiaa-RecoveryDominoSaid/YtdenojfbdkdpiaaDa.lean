/-
  Two processes that send each other messages in turn: plain.
  Conditions: as each theorem says.
-/
import Derived.Test.YtdenojfbdkdpiaaRj
import Derived.Test.YtdenojfbdkdpiaaYn
namespace Go.Proofs.Ytdenojfbdkdpiaa
open Go.RowKit Go.Shelf
/-- the event at a place -/
def dEv (p j : Nat) : Ev := ⟨if (p + j) % 2 = 0 then 2 else 3, 1 - (p : Int), (j : Int), 0, []⟩
def dEs (p m : Nat) : List Ev := (List.range m).map (dEv p)
theorem dEs_len (p m : Nat) : (dEs p m).length = m := by simp [dEs]
theorem dEs_get {p m j : Nat} {e : Ev} : (dEs p m)[j]? = some e ↔ j < m ∧ e = dEv p j := by
  unfold dEs
  rw [List.getElem?_map]
  by_cases h : j < m
  · rw [List.getElem?_range h]
    simp only [Option.map_some, Option.some.injEq]
    exact ⟨fun h' => ⟨h, h'.symm⟩, fun h' => h'.2.symm⟩
  · rw [List.getElem?_eq_none (by simp; omega)]
    simp [h]
def domT (n : Nat) : List Pr := [⟨⟨#[97]⟩, [], dEs 0 (2 * n)⟩, ⟨⟨#[98]⟩, [], dEs 1 (2 * n)⟩]
theorem dom_get {n p : Nat} {x : Pr} (h : (domT n)[p]? = some x) : p < 2 ∧ x.evs = dEs p (2 * n) ∧ x.vars = [] ∧ x.name = (if p = 0 then ⟨#[97]⟩ else ⟨#[98]⟩) := by
  match p, h with
  | 0, h => cases h; exact ⟨by omega, rfl, rfl, rfl⟩
  | 1, h => cases h; exact ⟨by omega, rfl, rfl, rfl⟩
  | p + 2, h => simp [domT] at h
theorem dom_evN (n p : Nat) : evN (domT n) p = if p < 2 then 2 * n else 0 := by
  match p with
  | 0 => simp [evN, domT, dEs_len]
  | 1 => simp [evN, domT, dEs_len]
  | p + 2 =>
    rw [if_neg (by omega)]
    simp [evN, domT]
theorem dom_at {n p j : Nat} {e : Ev} : evAt (domT n) p j = some e ↔ p < 2 ∧ j < 2 * n ∧ e = dEv p j := by
  unfold evAt
  match p with
  | 0 => simp [domT, dEs_get]
  | 1 => simp [domT, dEs_get]
  | p + 2 =>
    simp [domT]
    intro h
    omega
theorem dom_in {n : Nat} {x : Nat × Nat} : InT (domT n) x ↔ x.1 < 2 ∧ 1 ≤ x.2 ∧ x.2 ≤ 2 * n := by
  unfold InT
  rw [dom_evN]
  split <;> omega
def rk (x : Nat × Nat) : Nat := 2 * (x.2 - 1) + if (x.1 + (x.2 - 1)) % 2 = 0 then 0 else 1
theorem rk_le (x : Nat × Nat) : 2 * (x.2 - 1) ≤ rk x ∧ rk x ≤ 2 * (x.2 - 1) + 1 := by
  unfold rk
  split <;> omega
theorem dom_dir {n : Nat} {x y : Nat × Nat} (h : Dir (domT n) x y) : rk x < rk y := by
  obtain ⟨h1, h2, h3⟩ := h
  rw [dom_in] at h1 h2
  rcases h3 with ⟨-, g2⟩ | ⟨e, f, g1, g2, g3, g4, g5⟩
  · have a := rk_le x
    have b := rk_le y
    omega
  · obtain ⟨-, -, rfl⟩ := dom_at.1 g1
    obtain ⟨-, -, rfl⟩ := dom_at.1 g2
    unfold dEv at g3 g4 g5
    dsimp only at g3 g4 g5
    unfold rk
    split at g3
    · split at g4
      · omega
      · rename_i k1 k2
        rw [if_pos k1, if_neg k2]
        omega
    · omega
theorem dom_acyclic (n : Nat) (x : Nat × Nat) : ¬ OnC (domT n) x := fun h => by
  have : ∀ x y, Hap (domT n) x y → rk x < rk y := fun x y h => by
    induction h with
    | single h => exact dom_dir h
    | tail _ h ih => exact Nat.lt_trans ih (dom_dir h)
  exact absurd (this x x h) (Nat.lt_irrefl _)
theorem dom_head {n : Nat} (hn : n ≤ 20) (q : Nat) (hq : q < (domT n).length) : headE (domT n) q = 0 := by
  have h0 : firstN (varE []) 0 = 0 := firstN_none fun j h => absurd h (Nat.not_lt_zero _)
  have hnm := ex_nm
  match q, hq with
  | 0, _ => simp [headE, domT, hnm.1, h0, dEs_len]; omega
  | 1, _ => simp [headE, domT, hnm.2, h0, dEs_len]; omega
theorem dom_form {n : Nat} (hn : n ≤ 20) (x : Nat × Nat) (hx : InT (domT n) x) : formE (domT n) x = 0 := by
  have h0 : ∀ n, firstN (asgE n []) 0 = 0 := fun n => firstN_none fun j h => absurd h (Nat.not_lt_zero _)
  have hx' := dom_in.1 hx
  unfold formE
  cases hp : (domT n)[x.1]? with
  | none => rfl
  | some y =>
    obtain ⟨h1, h2, h3, -⟩ := dom_get hp
    dsimp only
    cases he : y.evs[x.2 - 1]? with
    | none => rfl
    | some e =>
      rw [h2] at he
      obtain ⟨h4, rfl⟩ := dEs_get.1 he
      have hl : lastT y (x.2 - 1) = 0 := by
        unfold lastT
        split
        · rfl
        · rw [h2]
          cases hz : (dEs x.1 (2 * n))[x.2 - 1 - 1]? with
          | none => rfl
          | some f => obtain ⟨-, rfl⟩ := dEs_get.1 hz; rfl
      have hf : frmB (domT n).length x.1 (dEv x.1 (x.2 - 1)) = true := by
        have hl2 : (domT n).length = 2 := rfl
        have hk : (dEv x.1 (x.2 - 1)).kind = 2 ∨ (dEv x.1 (x.2 - 1)).kind = 3 := by
          unfold dEv
          dsimp only
          split
          · exact .inl rfl
          · exact .inr rfl
        have hpe : (dEv x.1 (x.2 - 1)).peer = 1 - (x.1 : Int) := rfl
        have hms : (dEv x.1 (x.2 - 1)).msg = ((x.2 - 1 : Nat) : Int) := rfl
        rw [hl2]
        unfold frmB
        rw [if_neg (by omega), hpe, hms]
        simp only [Bool.and_eq_true, decide_eq_true_eq, Bool.not_eq_true', decide_eq_false_iff_not]
        exact ⟨⟨⟨hk, by omega, by omega⟩, by omega⟩, by omega, by omega⟩
      dsimp only
      unfold evE
      rw [hl, hf, h3]
      simp [dEv, h0]
theorem dom_sel {n : Nat} {k m : Int} {y : Nat × Nat} (h : Sel (domT n) k m y) : y.1 < 2 ∧ m = ((y.2 - 1 : Nat) : Int) ∧ k = (if (y.1 + (y.2 - 1)) % 2 = 0 then 2 else 3) := by
  obtain ⟨e, h1, h2, h3⟩ := h
  obtain ⟨g1, -, rfl⟩ := dom_at.1 h1
  exact ⟨g1, h3.symm, h2.symm⟩
theorem dom_one {n : Nat} {k m : Int} {x y : Nat × Nat} (hx : InT (domT n) x) (hy : InT (domT n) y) (h : Sel (domT n) k m x) (g : Sel (domT n) k m y) : x = y := by
  have a := dom_sel h
  have b := dom_sel g
  rw [dom_in] at hx hy
  have hj : x.2 = y.2 := by omega
  have hp : x.1 = y.1 := by
    obtain ⟨a1, -, a3⟩ := a
    obtain ⟨b1, -, b3⟩ := b
    rw [a3, hj] at b3
    split at b3 <;> split at b3 <;> omega
  exact Prod.ext hp hj
theorem dom_pair {n : Nat} (x : Nat × Nat) (hx : InT (domT n) x) : pairE (domT n) x = 0 := by
  have hx' := dom_in.1 hx
  have he : evAt (domT n) x.1 (x.2 - 1) = some (dEv x.1 (x.2 - 1)) := dom_at.2 ⟨hx'.1, by omega, rfl⟩
  unfold pairE
  rw [he]
  dsimp only
  rw [if_neg (by unfold dEv; dsimp only; split <;> omega), if_neg, if_neg]
  · rintro ⟨h1, h2⟩
    apply h2
    have hk : (x.1 + (x.2 - 1)) % 2 ≠ 0 := fun h => by unfold dEv at h1; dsimp only at h1; rw [if_pos h] at h1; omega
    have hq : (1 - x.1 + (x.2 - 1)) % 2 = 0 := by omega
    have hg : ∃ y, (domT n)[1 - x.1]? = some y := get_at (by show _ < 2; omega)
    obtain ⟨y, hy⟩ := hg
    refine ⟨y, dEv (1 - x.1) (x.2 - 1), by unfold dEv; dsimp only; omega, ?_, ?_, ?_, rfl, ?_⟩
    · rw [show (dEv x.1 (x.2 - 1)).peer.toNat = 1 - x.1 by unfold dEv; dsimp only; omega]
      exact hy
    · rw [(dom_get hy).2.1]
      exact List.mem_of_getElem? (dEs_get.2 ⟨by omega, rfl⟩)
    · unfold dEv; dsimp only; rw [if_pos hq]
    · unfold dEv; dsimp only; omega
  · rintro ⟨y, hy, hb, hs⟩
    have := dom_one hy hx hs ⟨_, he, rfl, rfl⟩
    rw [this] at hb
    exact bef_irr _ hb
theorem dom_valid {n : Nat} (hn : n ≤ 20) : validB (domT n) = true := by
  unfold validB
  rw [fault_none (show ¬ ((domT n).length < 1 ∨ 8 < (domT n).length) by show ¬ ((2 : Nat) < 1 ∨ 8 < 2); omega) (dom_head hn) (dom_form hn) dom_pair (dom_acyclic n)]
  rfl
theorem dom_paired (n : Nat) : Paired (domT n) := paired_of dom_pair
theorem dom_msgs {n : Nat} {m : Msg} : m ∈ msgs (domT n) ↔ ∃ p j, p < 2 ∧ j < 2 * n ∧ (p + j) % 2 = 1 ∧ m = ((1 - p, j + 1), (p, j + 1)) := by
  have hf : ∀ p j, p < 2 → j < 2 * n → (p + j) % 2 = 1 → findO (domT n) 2 (j : Int) = (1 - p, j + 1) := fun p j h1 h2 h3 =>
    find_eq (dom_paired n) (by decide) (dom_in.2 ⟨by show 1 - p < 2; omega, by show 1 ≤ j + 1; omega, by show j + 1 ≤ 2 * n; omega⟩) ⟨dEv (1 - p) j, dom_at.2 ⟨by show 1 - p < 2; omega, by show j + 1 - 1 < 2 * n; omega, rfl⟩, by unfold dEv; dsimp only; rw [if_pos (by omega)], rfl⟩
  rw [msgs_iff]
  constructor
  · rintro ⟨p, i, e, h1, h2, rfl⟩
    obtain ⟨g1, g2, rfl⟩ := dom_at.1 h1
    have hk : (p + i) % 2 = 1 := by
      unfold dEv at h2
      dsimp only at h2
      split at h2 <;> omega
    refine ⟨p, i, g1, g2, hk, ?_⟩
    rw [show (dEv p i).msg = (i : Int) from rfl, hf p i g1 g2 hk]
  · rintro ⟨p, j, h1, h2, h3, rfl⟩
    refine ⟨p, j, dEv p j, dom_at.2 ⟨h1, h2, rfl⟩, by unfold dEv; dsimp only; rw [if_neg (by omega)], ?_⟩
    rw [show (dEv p j).msg = (j : Int) from rfl, hf p j h1 h2 h3]
/-- 0, 2, 4 .. 2 n -/
def bef (n : Nat) : List Int := (List.range (n + 1)).map fun (i : Nat) => 2 * (i : Int)
theorem bef_len (n : Nat) : (bef n).length = n + 1 := by simp [bef]
theorem bef_get {n i : Nat} {a : Int} : (bef n)[i]? = some a ↔ i ≤ n ∧ a = 2 * (i : Int) := by
  unfold bef
  rw [List.getElem?_map]
  by_cases h : i < n + 1
  · rw [List.getElem?_range h]
    simp only [Option.map_some, Option.some.injEq]
    exact ⟨fun h' => ⟨by omega, h'.symm⟩, fun h' => h'.2.symm⟩
  · rw [List.getElem?_eq_none (by simp; omega)]
    simp only [Option.map_none]
    exact ⟨fun h' => (by cases h'), fun h' => by omega⟩
theorem bef_snoc (n : Nat) : bef (n + 1) = bef n ++ [2 * ((n + 1 : Nat) : Int)] := by
  unfold bef
  rw [List.range_succ, List.map_append]
  rfl
/-- 0, 1, 3 .. 2 n - 1 -/
def ods (n : Nat) : List Int := 0 :: (List.range n).map fun (i : Nat) => 2 * (i : Int) + 1
theorem ods_len (n : Nat) : (ods n).length = n + 1 := by simp [ods]
theorem ods_get {n i : Nat} {a : Int} : (ods n)[i]? = some a ↔ i ≤ n ∧ a = (if i = 0 then 0 else 2 * (i : Int) - 1) := by
  unfold ods
  cases i with
  | zero => simp [eq_comm]
  | succ i =>
    rw [List.getElem?_cons_succ, List.getElem?_map]
    by_cases h : i < n
    · rw [List.getElem?_range h]
      simp only [Option.map_some, Option.some.injEq]
      rw [if_neg (by omega)]
      exact ⟨fun h' => ⟨by omega, by omega⟩, fun h' => by omega⟩
    · rw [List.getElem?_eq_none (by simp; omega)]
      simp only [Option.map_none]
      exact ⟨fun h' => (by cases h'), fun h' => by omega⟩
theorem ods_snoc (n : Nat) : ods (n + 1) = ods n ++ [2 * (n : Int) + 1] := by
  unfold ods
  rw [List.range_succ, List.map_append]
  rfl
def odl (n : Nat) : List Int := ods n ++ [2 * (n : Int)]
theorem odl_len (n : Nat) : (odl n).length = n + 2 := by simp [odl, ods_len]
theorem odl_get {n i : Nat} {a : Int} : (odl n)[i]? = some a ↔ (i ≤ n ∧ a = (if i = 0 then 0 else 2 * (i : Int) - 1)) ∨ (i = n + 1 ∧ a = 2 * (n : Int)) := by
  unfold odl
  by_cases h : i < (ods n).length
  · rw [List.getElem?_append_left h, ods_get]
    rw [ods_len] at h
    constructor
    · exact fun h' => .inl h'
    · rintro (h' | h')
      · exact h'
      · omega
  · rw [List.getElem?_append_right (by omega), ods_len]
    rw [ods_len] at h
    by_cases h2 : i = n + 1
    · subst h2
      simp
      omega
    · rw [List.getElem?_eq_none (by simp; omega)]
      constructor
      · intro h'; cases h'
      · rintro (h' | h') <;> omega
theorem bef_ok (n : Nat) : okRow (2 * n) (bef n) := by
  refine ⟨bef_get.2 ⟨by omega, by omega⟩, bef_get.2 ⟨by rw [bef_len]; omega, by rw [bef_len]; omega⟩, fun i a b h1 h2 => ?_⟩
  have := bef_get.1 h1
  have := bef_get.1 h2
  omega
theorem odl_ok {n : Nat} (hn : 1 ≤ n) : okRow (2 * n) (odl n) := by
  refine ⟨odl_get.2 (.inl ⟨by omega, by rw [if_pos rfl]⟩), odl_get.2 (.inr ⟨by rw [odl_len]; omega, by omega⟩), fun i a b h1 h2 => ?_⟩
  rcases odl_get.1 h1 with ⟨g1, g2⟩ | ⟨g1, g2⟩ <;> rcases odl_get.1 h2 with ⟨k1, k2⟩ | ⟨k1, k2⟩
  · rw [if_neg (by omega)] at k2
    split at g2 <;> omega
  · split at g2 <;> omega
  · omega
  · omega
theorem bef_stored {n : Nat} (hn : 1 ≤ n) : stored (bef n) = bef (n - 1) := by
  unfold stored
  rw [bef_len]
  apply List.ext_getElem?
  intro i
  rw [List.getElem?_take]
  by_cases h : i < max 1 (n + 1 - 1)
  · rw [if_pos h]
    rw [bef_get.2 (show i ≤ n ∧ (2 * (i : Int)) = 2 * (i : Int) from ⟨by omega, rfl⟩), bef_get.2 (show i ≤ n - 1 ∧ (2 * (i : Int)) = 2 * (i : Int) from ⟨by omega, rfl⟩)]
  · rw [if_neg h, List.getElem?_eq_none (by rw [bef_len]; omega)]
theorem odl_stored (n : Nat) : stored (odl n) = ods n := by
  unfold stored
  rw [odl_len, show max 1 (n + 2 - 1) = (ods n).length by rw [ods_len]; omega]
  unfold odl
  exact List.take_left
theorem dom_perm (r s : List Int) : permF [r, s] (allF 2) = [stored r, stored s] := by
  unfold permF
  have h0 : ((0 : Nat) : Int) ∈ allF 2 := by decide
  have h1 : ((1 : Nat) : Int) ∈ allF 2 := by decide
  simp only [List.mapIdx_cons, List.mapIdx_nil, Nat.zero_add]
  rw [if_pos h0, if_pos h1]
theorem two_get {r s x : List Int} {p : Nat} (h : ([r, s] : List (List Int))[p]? = some x) : (p = 0 ∧ x = r) ∨ (p = 1 ∧ x = s) := by
  match p, h with
  | 0, h => cases h; exact .inl ⟨rfl, rfl⟩
  | 1, h => cases h; exact .inr ⟨rfl, rfl⟩
  | p + 2, h => simp at h
theorem two_int {r s x : Int} {p : Nat} (h : ([r, s] : List Int)[p]? = some x) : (p = 0 ∧ x = r) ∨ (p = 1 ∧ x = s) := by
  match p, h with
  | 0, h => cases h; exact .inl ⟨rfl, rfl⟩
  | 1, h => cases h; exact .inr ⟨rfl, rfl⟩
  | p + 2, h => simp at h
theorem dom_bef_top {n : Nat} (hn : 1 ≤ n) : IsTop (msgs (domT n)) (permF [bef n, bef n] (allF 2)) [2 * (n : Int) - 2, 2 * (n : Int) - 2] := by
  rw [dom_perm, bef_stored hn]
  have hm : (2 * (n : Int) - 2) ∈ bef (n - 1) := List.mem_iff_getElem?.2 ⟨n - 1, bef_get.2 ⟨Nat.le_refl _, by omega⟩⟩
  refine ⟨⟨rfl, fun p r a hr ha => ?_, fun m hm' a b ha hb hle => ?_⟩, fun d hd p a b ha hb => ?_⟩
  · rcases two_get hr with ⟨-, rfl⟩ | ⟨-, rfl⟩ <;> rcases two_int ha with ⟨-, rfl⟩ | ⟨-, rfl⟩ <;> exact hm
  · obtain ⟨p, j, -, -, -, rfl⟩ := dom_msgs.1 hm'
    dsimp only at ha hb hle ⊢
    rcases two_int ha with ⟨-, rfl⟩ | ⟨-, rfl⟩ <;> rcases two_int hb with ⟨-, rfl⟩ | ⟨-, rfl⟩ <;> exact hle
  · have hp : p < 2 := by have := (List.getElem?_eq_some_iff.1 hb).1; simpa using this
    have hr : ([bef (n - 1), bef (n - 1)] : List (List Int))[p]? = some (bef (n - 1)) := by
      rcases (show p = 0 ∨ p = 1 by omega) with rfl | rfl <;> rfl
    obtain ⟨i, hi⟩ := List.mem_iff_getElem?.1 (hd.mem p _ a hr ha)
    have h1 := bef_get.1 hi
    rcases two_int hb with ⟨-, rfl⟩ | ⟨-, rfl⟩ <;> omega
theorem dom_odd_top {n : Nat} (hn : 1 ≤ n) : IsTop (msgs (domT n)) (permF [bef n, odl n] (allF 2)) [0, 0] := by
  rw [dom_perm, bef_stored hn, odl_stored]
  refine ⟨⟨rfl, fun p r a hr ha => ?_, fun m hm' a b ha hb hle => ?_⟩, fun d hd p a b ha hb => ?_⟩
  · rcases two_get hr with ⟨-, rfl⟩ | ⟨-, rfl⟩ <;> rcases two_int ha with ⟨-, rfl⟩ | ⟨-, rfl⟩
    · exact List.mem_iff_getElem?.2 ⟨0, bef_get.2 ⟨by omega, by omega⟩⟩
    · exact List.mem_iff_getElem?.2 ⟨0, bef_get.2 ⟨by omega, by omega⟩⟩
    · exact List.mem_iff_getElem?.2 ⟨0, ods_get.2 ⟨by omega, by simp⟩⟩
    · exact List.mem_iff_getElem?.2 ⟨0, ods_get.2 ⟨by omega, by simp⟩⟩
  · obtain ⟨p, j, -, -, -, rfl⟩ := dom_msgs.1 hm'
    dsimp only at ha hb hle ⊢
    exfalso
    rcases two_int ha with ⟨-, rfl⟩ | ⟨-, rfl⟩ <;> omega
  · have hlen := hd.len
    obtain ⟨x, hx⟩ := get_at (show 0 < d.length by rw [hlen]; simp)
    obtain ⟨y, hy⟩ := get_at (show 1 < d.length by rw [hlen]; simp)
    obtain ⟨i, hi⟩ := List.mem_iff_getElem?.1 (hd.mem 0 _ x rfl hx)
    obtain ⟨k, hk⟩ := List.mem_iff_getElem?.1 (hd.mem 1 _ y rfl hy)
    have h1 := bef_get.1 hi
    have h2 := ods_get.1 hk
    have hA : ∀ q : Nat, 2 * q < 2 * n → ((2 * q + 1 : Nat) : Int) ≤ y → ((2 * q + 1 : Nat) : Int) ≤ x := fun q hq h => hd.closed ((0, 2 * q + 1), (1, 2 * q + 1)) (dom_msgs.2 ⟨1, 2 * q, by omega, hq, by omega, rfl⟩) y x hy hx h
    have hB : ∀ q : Nat, 2 * q + 1 < 2 * n → ((2 * q + 1 + 1 : Nat) : Int) ≤ x → ((2 * q + 1 + 1 : Nat) : Int) ≤ y := fun q hq h => hd.closed ((1, 2 * q + 1 + 1), (0, 2 * q + 1 + 1)) (dom_msgs.2 ⟨0, 2 * q + 1, by omega, hq, by omega, rfl⟩) x y hx hy h
    have h0 : x = 0 ∧ y = 0 := by
      by_cases hi0 : i = 0
      · subst hi0
        have hx0 : x = 0 := by omega
        refine ⟨hx0, ?_⟩
        obtain ⟨g1, g2⟩ := h2
        by_cases hk0 : k = 0
        · rw [if_pos hk0] at g2; exact g2
        · exfalso
          rw [if_neg hk0] at g2
          have := hA 0 (by omega) (by omega)
          omega
      · exfalso
        have hb := hB (i - 1) (by omega) (by omega)
        obtain ⟨g1, g2⟩ := h2
        by_cases hk0 : k = 0
        · rw [if_pos hk0] at g2; omega
        · rw [if_neg hk0] at g2
          have := hA (k - 1) (by omega) (by omega)
          omega
    rcases two_int hb with ⟨rfl, rfl⟩ | ⟨rfl, rfl⟩
    · rw [hx] at ha; cases ha; omega
    · rw [hy] at ha; cases ha; omega
theorem dom_cp1 (n : Nat) : cpP (domT n) [bef n, bef n] := ⟨rfl, fun p r h => by
  have hp : p < 2 := by have := (List.getElem?_eq_some_iff.1 h).1; simpa using this
  rw [dom_evN, if_pos hp]
  rcases two_get h with ⟨-, rfl⟩ | ⟨-, rfl⟩ <;> exact bef_ok n⟩
theorem dom_cp2 {n : Nat} (hn : 1 ≤ n) : cpP (domT n) [bef n, odl n] := ⟨rfl, fun p r h => by
  have hp : p < 2 := by have := (List.getElem?_eq_some_iff.1 h).1; simpa using this
  rw [dom_evN, if_pos hp]
  rcases two_get h with ⟨-, rfl⟩ | ⟨-, rfl⟩
  · exact bef_ok n
  · exact odl_ok hn⟩
theorem dom_rbE (n : Nat) (x y : Int) : rbE (domT n) [x, y] 2 = (2 * (n : Int) - x) + (2 * (n : Int) - y) := by
  unfold rbE
  unfold rbE
  unfold rbE
  rw [dom_evN, dom_evN, if_pos (by omega), if_pos (by omega)]
  simp
theorem dom_rbK (r s : List Int) (x y : Int) : rbK [r, s] [x, y] 2 = (stored r).countP (fun k => decide (x < k)) + (stored s).countP (fun k => decide (y < k)) := by
  unfold rbK
  unfold rbK
  unfold rbK
  simp
theorem bef_none {n : Nat} (hn : 1 ≤ n) : (stored (bef n)).countP (fun k => decide (2 * (n : Int) - 2 < k)) = 0 := by
  rw [bef_stored hn, List.countP_eq_zero]
  intro a ha
  obtain ⟨i, hi⟩ := List.mem_iff_getElem?.1 ha
  have := bef_get.1 hi
  simp
  omega
theorem bef_pos : ∀ n, (bef n).countP (fun k => decide (0 < k)) = n
  | 0 => by decide
  | n + 1 => by
    rw [bef_snoc, List.countP_append, bef_pos n]
    simp
    omega
theorem ods_pos : ∀ n, (ods n).countP (fun k => decide (0 < k)) = n
  | 0 => by decide
  | n + 1 => by
    rw [ods_snoc, List.countP_append, ods_pos n]
    simp
    omega
theorem dom_k1 {n : Nat} (hn : 1 ≤ n) : rbK [bef n, bef n] [2 * (n : Int) - 2, 2 * (n : Int) - 2] 2 = 0 := by
  rw [dom_rbK, bef_none hn]
theorem dom_k2 {n : Nat} (hn : 1 ≤ n) : rbK [bef n, odl n] [0, 0] 2 = 2 * n - 1 := by
  rw [dom_rbK, bef_stored hn, odl_stored, bef_pos, ods_pos]
  omega
theorem dom_small {n : Nat} (hn : n ≤ 20) : TSm (domT n) := by
  refine ⟨by show (2 : Nat) ≤ _; omega, ?_, fun x hx => ?_⟩
  · show sumN (domT n) ≤ _
    unfold domT sumN
    simp [dEs_len, sumN]
    omega
  · obtain ⟨p, hp⟩ := List.mem_iff_getElem?.1 hx
    obtain ⟨h1, h2, h3, h4⟩ := dom_get hp
    refine ⟨?_, by rw [h3]; simp, by rw [h2, dEs_len]; omega, fun v hv => by rw [h3] at hv; exact absurd hv List.not_mem_nil, fun e he => ?_⟩
    · rw [h4]; split <;> decide
    · rw [h2] at he
      obtain ⟨j, hj⟩ := List.mem_iff_getElem?.1 he
      obtain ⟨-, rfl⟩ := dEs_get.1 hj
      simp [dEv]
theorem dom_lsm {n : Nat} (hn : n ≤ 20) : LSm [bef n, bef n] ∧ LSm [bef n, odl n] := by
  refine ⟨⟨by simp, fun r hr => ?_⟩, ⟨by simp, fun r hr => ?_⟩⟩
  · simp only [List.mem_cons, List.not_mem_nil, or_false, or_self] at hr
    rw [hr, bef_len]; omega
  · simp only [List.mem_cons, List.not_mem_nil, or_false] at hr
    rcases hr with rfl | rfl
    · rw [bef_len]; omega
    · rw [odl_len]; omega
end Go.Proofs.Ytdenojfbdkdpiaa
