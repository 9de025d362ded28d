/-
  All levels of the parser, at once.
  Conditions: as each theorem says.
-/
import Derived.Test.YthjalkonlcjhnaaGreatDoorQh
import Derived.Test.YthjalkonlcjhnaaGreatDoorQj
import Derived.Test.YthjalkonlcjhnaaGreatDoorQk
import Derived.Test.YthjalkonlcjhnaaGreatDoorQl
import Derived.Test.YthjalkonlcjhnaaGreatDoorQm
namespace Go.Proofs.YthjalkonlcjhnaaGreatDoor
open Go.RowKit
theorem prefix_lv {f : Nat} (hpre : LvC 109 (f + 1) 2) (hsum : LvC 131 f 4) : LvC 109 (f + 1 + 1) 2 := by
  intro g b s w h hm
  cases hp : pickS prefs s with
  | some k => exact prefix_some hpre g b s w h (fun k' hk => by have := (pickS_live hk).2; omega) k hp
  | none =>
    cases h1 : pickS cmp1 (lvS f 4 none s).2 with
    | some k => exact prefix_A hsum g b s w h (by omega) hp k h1
    | none =>
      cases h2 : pickS cmp2 (lvS f 4 none s).2 with
      | some k => exact prefix_B hsum g b s w h (by omega) hp k h1 h2
      | none => exact prefix_C hsum g b s w h (by omega) hp h1 h2
/-- the contracts of all levels, for states that f allows -/
def AllLv (f : Nat) : Prop :=
  LvC 49 f 0 ∧ LvC 78 f 1 ∧ LvC 109 f 2 ∧ LvC 131 f 4 ∧ LvC 150 f 5 ∧ LvC 163 f 6 ∧ LvC 169 f 7
theorem few_lv {N : FuncId} {f lv : Nat} (hf : f < 20 - lv) : LvC N f lv := fun g b s w h hm => absurd hm (by omega)
theorem all_lv : ∀ f, AllLv f := by
  intro f
  induction f using Nat.strongRecOn with
  | ind f ih =>
    match f, ih with
    | 0, _ => exact ⟨few_lv (by omega), few_lv (by omega), few_lv (by omega), few_lv (by omega), few_lv (by omega), few_lv (by omega), few_lv (by omega)⟩
    | 1, _ => exact ⟨few_lv (by omega), few_lv (by omega), few_lv (by omega), few_lv (by omega), few_lv (by omega), few_lv (by omega), few_lv (by omega)⟩
    | f + 2, ih =>
      exact ⟨or_lv (fun f' h => (ih f' (by omega)).2.1), and_lv (fun f' h => (ih f' (by omega)).2.2.1), prefix_lv (ih (f + 1) (by omega)).2.2.1 (ih f (by omega)).2.2.2.1,
        sum_lv (fun f' h => (ih f' (by omega)).2.2.2.2.1), product_lv (fun f' h => (ih f' (by omega)).2.2.2.2.2.1),
        neg_lv (ih (f + 1) (by omega)).2.2.2.2.2.1 (ih (f + 1) (by omega)).2.2.2.2.2.2, leaf_lv (ih (f + 1) (by omega)).1⟩
/-- what the parser leaves of all words -/
theorem or_c (g b : Nat) (ws : List Wd) (w : World) (h : Pst w g b ⟨ws, 0, (0, 0)⟩) : ∃ R : Tr × St,
    Sim ⟨ws, 0, (0, 0)⟩ (parse (ws.map key)) R ∧ Calls Tryz.prog 49 #[.pointer (some ⟨g, 0, none⟩)] w (TreeR w g b R) := by
  refine ⟨lvS (10 * ws.length + 20) 0 none ⟨ws, 0, (0, 0)⟩, ?_, (all_lv _).1 g b _ w h (by show 10 * (if (0 : Nat) = 0 then ws.length else 0) + 20 ≤ _; rw [if_pos rfl]; omega)⟩
  have := lv_sim (10 * ws.length + 20) 0 none ⟨ws, 0, (0, 0)⟩ rfl
  have e : pz (10 * ws.length + 20) 0 none (ws.map key) = parse (ws.map key) := parse_at (by rw [List.length_map]; omega)
  rw [← e]
  exact this
theorem parse_not (ks : List K) : parse ks ≠ .stuck := enough _ _ _ _ (by omega) (fun h => absurd rfl h) (by simp only [need]; omega)
end Go.Proofs.YthjalkonlcjhnaaGreatDoor
