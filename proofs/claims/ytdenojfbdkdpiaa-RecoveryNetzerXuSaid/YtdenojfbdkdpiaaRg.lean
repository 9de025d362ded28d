/-
  The closure of RecoveryNetzerXu.
  Conditions: as each theorem says.
-/
import Derived.Test.YtdenojfbdkdpiaaRf
namespace Go.Proofs.Ytdenojfbdkdpiaa
open Go.RowKit Go.Shelf
theorem cell_noMap {w : World} {g i : Nat} {v : Value} (h : w.cell? ⟨g, i, none⟩ = some v) {b k : Nat} {s : List (Nat × Nat)} (hm : SeenM w b k s) : some g ≠ some b := by
  obtain ⟨D, ⟨es, clock, hb, -⟩, -⟩ := hm
  intro he
  cases he
  simp [World.cell?, hb] at h
/-- the name of a line's state of a process -/
def nmU (l : List (List Int)) (cs : List Int) (p : Nat) : Nat × Nat := (p, (l.getD p []).countP (· < cs.getD p 0) + 1)
/-- the names of a line's states of the first k processes -/
def usK (l : List (List Int)) (cs : List Int) : Nat → List (Nat × Nat)
  | 0 => []
  | k + 1 => nmU l cs k :: usK l cs k
/-- the names of the states of the lines -/
def usedL (l : List (List Int)) (vs : List (List Int)) : List (Nat × Nat) := vs.foldl (fun s cs => usK l cs l.length ++ s) []
theorem usedL_snoc (l : List (List Int)) (vs : List (List Int)) (cs : List Int) : usedL l (vs ++ [cs]) = usK l cs l.length ++ usedL l vs := by
  unfold usedL
  rw [List.foldl_append]
  rfl
set_option maxRecDepth 20000 in
set_option maxHeartbeats 3200000 in
theorem netF_c (l : List (List Int)) (B : Option Addr) (lc : Nat) (cs : List Int) (Ac : Option Addr) (cc nl nm mb n : Nat) (s : List (Nat × Nat)) (w : World) (hL : LlC w B l) (hls : LSm l) (hasc : ∀ (p : Nat) (r : List Int), l[p]? = some r → Asc r) (hcl : l.length ≤ cs.length) (hC : Row w Ac (intsV cs)) (bl : Blk w nl 25 [.slice B l.length lc]) (bm : Blk w nm 53 [.map (some mb)]) (hM : SeenM w mb n s) (hn : n + l.length ≤ 1000000000) :
    Calls Try.prog 29 #[.slice Ac l.length cc, .pointer (some ⟨nl, 0, none⟩), .pointer (some ⟨nm, 0, none⟩)] w (fun e w' => e = .returned (.tuple #[]) ∧ SeenM w' mb (n + l.length) (usK l cs l.length ++ s) ∧ w.grownBy w' (some mb)) := by
  have HL := Lib.hid hL
  have HRl : Hid (∀ (p : Nat) (r : List Int), l[p]? = some r → r.length ≤ 100000) := fun p r hr => hls.each r (List.mem_of_getElem? hr)
  have HAs := Lib.hid hasc
  have hlr := hls.rows
  have HC := Lib.hid hC
  have HCl := Lib.hid hcl
  have HM0 := Lib.hid hM
  have Hbl := Lib.hid bl
  have Hbm := Lib.hid bm
  clear hL hls hasc hcl hC hM bl bm
  go_enter Try.func29, Try.ntmps29
  go_wp2_with fail
  go_loopw [10] (fun q wr => ∃ p : Nat, q = .int .i64 p ∧ p ≤ l.length ∧ Hid (SeenM wr mb (n + p) (usK l cs p ++ s) ∧ w.grownBy wr (some mb))) (fun q _ => l.length - (intOf q).toNat)
  case atStart => exact ⟨0, rfl, Nat.zero_le _, Lib.hid ⟨HM0.out, World.grownBy.refl _ _⟩⟩
  case round =>
    obtain ⟨p, rfl, hp, HH⟩ := hrel
    by_cases hpl : p < l.length
    · have m0 : (0 : Int) ≤ (p : Int) := by omega
      have m1 : (p : Int) < (l.length : Int) := by omega
      obtain ⟨r, hr⟩ := get_at hpl
      have hrl := HRl.out p r hr
      obtain ⟨a, ha⟩ := get_at (show p < cs.length from Nat.lt_of_lt_of_le hpl HCl.out)
      obtain ⟨gc, oc, rfl, hgc, hcell⟩ := row_at HC.out (fun h => by rw [h] at ha; simp at ha)
      obtain ⟨bb, oo, rfl, hbb, A7, c7, r0d, hc7, hrow⟩ := HL.out p r hr
      have hG := HH.out.2
      have z0 := hG.cell (hcell p a ha) (cell_noMap (hcell p a ha) HM0.out)
      have r0 := hG.cell r0d (cell_noMap r0d HM0.out)
      have l0 := hG.cell (Hbl.out.cell 0) (cell_noMap (Hbl.out.cell 0) HM0.out)
      have m0' := hG.cell (Hbm.out.cell 0) (cell_noMap (Hbm.out.cell 0) HM0.out)
      have hlt : ∀ {g : Nat}, g < w.heap.size → g < wr.heap.size := fun h => Nat.lt_of_lt_of_le h hG.size
      have gl := hlt hgc
      have bl' := hlt hbb
      have ll := hlt Hbl.out.lt
      have ml := hlt Hbm.out.lt
      have hRw : Row wr A7 (intsV r) := by
        rcases hrow with h | ⟨br, or_, e, hb, h⟩
        · exact .inl h
        · exact .inr ⟨br, or_, e, hlt hb, fun j u hj => hG.cell (h j u hj) (cell_noMap (h j u hj) HM0.out)⟩
      have HS := Lib.hid (search_c r A7 c7 a wr hRw (HAs.out p r hr) hrl)
      have hnm : nmU l cs p = (p, r.countP (· < a) + 1) := by
        unfold nmU
        rw [show l.getD p [] = r by rw [List.getD_eq_getElem?_getD, hr]; rfl, show cs.getD p 0 = a by rw [List.getD_eq_getElem?_getD, ha]; rfl]
      have hcn : r.countP (· < a) ≤ r.length := List.countP_le_length
      have Hnm := Lib.hid hnm
      clear hRw hrow hr ha hcell r0d hlt hnm
      generalize r.countP (· < a) = i at *
      have w1' : IntKind.i64.wrap ((i : Int) + 1) = (i : Int) + 1 := IntWalk.i64_in _ (by omega)
      go_wp2_with fail
      refine (HS.out).mono ?_
      rintro e9 w5 ⟨rfl, hx5⟩
      obtain ⟨w9, hup, hS9, hg9⟩ := (HH.out.1.ex hx5).put (by unfold maxLen; omega) (show FitI (p, i + 1) from ⟨by show p ≤ _; omega, by show i + 1 ≤ _; omega⟩)
      have hup2 : (Instr.mapUpdate 53 (.map (some mb)) (.agg #[.int .i64 (p : Nat), .int .i64 ((i : Int) + 1)]) (.bool true)).run Try.prog w5 = .ok () w9 := hup
      have HN : Hid (SeenM w9 mb (n + (p + 1)) (usK l cs (p + 1) ++ s) ∧ w.grownBy w9 (some mb)) := by
        refine ⟨?_, hG.trans (World.grownBy.trans (World.grownBy.but ⟨hx5.below.os, hx5.below.tape, hx5.below.output, hx5.below.size, fun k hk _ => hx5.below.block k hk⟩ _) hg9)⟩
        unfold usK
        rw [Hnm.out]
        exact hS9
      have m5 := (hx5.below.cell (p := ⟨nm, 0, none⟩) ml).trans m0'
      have ml5 := Nat.lt_of_lt_of_le ml hx5.below.size
      clear hup hS9 hg9 hx5 hG z0 r0 l0 m0' gl bl' ll ml
      go_wp2_with fail
      exact ⟨⟨p + 1, by go_num, by omega, HN⟩, by simp [intOf]; omega⟩
    · obtain rfl : p = l.length := by omega
      have s1 : decide ((l.length : Int) < (l.length : Int)) = false := decide_eq_false (by omega)
      go_wp2_with fail
      refine bodyPost_end (results_none rfl _ _ _) rfl ?_
      exact ⟨rfl, HH.out⟩
end Go.Proofs.Ytdenojfbdkdpiaa
