/-
  Growing the empty slice, joining two rows, and looking for a process out of range.
  Conditions: as each theorem says.
-/
import Derived.Test.YtdenojfbdkdpiaaRk
import Derived.Lib.AppendZerosOnto
namespace Go.Proofs.Ytdenojfbdkdpiaa
open Go.RowKit Go.Shelf
set_option maxRecDepth 20000 in
set_option maxHeartbeats 1600000 in
theorem grow0_c (n : Nat) (w : World) (hn : n ≤ 1000000) :
    Calls Try.prog 72 #[.slice none 0 0, .int .i64 n] w (fun e w' => ∃ v, e = .returned v ∧ OwnO w' w.heap.size 3 1 v 0 [] ∧ Ex w w') := by
  obtain ⟨i0, hi0, hz0, hz1, hz2⟩ := info_parts infoInt
  by_cases h0 : n = 0
  · subst h0
    go_enter Try.func72, Try.ntmps72
    go_wp2_with fail
    go_ret
    exact ⟨_, rfl, OwnO.nil _ _ _ _, Ex.refl _⟩
  · have m0 : decide ((n : Int) < 0) = false := decide_eq_false (by omega)
    have m1 : decide (0 < (n : Int)) = true := decide_eq_true (by omega)
    have hw : IntKind.i64.wrap ((n : Int)) = (n : Int) := IntWalk.i64_in _ (by omega)
    have hG := grownCap_ge w n 0 3
    have hM := grownCap_le_maxLen w n 0 3 (by unfold maxLen; omega)
    have hrz : ∀ ty, (Builtin.append_ #[39, 3] ty #[.slice none 0 0, .int .i64 (n : Int)]).run Try.prog w =
        .ok (.slice (some ⟨w.heap.size, 0, none⟩) n (grownCap w n 0 3)) (w.drew.alloc (.cells (#[] ++ Builtin.zeroCells (Value.int .i64 0).cells n ++ Builtin.zeroCells (Value.int .i64 0).cells (grownCap w n 0 3 - n)) 3)) := fun ty => by
      have h := Lib.run_append_grow_zeros w 39 3 ty 3 i0 (.int .i64 0) .i64 .i64 Try.underlying39 Try.underlying3 hi0 hz0 none 0 0 [] (run_firstCells_none w.drew i0.size 0 0 0) n (by omega) (by rw [hz1]; decide) (by omega) (by omega)
        (by rw [hz2]; omega) (by rw [hz2, Nat.zero_add]; exact growslice_fits (by omega) (by omega))
      simpa using h
    obtain ⟨G, hGe⟩ : ∃ G, G = grownCap w n 0 3 := ⟨_, rfl⟩
    rw [← hGe] at hrz hG hM
    have hX : Hid (OwnO ((w.alloc (.cells (Builtin.zeroCells #[.int .i64 0] n ++ Builtin.zeroCells #[.int .i64 0] (G - n)) 3)).drew) w.heap.size 3 1 (.slice (some ⟨w.heap.size, 0, none⟩) 0 G) 0 [] ∧ Ex w ((w.alloc (.cells (Builtin.zeroCells #[.int .i64 0] n ++ Builtin.zeroCells #[.int .i64 0] (G - n)) 3)).drew)) := by
      refine ⟨⟨rfl, .inr ⟨w.heap.size, 0, G, _, rfl, Nat.le_refl _, heap_alloc_new w _, Nat.zero_le _, hM, ?_, by simp⟩⟩, ((Ex.refl w).alloc _).drew⟩
      simp [size_zeroCells]
      omega
    have hM' : G ≤ 9223372036854775807 := by unfold maxLen at hM; exact hM
    clear hGe hM hi0 hz0 hz1 hz2
    go_enter Try.func72, Try.ntmps72
    go_wp2_with (at_builtin; refine Lib.wpList_append_run _ rfl _ _ _ _ rfl _ _ rfl rfl _ _ (hrz _) ?_)
    go_ret
    exact ⟨.slice (some ⟨w.heap.size, 0, none⟩) 0 G, rfl, hX.out.1, hX.out.2⟩
section
variable {P : Program} (w : World)
/-- appending a row, the empty one too -/
theorem run_append_rowO (base : Nat) (t ty e : TypeId) (i : TypeInfo) (z : Value) (size bytes : Nat) (ht : P.underlying t = some (.slice e)) (hi : P.info? e = some i) (hz : i.zero = some z)
    (hsize : i.size = size) (hby : i.bytes = bytes) (hzs : z.cells.size = size) (h1s : size = 1)
    (v : Value) (n : Nat) (xs : List Value) (hown : OwnO w base e size v n xs)
    (B : Option Addr) (c : Nat) (ys : List Int) (hr : Row w B (intsV ys))
    (h63 : n + ys.length ≤ maxLen) (hbytes : (n + ys.length) * bytes ≤ 140737488355328) (hbase : base ≤ w.heap.size) :
    ∃ v' w', (Builtin.append_ #[t, t] ty #[v, .slice B ys.length c]).run P w = .ok v' w' ∧ OwnO w' base e size v' (n + ys.length) (xs ++ intsV ys) ∧ w.grownBy w' v.ownBlock := by
  have one : ∀ u ∈ intsV ys, u.oneCell' = true := by
    intro u hu
    obtain ⟨x, -, rfl⟩ := List.mem_map.1 hu
    rfl
  have hl : (intsV ys).length = ys.length * size := by rw [h1s]; simp [intsV]
  cases B with
  | some a =>
    obtain ⟨v', w', h1, h2, h3, -⟩ := run_append_ownO (P := P) w base t ty e i z size bytes ht hi hz hsize hby hzs v n xs hown a ys.length c (intsV ys) hl (fun j u hj => by
      rcases hr with h | ⟨b, o, e', hb, h⟩
      · rw [h] at hj; simp at hj
      · cases e'
        have hadd : (⟨b, o, none⟩ : Addr).add j = ⟨b, o + j, none⟩ := by
          unfold Addr.add; split
          · rename_i h0; rw [h0]; rfl
          · rfl
        rw [hadd]
        exact h j u hj) one h63 hbytes hbase
    exact ⟨v', w', h1, h2, h3⟩
  | none =>
    have hy : ys = [] := by
      rcases hr with h | ⟨b, o, e', hb, h⟩
      · exact List.map_eq_nil_iff.1 h
      · cases e'
    subst hy
    refine ⟨v, w, ?_, by simpa [intsV] using hown, ⟨rfl, rfl, rfl, Nat.le_refl _, fun _ _ _ => rfl⟩⟩
    rcases hown.2 with ⟨rfl, rfl⟩ | ⟨g, o, cap, cur, rfl, hbg, hg, hnc, hcm, hcs, htake⟩
    · simp [Builtin.append_, run_underlying ht, sizeOf, typeInfo, hi, Builtin.lenOf, Builtin.firstCells]
    · have hroom : n + 0 ≤ cap := hnc
      simp [Builtin.append_, run_underlying ht, sizeOf, typeInfo, hi, Builtin.lenOf, Builtin.firstCells, loadCells, hnc, storeCells]
end
/-- the first k of two rows, joined -/
def catL (xs ys : List Int) (k : Nat) : List Int := if k = 0 then [] else if k = 1 then xs else xs ++ ys
set_option maxRecDepth 20000 in
set_option maxHeartbeats 3200000 in
theorem concat_c (xs ys : List Int) (A B : Option Addr) (c d nb : Nat) (w : World) (hx : Row w A (intsV xs)) (hy : Row w B (intsV ys)) (hb : Blk w nb 39 [.slice A xs.length c, .slice B ys.length d]) (l1 : xs.length ≤ 100000) (l2 : ys.length ≤ 100000) :
    Calls Try.prog 35 #[.slice (some ⟨nb, 0, none⟩) 2 2] w (fun e w' => ∃ C k, e = .returned (.slice C (xs.length + ys.length) k) ∧ Row w' C (intsV (xs ++ ys)) ∧ Ex w w') := by
  obtain ⟨i0, hi0, hz0, hz1, hz2⟩ := info_parts infoInt
  have HGr := Lib.hid (fun w' => grow0_c (xs.length + ys.length) w' (by omega))
  have HXr := Lib.hid (fun w' (h : Ex w w') => hx.ex h)
  have HYr := Lib.hid (fun w' (h : Ex w w') => hy.ex h)
  have HBb := Lib.hid (fun w' (h : Ex w w') => hb.ex h)
  have HL2 : Hid ((xs ++ ys).length = xs.length + ys.length) := List.length_append
  have wa' : IntKind.i64.wrap (xs.length : Int) = (xs.length : Int) := IntWalk.i64_in _ (by omega)
  have wb' : IntKind.i64.wrap ((xs.length : Int) + (ys.length : Int)) = (xs.length : Int) + (ys.length : Int) := IntWalk.i64_in _ (by omega)
  have d0 : decide ((xs.length : Int) < 0) = false := decide_eq_false (by omega)
  have d1 : decide ((xs.length : Int) + (ys.length : Int) < 0) = false := decide_eq_false (by omega)
  clear hx hy hb
  go_enter Try.func35, Try.ntmps35
  go_wp2_with fail
  go_loopw [3, 11] (fun s q wr => ∃ k : Nat, q = .int .i64 k ∧ k ≤ 2 ∧ s = .int .i64 (if k = 0 then 0 else if k = 1 then (xs.length : Int) else (xs.length : Int) + (ys.length : Int)) ∧ Hid (Ex w wr)) (fun _ q _ => 2 - (intOf q).toNat)
  case atStart => exact ⟨0, rfl, by omega, rfl, Lib.hid (Ex.refl _)⟩
  case round =>
    obtain ⟨k, rfl, hk, rfl, HX⟩ := hrel
    have b0 := (HBb.out _ HX.out).cell 0
    have b1 := (HBb.out _ HX.out).cell 1
    have bl := (HBb.out _ HX.out).lt
    rcases (show k = 0 ∨ k = 1 ∨ k = 2 by omega) with rfl | rfl | rfl
    · go_wp2_with fail
      exact ⟨⟨1, by go_num, by omega, rfl, HX⟩, by simp [intOf]⟩
    · go_wp2_with fail
      exact ⟨⟨2, by go_num, by omega, rfl, HX⟩, by simp [intOf]⟩
    · go_wp2_with fail
      clear b0 b1 bl
      refine (HGr.out _).mono ?_
      rintro e9 w1 ⟨v, rfl, hO, hx1⟩
      have HX1 := Lib.hid (HX.out.trans hx1)
      have HO1 := Lib.hid (hO.mono HX.out.below.size)
      clear hO hx1
      go_wp2_with fail
      go_loopw [6, 27] (fun y q wr => ∃ (k : Nat) (u : Value), q = .int .i64 k ∧ k ≤ 2 ∧ u = y ∧ Hid (OwnO wr w.heap.size 3 1 u (catL xs ys k).length (intsV (catL xs ys k)) ∧ Ex w wr)) (fun _ q _ => 2 - (intOf q).toNat)
      case atStart => exact ⟨0, v, rfl, by omega, rfl, Lib.hid ⟨HO1.out, HX1.out⟩⟩
      case round =>
        obtain ⟨k, u, rfl, hk, rfl, HH⟩ := hrel
        have b0 := (HBb.out _ HH.out.2).cell 0
        have b1 := (HBb.out _ HH.out.2).cell 1
        have bl := (HBb.out _ HH.out.2).lt
        rcases (show k = 0 ∨ k = 1 ∨ k = 2 by omega) with rfl | rfl | rfl
        · obtain ⟨v', w', h1, h2, h3⟩ := run_append_rowO (P := Try.prog) _ w.heap.size 39 39 3 i0 _ 1 8 Try.underlying39 hi0 hz0 hz1 hz2 rfl rfl _ _ _ HH.out.1 A c xs (HXr.out _ HH.out.2) (by simp [catL, maxLen]; omega) (by simp [catL]; omega) HH.out.2.below.size
          have HN : Hid (OwnO w' w.heap.size 3 1 v' (catL xs ys 1).length (intsV (catL xs ys 1)) ∧ Ex w w') := by
            refine ⟨by simpa [catL, intsV] using h2, HH.out.2.grown h3 (fun k hk => (HH.out.1.lt k hk).1)⟩
          clear h2 h3
          go_wp2_with (at_builtin; refine Lib.wpList_append_run _ rfl _ _ _ _ rfl _ _ rfl rfl _ _ h1 ?_)
          exact ⟨⟨1, _, by go_num, by omega, rfl, HN⟩, by simp [intOf]⟩
        · obtain ⟨v', w', h1, h2, h3⟩ := run_append_rowO (P := Try.prog) _ w.heap.size 39 39 3 i0 _ 1 8 Try.underlying39 hi0 hz0 hz1 hz2 rfl rfl _ _ _ HH.out.1 B d ys (HYr.out _ HH.out.2) (by simp [catL, maxLen]; omega) (by simp [catL]; omega) HH.out.2.below.size
          have HN : Hid (OwnO w' w.heap.size 3 1 v' (catL xs ys 2).length (intsV (catL xs ys 2)) ∧ Ex w w') := by
            refine ⟨?_, HH.out.2.grown h3 (fun k hk => (HH.out.1.lt k hk).1)⟩
            have e1 : catL xs ys 2 = xs ++ ys := rfl
            have e2 : catL xs ys 1 = xs := rfl
            rw [e1, List.length_append, show intsV (xs ++ ys) = intsV xs ++ intsV ys from List.map_append]
            rw [e2] at h2
            exact h2
          clear h2 h3
          go_wp2_with (at_builtin; refine Lib.wpList_append_run _ rfl _ _ _ _ rfl _ _ rfl rfl _ _ h1 ?_)
          exact ⟨⟨2, _, by go_num, by omega, rfl, HN⟩, by simp [intOf]⟩
        · go_wp2_with fail
          go_ret
          have hO : OwnO wr w.heap.size 3 1 u (xs ++ ys).length (intsV (xs ++ ys)) := HH.out.1
          have hv : ∃ C k, u = .slice C (xs ++ ys).length k := by
            rcases hO.2 with ⟨h, h0⟩ | ⟨g, o, cap, cur, h, -⟩
            · exact ⟨none, 0, by rw [h, h0]⟩
            · exact ⟨_, _, h⟩
          obtain ⟨C, k, rfl⟩ := hv
          exact ⟨C, k, by rw [← HL2.out] <;> rfl, hO.row, HH.out.2⟩
end Go.Proofs.Ytdenojfbdkdpiaa
