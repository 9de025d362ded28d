/-
  The examples of the chapter hold.
  Conditions: the world's tables are as laid (Env).
-/
import Derived.Test.YtlkebnobcfffeaaDoorPj
namespace Go.Proofs.YtlkebnobcfffeaaDoor
open Go.RowKit
theorem lex1 : lexL 1000 [112, 46, 120, 32, 60, 61, 32, 51] (1, 1) = .ok [⟨2, [112], (1, 1)⟩, ⟨3, [46], (1, 2)⟩, ⟨2, [120], (1, 3)⟩, ⟨3, [60, 61], (1, 5)⟩, ⟨1, [51], (1, 8)⟩, ⟨4, [], (1, 9)⟩] := by kernel_rfl
theorem lex2 : lexL 1000 [120, 61, 33] (1, 1) = .bad (1, 3) 3 := by kernel_rfl
theorem own_cell {w : World} {base g n c : Nat} {e : TypeId} {size : Nat} {xs : List Value} (h : w.ownsRow base e size (.slice (some ⟨g, 0, none⟩) n c) n xs) (j : Nat) (u : Value) (hj : xs[j]? = some u) : w.cell? ⟨g, j, none⟩ = some u := by
  have := h.cells (g := g) rfl j u hj
  have e : (⟨g, 0, none⟩ : Addr).add j = ⟨g, j, none⟩ := by
    unfold Addr.add; split
    · rename_i h0; rw [h0]
    · simp
  rw [e] at this
  exact this
theorem own_some {w : World} {base : Nat} {e : TypeId} {size : Nat} {v : Value} {n : Nat} {xs : List Value} (h : w.ownsRow base e size v n xs) (h0 : 0 < n) : ∃ g c, v = .slice (some ⟨g, 0, none⟩) n c ∧ g < w.heap.size ∧ base ≤ g := by
  rcases h.2 with hn | ⟨g, cap, cur, rfl, hb, hg, rest⟩
  · exact absurd hn.2 (by omega)
  · exact ⟨g, cap, rfl, (Array.getElem?_eq_some_iff.1 hg).1, hb⟩
set_option maxRecDepth 20000 in
set_option maxHeartbeats 1600000 in
theorem awake_c (w : World) (hE : Env w) : Calls Tryd.prog 9 #[] w (Ret w (.bool true)) := by
  have H1 := Lib.hid (fun w' (hx : Ex w w') => words_c ⟨#[112, 46, 120, 32, 60, 61, 32, 51]⟩ w' (hE.ex hx) (by decide))
  have H2 := Lib.hid (fun w' (hx : Ex w w') => words_c ⟨#[120, 61, 33]⟩ w' (hE.ex hx) (by decide))
  rw [show (⟨#[112, 46, 120, 32, 60, 61, 32, 51]⟩ : ByteArray).data.toList = [112, 46, 120, 32, 60, 61, 32, 51] from rfl, lex1] at H1
  rw [show (⟨#[120, 61, 33]⟩ : ByteArray).data.toList = [120, 61, 33] from rfl, lex2] at H2
  unfold WordsR at H1 H2
  dsimp only at H1 H2
  clear hE
  go_enter Tryd.func9, Tryd.ntmps9
  go_wp2_with fail
  refine (H1.out _ (Ex.refl _)).mono ?_
  rintro e w1 ⟨v, rfl, hown, hx1⟩
  replace hown : w1.ownsRow w.heap.size 36 4 v 6 (wdsV [⟨2, [112], (1, 1)⟩, ⟨3, [46], (1, 2)⟩, ⟨2, [120], (1, 3)⟩, ⟨3, [60, 61], (1, 5)⟩, ⟨1, [51], (1, 8)⟩, ⟨4, [], (1, 9)⟩]) := hown
  obtain ⟨g, c, rfl, hg, hwg⟩ := own_some hown (by decide)
  have k0 := own_cell hown 12 _ rfl
  have k1 := own_cell hown 13 _ rfl
  have k2 := own_cell hown 14 _ rfl
  have k3 := own_cell hown 15 _ rfl
  have l0 := own_cell hown 20 _ rfl
  have l1 := own_cell hown 21 _ rfl
  have l2 := own_cell hown 22 _ rfl
  have l3 := own_cell hown 23 _ rfl
  have HO := Lib.hid hown
  have HX1 := Lib.hid hx1
  clear hown hx1
  go_wp2_with fail
  refine (H2.out _ (HX1.out.alloc _)).mono ?_
  rintro e w2 ⟨rfl, hx2⟩
  have hP := (Blk.new w1 25 [.int .i64 0, .int .i64 0]).ex hx2
  have hg' : g < (w1.alloc (.cells #[.int .i64 0, .int .i64 0] 25)).heap.size := by rw [World.size_alloc]; omega
  have k0' : ∀ o, (w2.alloc o).cell? ⟨g, 12, none⟩ = some (.int .i64 3) := fun o => by
    rw [((Ex.refl w2).alloc o).below.cell (p := ⟨g, 12, none⟩) (Nat.lt_of_lt_of_le hg' hx2.below.size), hx2.below.cell (p := ⟨g, 12, none⟩) hg', ((Ex.refl w1).alloc _).below.cell (p := ⟨g, 12, none⟩) hg]
    exact k0
  have k1' : ∀ o, (w2.alloc o).cell? ⟨g, 13, none⟩ = some (.string ⟨#[60, 61]⟩) := fun o => by
    rw [((Ex.refl w2).alloc o).below.cell (p := ⟨g, 13, none⟩) (Nat.lt_of_lt_of_le hg' hx2.below.size), hx2.below.cell (p := ⟨g, 13, none⟩) hg', ((Ex.refl w1).alloc _).below.cell (p := ⟨g, 13, none⟩) hg]
    exact k1
  have k2' : ∀ o, (w2.alloc o).cell? ⟨g, 14, none⟩ = some (.int .i64 1) := fun o => by
    rw [((Ex.refl w2).alloc o).below.cell (p := ⟨g, 14, none⟩) (Nat.lt_of_lt_of_le hg' hx2.below.size), hx2.below.cell (p := ⟨g, 14, none⟩) hg', ((Ex.refl w1).alloc _).below.cell (p := ⟨g, 14, none⟩) hg]
    exact k2
  have k3' : ∀ o, (w2.alloc o).cell? ⟨g, 15, none⟩ = some (.int .i64 5) := fun o => by
    rw [((Ex.refl w2).alloc o).below.cell (p := ⟨g, 15, none⟩) (Nat.lt_of_lt_of_le hg' hx2.below.size), hx2.below.cell (p := ⟨g, 15, none⟩) hg', ((Ex.refl w1).alloc _).below.cell (p := ⟨g, 15, none⟩) hg]
    exact k3
  have l0' : ∀ o, (w2.alloc o).cell? ⟨g, 20, none⟩ = some (.int .i64 4) := fun o => by
    rw [((Ex.refl w2).alloc o).below.cell (p := ⟨g, 20, none⟩) (Nat.lt_of_lt_of_le hg' hx2.below.size), hx2.below.cell (p := ⟨g, 20, none⟩) hg', ((Ex.refl w1).alloc _).below.cell (p := ⟨g, 20, none⟩) hg]
    exact l0
  have l1' : ∀ o, (w2.alloc o).cell? ⟨g, 21, none⟩ = some (.string ⟨#[]⟩) := fun o => by
    rw [((Ex.refl w2).alloc o).below.cell (p := ⟨g, 21, none⟩) (Nat.lt_of_lt_of_le hg' hx2.below.size), hx2.below.cell (p := ⟨g, 21, none⟩) hg', ((Ex.refl w1).alloc _).below.cell (p := ⟨g, 21, none⟩) hg]
    exact l1
  have l2' : ∀ o, (w2.alloc o).cell? ⟨g, 22, none⟩ = some (.int .i64 1) := fun o => by
    rw [((Ex.refl w2).alloc o).below.cell (p := ⟨g, 22, none⟩) (Nat.lt_of_lt_of_le hg' hx2.below.size), hx2.below.cell (p := ⟨g, 22, none⟩) hg', ((Ex.refl w1).alloc _).below.cell (p := ⟨g, 22, none⟩) hg]
    exact l2
  have l3' : ∀ o, (w2.alloc o).cell? ⟨g, 23, none⟩ = some (.int .i64 9) := fun o => by
    rw [((Ex.refl w2).alloc o).below.cell (p := ⟨g, 23, none⟩) (Nat.lt_of_lt_of_le hg' hx2.below.size), hx2.below.cell (p := ⟨g, 23, none⟩) hg', ((Ex.refl w1).alloc _).below.cell (p := ⟨g, 23, none⟩) hg]
    exact l3
  have p0 : ∀ o, (w2.alloc o).cell? ⟨w1.heap.size, 0, none⟩ = some (.int .i64 0) := fun o => (hP.alloc o).cell 0
  have p1 : ∀ o, (w2.alloc o).cell? ⟨w1.heap.size, 1, none⟩ = some (.int .i64 0) := fun o => (hP.alloc o).cell 1
  have HX2 : Hid (Ex w w2) := (HX1.out.alloc _).trans hx2
  clear hP hx2 k0 k1 k2 k3 l0 l1 l2 l3 hg'
  go_wp2_with fail
  go_ret
  exact Ret.mk rfl (HX2.out.alloc _)
end Go.Proofs.YtlkebnobcfffeaaDoor
