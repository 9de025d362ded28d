/-
  The parser's levels or, and, sum, product, walked.
  Conditions: as each theorem says.
-/
import Derived.Test.YthjalkonlcjhnaaGreatDoorQg
namespace Go.Proofs.YthjalkonlcjhnaaGreatDoor
open Go.RowKit

theorem lv_or {f : Nat} {s : St} : lvS (f + 1) 0 none s = lvS f 0 (some (lvS f 1 none s).1) (lvS f 1 none s).2 := by
  conv => lhs; unfold lvS
  simp
set_option maxRecDepth 20000 in
set_option maxHeartbeats 800000 in
theorem or_lv {f : Nat} (hN : ∀ f', f' ≤ f → LvC 78 f' 1) : LvC 49 (f + 1) 0 := by
  intro g b s w h hf
  obtain ⟨hg, hbz, hbg⟩ := h.bounds
  rw [lv_or]
  have HZ : Hid (Zero6 (w.alloc (.cells #[.int .i64 0, .int .i64 0, .int .i64 0, .int .i64 0, .string ⟨#[]⟩, .slice none 0 0] 24)) w.heap.size) := Blk.new w _ _
  have HP := Lib.hid h
  have HB := Lib.hid (And.intro hg (And.intro hbz hbg))
  have HC : Hid (∀ w' jb, Pst w' g b s → Blk w' jb 87 [.string ⟨#[111, 114]⟩, .int .i64 17] → jb ≠ g → Calls Tryz.prog 77 #[.pointer (some ⟨g, 0, none⟩), .func (.func 78) #[.pointer (some ⟨g, 0, none⟩)] #[], .slice (some ⟨jb, 0, none⟩) 1 1] w'
      (TreeR w' g b (lvS f 0 (some (lvS f 1 none s).1) (lvS f 1 none s).2))) := fun w' jb hp hJ hjg =>
    chain_lv (N := 78) (f := f) (lv := 0) (by omega) [((⟨#[111, 114]⟩ : ByteArray), ((17 : Int)))] (by simp [joints, jL]) (fun _ _ => by kernel_rfl) hN g b jb s w' hp hJ hjg (by decide) (by omega)
  obtain ⟨R1, R2, hR⟩ : ∃ R1 R2, lvS f 0 (some (lvS f 1 none s).1) (lvS f 1 none s).2 = (R1, R2) := ⟨_, _, rfl⟩
  rw [hR] at HC ⊢
  unfold TreeR at HC
  clear h hf hR hN hg hbz hbg
  go_enter Tryz.func49, Tryz.ntmps49
  go_wp2_with fail
  refine (HC.out _ (w.heap.size + 1) (HP.out.ex (((Ex.refl _).alloc _).alloc _)) (Blk.new' _ (by simp) _ _) (by have := HB.out.1; omega)).mono ?_
  rintro e w2 ⟨k, n, p, q, S, A, m, c, rfl, ht, hp, hx⟩
  have hne : w.heap.size ≠ g := Nat.ne_of_gt HB.out.1
  have hz := hx.blk (HZ.out.alloc _) hne
  have lz := hz.lt
  have r0 := hz.cell 0
  have r1 := hz.cell 1
  have r2 := hz.cell 2
  have r3 := hz.cell 3
  have r4 := hz.cell 4
  have r5 := hz.cell 5
  simp only [List.getElem?_cons_zero, List.getElem?_cons_succ] at r0 r1 r2 r3 r4 r5
  have f0 := hz.frozen 0
  have f1 := hz.frozen 1
  have f2 := hz.frozen 2
  have f3 := hz.frozen 3
  have f4 := hz.frozen 4
  have f5 := hz.frozen 5
  have Hz := Lib.hid hz
  have HT := Lib.hid ht
  have HPn := Lib.hid hp
  have HX := Lib.hid hx
  clear hz ht hp hx hne
  go_wp2_with fail
  refine bodyPost_ret (results_pred rfl rfl (blk6 Hz.out _ _ _ _ _ _)) rfl ?_
  exact fin6 (Q := fun c => w.heap.size + 1 ≤ c) (Nat.le_refl _) (HT.out.imp (fun c _ h => by rw [World.size_alloc, World.size_alloc] at h; omega)) (fun c h => ⟨by omega, by omega⟩) HPn.out HB.out.1 HB.out.2.1 ((((Exg.refl g w).alloc _).alloc _).trans HX.out)

theorem lv_and {f : Nat} {s : St} : lvS (f + 1) 1 none s = lvS f 1 (some (lvS f 2 none s).1) (lvS f 2 none s).2 := by
  conv => lhs; unfold lvS
  simp
set_option maxRecDepth 20000 in
set_option maxHeartbeats 800000 in
theorem and_lv {f : Nat} (hN : ∀ f', f' ≤ f → LvC 109 f' 2) : LvC 78 (f + 1) 1 := by
  intro g b s w h hf
  obtain ⟨hg, hbz, hbg⟩ := h.bounds
  rw [lv_and]
  have HZ : Hid (Zero6 (w.alloc (.cells #[.int .i64 0, .int .i64 0, .int .i64 0, .int .i64 0, .string ⟨#[]⟩, .slice none 0 0] 24)) w.heap.size) := Blk.new w _ _
  have HP := Lib.hid h
  have HB := Lib.hid (And.intro hg (And.intro hbz hbg))
  have HC : Hid (∀ w' jb, Pst w' g b s → Blk w' jb 87 [.string ⟨#[97, 110, 100]⟩, .int .i64 16] → jb ≠ g → Calls Tryz.prog 77 #[.pointer (some ⟨g, 0, none⟩), .func (.func 109) #[.pointer (some ⟨g, 0, none⟩)] #[], .slice (some ⟨jb, 0, none⟩) 1 1] w'
      (TreeR w' g b (lvS f 1 (some (lvS f 2 none s).1) (lvS f 2 none s).2))) := fun w' jb hp hJ hjg =>
    chain_lv (N := 109) (f := f) (lv := 1) (by omega) [((⟨#[97, 110, 100]⟩ : ByteArray), ((16 : Int)))] (by simp [joints, jL]) (fun _ _ => by kernel_rfl) hN g b jb s w' hp hJ hjg (by decide) (by omega)
  obtain ⟨R1, R2, hR⟩ : ∃ R1 R2, lvS f 1 (some (lvS f 2 none s).1) (lvS f 2 none s).2 = (R1, R2) := ⟨_, _, rfl⟩
  rw [hR] at HC ⊢
  unfold TreeR at HC
  clear h hf hR hN hg hbz hbg
  go_enter Tryz.func78, Tryz.ntmps78
  go_wp2_with fail
  refine (HC.out _ (w.heap.size + 1) (HP.out.ex (((Ex.refl _).alloc _).alloc _)) (Blk.new' _ (by simp) _ _) (by have := HB.out.1; omega)).mono ?_
  rintro e w2 ⟨k, n, p, q, S, A, m, c, rfl, ht, hp, hx⟩
  have hne : w.heap.size ≠ g := Nat.ne_of_gt HB.out.1
  have hz := hx.blk (HZ.out.alloc _) hne
  have lz := hz.lt
  have r0 := hz.cell 0
  have r1 := hz.cell 1
  have r2 := hz.cell 2
  have r3 := hz.cell 3
  have r4 := hz.cell 4
  have r5 := hz.cell 5
  simp only [List.getElem?_cons_zero, List.getElem?_cons_succ] at r0 r1 r2 r3 r4 r5
  have f0 := hz.frozen 0
  have f1 := hz.frozen 1
  have f2 := hz.frozen 2
  have f3 := hz.frozen 3
  have f4 := hz.frozen 4
  have f5 := hz.frozen 5
  have Hz := Lib.hid hz
  have HT := Lib.hid ht
  have HPn := Lib.hid hp
  have HX := Lib.hid hx
  clear hz ht hp hx hne
  go_wp2_with fail
  refine bodyPost_ret (results_pred rfl rfl (blk6 Hz.out _ _ _ _ _ _)) rfl ?_
  exact fin6 (Q := fun c => w.heap.size + 1 ≤ c) (Nat.le_refl _) (HT.out.imp (fun c _ h => by rw [World.size_alloc, World.size_alloc] at h; omega)) (fun c h => ⟨by omega, by omega⟩) HPn.out HB.out.1 HB.out.2.1 ((((Exg.refl g w).alloc _).alloc _).trans HX.out)

theorem lv_sum {f : Nat} {s : St} : lvS (f + 1) 4 none s = lvS f 4 (some (lvS f 5 none s).1) (lvS f 5 none s).2 := by
  conv => lhs; unfold lvS
  simp
set_option maxRecDepth 20000 in
set_option maxHeartbeats 800000 in
theorem sum_lv {f : Nat} (hN : ∀ f', f' ≤ f → LvC 150 f' 5) : LvC 131 (f + 1) 4 := by
  intro g b s w h hf
  obtain ⟨hg, hbz, hbg⟩ := h.bounds
  rw [lv_sum]
  have HZ : Hid (Zero6 (w.alloc (.cells #[.int .i64 0, .int .i64 0, .int .i64 0, .int .i64 0, .string ⟨#[]⟩, .slice none 0 0] 24)) w.heap.size) := Blk.new w _ _
  have HP := Lib.hid h
  have HB := Lib.hid (And.intro hg (And.intro hbz hbg))
  have HC : Hid (∀ w' jb, Pst w' g b s → Blk w' jb 87 [.string ⟨#[43]⟩, .int .i64 6, .string ⟨#[45]⟩, .int .i64 7] → jb ≠ g → Calls Tryz.prog 77 #[.pointer (some ⟨g, 0, none⟩), .func (.func 150) #[.pointer (some ⟨g, 0, none⟩)] #[], .slice (some ⟨jb, 0, none⟩) 2 2] w'
      (TreeR w' g b (lvS f 4 (some (lvS f 5 none s).1) (lvS f 5 none s).2))) := fun w' jb hp hJ hjg =>
    chain_lv (N := 150) (f := f) (lv := 4) (by omega) [((⟨#[43]⟩ : ByteArray), ((6 : Int))), ((⟨#[45]⟩ : ByteArray), ((7 : Int)))] (by simp [joints, jL]) (fun _ _ => by kernel_rfl) hN g b jb s w' hp hJ hjg (by decide) (by omega)
  obtain ⟨R1, R2, hR⟩ : ∃ R1 R2, lvS f 4 (some (lvS f 5 none s).1) (lvS f 5 none s).2 = (R1, R2) := ⟨_, _, rfl⟩
  rw [hR] at HC ⊢
  unfold TreeR at HC
  clear h hf hR hN hg hbz hbg
  go_enter Tryz.func131, Tryz.ntmps131
  go_wp2_with fail
  refine (HC.out _ (w.heap.size + 1) (HP.out.ex (((Ex.refl _).alloc _).alloc _)) (Blk.new' _ (by simp) _ _) (by have := HB.out.1; omega)).mono ?_
  rintro e w2 ⟨k, n, p, q, S, A, m, c, rfl, ht, hp, hx⟩
  have hne : w.heap.size ≠ g := Nat.ne_of_gt HB.out.1
  have hz := hx.blk (HZ.out.alloc _) hne
  have lz := hz.lt
  have r0 := hz.cell 0
  have r1 := hz.cell 1
  have r2 := hz.cell 2
  have r3 := hz.cell 3
  have r4 := hz.cell 4
  have r5 := hz.cell 5
  simp only [List.getElem?_cons_zero, List.getElem?_cons_succ] at r0 r1 r2 r3 r4 r5
  have f0 := hz.frozen 0
  have f1 := hz.frozen 1
  have f2 := hz.frozen 2
  have f3 := hz.frozen 3
  have f4 := hz.frozen 4
  have f5 := hz.frozen 5
  have Hz := Lib.hid hz
  have HT := Lib.hid ht
  have HPn := Lib.hid hp
  have HX := Lib.hid hx
  clear hz ht hp hx hne
  go_wp2_with fail
  refine bodyPost_ret (results_pred rfl rfl (blk6 Hz.out _ _ _ _ _ _)) rfl ?_
  exact fin6 (Q := fun c => w.heap.size + 1 ≤ c) (Nat.le_refl _) (HT.out.imp (fun c _ h => by rw [World.size_alloc, World.size_alloc] at h; omega)) (fun c h => ⟨by omega, by omega⟩) HPn.out HB.out.1 HB.out.2.1 ((((Exg.refl g w).alloc _).alloc _).trans HX.out)

theorem lv_product {f : Nat} {s : St} : lvS (f + 1) 5 none s = lvS f 5 (some (lvS f 6 none s).1) (lvS f 6 none s).2 := by
  conv => lhs; unfold lvS
  simp
set_option maxRecDepth 20000 in
set_option maxHeartbeats 800000 in
theorem product_lv {f : Nat} (hN : ∀ f', f' ≤ f → LvC 163 f' 6) : LvC 150 (f + 1) 5 := by
  intro g b s w h hf
  obtain ⟨hg, hbz, hbg⟩ := h.bounds
  rw [lv_product]
  have HZ : Hid (Zero6 (w.alloc (.cells #[.int .i64 0, .int .i64 0, .int .i64 0, .int .i64 0, .string ⟨#[]⟩, .slice none 0 0] 24)) w.heap.size) := Blk.new w _ _
  have HP := Lib.hid h
  have HB := Lib.hid (And.intro hg (And.intro hbz hbg))
  have HC : Hid (∀ w' jb, Pst w' g b s → Blk w' jb 87 [.string ⟨#[42]⟩, .int .i64 8] → jb ≠ g → Calls Tryz.prog 77 #[.pointer (some ⟨g, 0, none⟩), .func (.func 163) #[.pointer (some ⟨g, 0, none⟩)] #[], .slice (some ⟨jb, 0, none⟩) 1 1] w'
      (TreeR w' g b (lvS f 5 (some (lvS f 6 none s).1) (lvS f 6 none s).2))) := fun w' jb hp hJ hjg =>
    chain_lv (N := 163) (f := f) (lv := 5) (by omega) [((⟨#[42]⟩ : ByteArray), ((8 : Int)))] (by simp [joints, jL]) (fun _ _ => by kernel_rfl) hN g b jb s w' hp hJ hjg (by decide) (by omega)
  obtain ⟨R1, R2, hR⟩ : ∃ R1 R2, lvS f 5 (some (lvS f 6 none s).1) (lvS f 6 none s).2 = (R1, R2) := ⟨_, _, rfl⟩
  rw [hR] at HC ⊢
  unfold TreeR at HC
  clear h hf hR hN hg hbz hbg
  go_enter Tryz.func150, Tryz.ntmps150
  go_wp2_with fail
  refine (HC.out _ (w.heap.size + 1) (HP.out.ex (((Ex.refl _).alloc _).alloc _)) (Blk.new' _ (by simp) _ _) (by have := HB.out.1; omega)).mono ?_
  rintro e w2 ⟨k, n, p, q, S, A, m, c, rfl, ht, hp, hx⟩
  have hne : w.heap.size ≠ g := Nat.ne_of_gt HB.out.1
  have hz := hx.blk (HZ.out.alloc _) hne
  have lz := hz.lt
  have r0 := hz.cell 0
  have r1 := hz.cell 1
  have r2 := hz.cell 2
  have r3 := hz.cell 3
  have r4 := hz.cell 4
  have r5 := hz.cell 5
  simp only [List.getElem?_cons_zero, List.getElem?_cons_succ] at r0 r1 r2 r3 r4 r5
  have f0 := hz.frozen 0
  have f1 := hz.frozen 1
  have f2 := hz.frozen 2
  have f3 := hz.frozen 3
  have f4 := hz.frozen 4
  have f5 := hz.frozen 5
  have Hz := Lib.hid hz
  have HT := Lib.hid ht
  have HPn := Lib.hid hp
  have HX := Lib.hid hx
  clear hz ht hp hx hne
  go_wp2_with fail
  refine bodyPost_ret (results_pred rfl rfl (blk6 Hz.out _ _ _ _ _ _)) rfl ?_
  exact fin6 (Q := fun c => w.heap.size + 1 ≤ c) (Nat.le_refl _) (HT.out.imp (fun c _ h => by rw [World.size_alloc, World.size_alloc] at h; omega)) (fun c h => ⟨by omega, by omega⟩) HPn.out HB.out.1 HB.out.2.1 ((((Exg.refl g w).alloc _).alloc _).trans HX.out)
end Go.Proofs.YthjalkonlcjhnaaGreatDoor
