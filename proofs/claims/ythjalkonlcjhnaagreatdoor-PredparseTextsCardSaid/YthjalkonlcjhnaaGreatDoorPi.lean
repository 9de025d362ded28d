/-
  The reader's word: signs; and all of it.
  Conditions: a text of at most 16384 bytes, the reader stands in it; the world's tables are as laid (Env).
-/
import Derived.Test.YthjalkonlcjhnaaGreatDoorPh
namespace Go.Proofs.YthjalkonlcjhnaaGreatDoor
open Go.RowKit
set_option maxHeartbeats 1600000 in
theorem word_sign (s D : ByteArray) (g i : Nat) (w : World) (h : s.size ≤ 16384) (hi : i ≤ s.size) (hD : s.extract i s.size = D) (hB : Blk w g 82 [.string s, .int .i64 i]) (t : ByteArray) (N : Nat) (hTs : t.size = N) (ht : N ≤ 2) (h0 : 0 < D.size) (hd : digB D[0] = false) (hl : letB D[0] = false) (hsg : signF D = some t) :
    Calls Tryz.prog 76 #[.pointer (some ⟨g, 0, none⟩)] w (WordR w g s i 3 N 0 (posF (s.data.toList.take i)) t) := by
  have f1 : D.toList.isEmpty = false := by rw [nonempty_iff]; exact decide_eq_false (by omega)
  have HD0 := Lib.hid (digit_c D[0])
  rw [hd] at HD0
  have HL0 := Lib.hid (letter_c D[0])
  rw [hl] at HL0
  have HSg := Lib.hid (sign_c D)
  rw [hsg] at HSg
  unfold SignR at HSg
  have H1 := Lib.hid (fun w => place_c s i w h hi)
  have lg := hB.lt
  have hc0 : w.cell? ⟨g, 0, none⟩ = some (.string s) := hB.cell 0
  have hc1 : w.cell? ⟨g, 1, none⟩ = some (.int .i64 i) := hB.cell 1
  have HB := Lib.hid hB
  unfold PosE at H1
  unfold WordR
  generalize posF (s.data.toList.take i) = P at *
  obtain ⟨p, q⟩ := P
  dsimp only at H1 ⊢
  clear hB
  have f0 : (w.alloc (.cells #[.int .i64 0, .string ⟨#[]⟩, .int .i64 0, .int .i64 0] 66)).cell? ⟨g, 0, none⟩ = some (.string s) := ((HB.out.alloc _).cell 0)
  have f2 : (w.alloc (.cells #[.int .i64 0, .string ⟨#[]⟩, .int .i64 0, .int .i64 0] 66)).cell? ⟨g, 1, none⟩ = some (.int .i64 i) := ((HB.out.alloc _).cell 1)
  have HP : Hid (Blk ((w.alloc (.cells #[.int .i64 0, .string ⟨#[]⟩, .int .i64 0, .int .i64 0] 66)).alloc (.cells #[.int .i64 0, .int .i64 0] 39)) (w.heap.size + 1) 39 [.int .i64 0, .int .i64 0]) := Blk.new' _ (by simp) 39 _
  have HE : Hid (Ex (w.alloc (.cells #[.int .i64 0, .string ⟨#[]⟩, .int .i64 0, .int .i64 0] 66)) ((w.alloc (.cells #[.int .i64 0, .string ⟨#[]⟩, .int .i64 0, .int .i64 0] 66)).alloc (.cells #[.int .i64 0, .int .i64 0] 39)).drew.drew) := (((Ex.refl _).alloc _).drew).drew
  have hle : ∀ {j}, (w.alloc (.cells #[.int .i64 0, .string ⟨#[]⟩, .int .i64 0, .int .i64 0] 66)).heap.size ≤ (⟨w.heap.size + 1, j, none⟩ : Addr).block := by intro j; simp
  go_enter Tryz.func76, Tryz.ntmps76
  go_upto_region 1 with fail
  go_region
  go_upto_region 2 with fail
  go_cut [5, 6] (fun s5 s6 wx => ∃ b5, s5 = .pointer (some ⟨b5, 0, none⟩) ∧ s6 = .int .i64 0 ∧ w.heap.size < b5 ∧ Blk wx b5 39 [.int .i64 p, .int .i64 q] ∧ Ex (w.alloc (.cells #[.int .i64 0, .string ⟨#[]⟩, .int .i64 0, .int .i64 0] 66)) wx)
  case first =>
    go_region_held3 (fun w' => w'.cell? ⟨g, 0, none⟩ = some (.string s) ∧ w'.cell? ⟨g, 1, none⟩ = some (.int .i64 i))
      (first | exact ⟨f0, f2⟩ | exact ⟨k0, k1⟩ | (refine ⟨Blk.cell (cs := [.string s, .int .i64 i]) (t := 82) ?_ 0, Blk.cell (cs := [.string s, .int .i64 i]) (t := 82) ?_ 1⟩ <;> repeat (first | exact HB.out | exact hb9 | apply Blk.drew | apply Blk.alloc | refine Blk.far ?_ (by show g ≠ _ + 1; omega) _)))
      (first | (go_at_call 105; refine (H1.out _).mono ?_; rintro e w' ⟨rfl, z, rfl⟩; have hb9 : Blk (ext _ z) g 82 [.string s, .int .i64 i] := Blk.ex (by repeat (first | exact HB.out | apply Blk.drew | apply Blk.alloc)) ⟨z, rfl⟩; have k0 := hb9.cell 0; have k1 := hb9.cell 1))
    · go_wp2_with fail
      go_meet
      exact ⟨_, rfl, rfl, by show _ < (ext _ z).heap.size; exact Nat.lt_of_lt_of_le (by simp) z.h.size, Blk.new _ 39 _, ((((Ex.refl _).drew).drew).ext z).alloc _⟩
    · go_wp2_with fail
      go_meet
      exact ⟨_, rfl, rfl, Nat.lt_succ_self _, ((Blk.ex (HP.out.drew.drew) ⟨z, rfl⟩).set_ 0 _).set_ 1 _, ((HE.out.ext z).setCell (hle (j := 0)) _).setCell (hle (j := 1)) _⟩
  case rest =>
    obtain ⟨b5, rfl, rfl, hb5, hB5, hX5⟩ := hcut
    clear HP HE hle f0 f2 H1 hc0 hc1
    have HR := Lib.hid ((Blk.new w 66 [.int .i64 0, .string ⟨#[]⟩, .int .i64 0, .int .i64 0]).ex hX5)
    have HBg := Lib.hid ((HB.out.alloc (.cells #[.int .i64 0, .string ⟨#[]⟩, .int .i64 0, .int .i64 0] 66)).ex hX5)
    have c50 : wc.cell? ⟨b5, 0, none⟩ = some (.int .i64 p) := hB5.cell 0
    have c51 : wc.cell? ⟨b5, 1, none⟩ = some (.int .i64 q) := hB5.cell 1
    have l5 := hB5.lt
    have lR := HR.out.lt
    have lG := HBg.out.lt
    have H7 : Hid (Blk (wc.alloc (.cells #[.int .i64 0, .string ⟨#[]⟩, .int .i64 p, .int .i64 q] 66)) wc.heap.size 66 [.int .i64 0, .string ⟨#[]⟩, .int .i64 p, .int .i64 q]) := Blk.new wc 66 _
    have HX0 : Hid (Ex w wc) := ((Ex.refl w).alloc _).trans hX5
    have HlX : Hid (w.heap.size + 1 ≤ wc.heap.size) := by
      have h9 := hX5.below.size
      rw [World.size_alloc] at h9
      exact h9
    clear hX5 hB5
    go_upto_region 6 with (first | (go_at_call 87; refine (HD0.out _).mono ?_; rintro e w' ⟨rfl, z, rfl⟩) | (go_at_call 57; refine (HL0.out _).mono ?_; rintro e w' ⟨rfl, z1, rfl⟩) | (go_at_call 107; refine (HSg.out _).mono ?_; rintro e w' ⟨rfl, z2, rfl⟩))
    refine world_gen (fun wx => Hid (Blk wx wc.heap.size 66 [.int .i64 0, .string ⟨#[]⟩, .int .i64 p, .int .i64 q]) ∧ Hid (Blk wx g 82 [.string s, .int .i64 i]) ∧ Hid (Blk wx w.heap.size 66 [.int .i64 0, .string ⟨#[]⟩, .int .i64 0, .int .i64 0]) ∧ Hid (Ex w wx)) ⟨((H7.out.ex ⟨_, rfl⟩).ex ⟨_, rfl⟩).ex ⟨_, rfl⟩, (((HBg.out.alloc _).ex ⟨_, rfl⟩).ex ⟨_, rfl⟩).ex ⟨_, rfl⟩, (((HR.out.alloc _).ex ⟨_, rfl⟩).ex ⟨_, rfl⟩).ex ⟨_, rfl⟩, (((HX0.out.alloc _).ext _).ext _).ext _⟩ ?_
    clear HR HBg H7
    clear c50 c51 l5 HX0
    generalize wc.heap.size = b7 at *
    rintro wd ⟨HB7, HBg, HR, HX⟩
    have nR : ∀ {j}, w.heap.size ≠ (⟨b7, j, none⟩ : Addr).block := by intro j; show _ ≠ b7; omega
    have nG : ∀ {j}, g ≠ (⟨b7, j, none⟩ : Addr).block := by intro j; show _ ≠ b7; omega
    have le7 : ∀ {j}, w.heap.size ≤ (⟨b7, j, none⟩ : Addr).block := by intro j; show _ ≤ b7; omega
    have w7 := HB7.out.lt
    have e0 : wd.cell? ⟨b7, 0, none⟩ = some (.int .i64 0) := HB7.out.cell 0
    have e1 : wd.cell? ⟨b7, 1, none⟩ = some (.string ⟨#[]⟩) := HB7.out.cell 1
    have s0 := HB7.out.frozen 0
    have s1 := HB7.out.frozen 1
    go_upto_region 18 with fail
    refine world_gen (fun wx => Hid (Blk wx b7 66 [.int .i64 3, .string t, .int .i64 p, .int .i64 q]) ∧ Hid (Blk wx g 82 [.string s, .int .i64 i]) ∧ Hid (Blk wx w.heap.size 66 [.int .i64 0, .string ⟨#[]⟩, .int .i64 0, .int .i64 0]) ∧ Hid (Ex w wx)) ⟨(HB7.out.set_ 0 _).set_ 1 _, (HBg.out.far (nG (j := 0)) _).far (nG (j := 1)) _, (HR.out.far (nR (j := 0)) _).far (nR (j := 1)) _, (HX.out.setCell (le7 (j := 0)) _).setCell (le7 (j := 1)) _⟩ ?_
    clear HR HBg HB7 HX e0 e1 s0 s1 w7
    rintro wd ⟨HB7, HBg, HR, HX⟩
    have wR := HR.out.lt
    have wG := HBg.out.lt
    have w7 := HB7.out.lt
    have e0 : wd.cell? ⟨b7, 0, none⟩ = some (.int .i64 3) := HB7.out.cell 0
    have e1 : wd.cell? ⟨b7, 1, none⟩ = some (.string t) := HB7.out.cell 1
    have e2 : wd.cell? ⟨b7, 2, none⟩ = some (.int .i64 p) := HB7.out.cell 2
    have e3 : wd.cell? ⟨b7, 3, none⟩ = some (.int .i64 q) := HB7.out.cell 3
    have g1 : wd.cell? ⟨g, 1, none⟩ = some (.int .i64 i) := HBg.out.cell 1
    have g2 := HBg.out.frozen 1
    have r0 : wd.cell? ⟨w.heap.size, 0, none⟩ = some (.int .i64 0) := HR.out.cell 0
    have r1 : wd.cell? ⟨w.heap.size, 1, none⟩ = some (.string ⟨#[]⟩) := HR.out.cell 1
    have r2 : wd.cell? ⟨w.heap.size, 2, none⟩ = some (.int .i64 0) := HR.out.cell 2
    have r3 : wd.cell? ⟨w.heap.size, 3, none⟩ = some (.int .i64 0) := HR.out.cell 3
    have s0 := HR.out.frozen 0
    have s1 := HR.out.frozen 1
    have s2 := HR.out.frozen 2
    have s3 := HR.out.frozen 3
    have n1 : w.heap.size ≠ g := by omega
    have n2 : b7 ≠ g := HB7.out.ne HBg.out (by decide)
    have n1' := n1.symm
    have n2' := n2.symm
    go_region
    go_wp2_with fail
    have hc : (i : Int) + (N : Int) = ((i + N : Nat) : Int) := by omega
    rw [hc]
    obtain ⟨o1, o2, o3⟩ := word_out (.int .i64 ((i + N : Nat) : Int)) (.int .i64 3) (.string t) (.int .i64 p) (.int .i64 q) HX.out HB.out HBg.out HR.out
    exact bodyPost_ret (results_word_tmp (v := .int .i64 0) rfl rfl rfl o1) rfl ⟨rfl, o2, o3⟩
set_option maxHeartbeats 1600000 in
theorem word_sign_bad (s D : ByteArray) (g i : Nat) (w : World) (h : s.size ≤ 16384) (hi : i ≤ s.size) (hD : s.extract i s.size = D) (hB : Blk w g 82 [.string s, .int .i64 i]) (h0 : 0 < D.size) (hd : digB D[0] = false) (hl : letB D[0] = false) (hsg : signF D = none) :
    Calls Tryz.prog 76 #[.pointer (some ⟨g, 0, none⟩)] w (WordR w g s i 3 0 3 (posF (s.data.toList.take i)) ⟨#[]⟩) := by
  have f1 : D.toList.isEmpty = false := by rw [nonempty_iff]; exact decide_eq_false (by omega)
  have HD0 := Lib.hid (digit_c D[0])
  rw [hd] at HD0
  have HL0 := Lib.hid (letter_c D[0])
  rw [hl] at HL0
  have HSg := Lib.hid (sign_c D)
  rw [hsg] at HSg
  unfold SignR at HSg
  have H1 := Lib.hid (fun w => place_c s i w h hi)
  have lg := hB.lt
  have hc0 : w.cell? ⟨g, 0, none⟩ = some (.string s) := hB.cell 0
  have hc1 : w.cell? ⟨g, 1, none⟩ = some (.int .i64 i) := hB.cell 1
  have HB := Lib.hid hB
  unfold PosE at H1
  unfold WordR
  generalize posF (s.data.toList.take i) = P at *
  obtain ⟨p, q⟩ := P
  dsimp only at H1 ⊢
  clear hB
  have f0 : (w.alloc (.cells #[.int .i64 0, .string ⟨#[]⟩, .int .i64 0, .int .i64 0] 66)).cell? ⟨g, 0, none⟩ = some (.string s) := ((HB.out.alloc _).cell 0)
  have f2 : (w.alloc (.cells #[.int .i64 0, .string ⟨#[]⟩, .int .i64 0, .int .i64 0] 66)).cell? ⟨g, 1, none⟩ = some (.int .i64 i) := ((HB.out.alloc _).cell 1)
  have HP : Hid (Blk ((w.alloc (.cells #[.int .i64 0, .string ⟨#[]⟩, .int .i64 0, .int .i64 0] 66)).alloc (.cells #[.int .i64 0, .int .i64 0] 39)) (w.heap.size + 1) 39 [.int .i64 0, .int .i64 0]) := Blk.new' _ (by simp) 39 _
  have HE : Hid (Ex (w.alloc (.cells #[.int .i64 0, .string ⟨#[]⟩, .int .i64 0, .int .i64 0] 66)) ((w.alloc (.cells #[.int .i64 0, .string ⟨#[]⟩, .int .i64 0, .int .i64 0] 66)).alloc (.cells #[.int .i64 0, .int .i64 0] 39)).drew.drew) := (((Ex.refl _).alloc _).drew).drew
  have hle : ∀ {j}, (w.alloc (.cells #[.int .i64 0, .string ⟨#[]⟩, .int .i64 0, .int .i64 0] 66)).heap.size ≤ (⟨w.heap.size + 1, j, none⟩ : Addr).block := by intro j; simp
  go_enter Tryz.func76, Tryz.ntmps76
  go_upto_region 1 with fail
  go_region
  go_upto_region 2 with fail
  go_cut [5, 6] (fun s5 s6 wx => ∃ b5, s5 = .pointer (some ⟨b5, 0, none⟩) ∧ s6 = .int .i64 0 ∧ w.heap.size < b5 ∧ Blk wx b5 39 [.int .i64 p, .int .i64 q] ∧ Ex (w.alloc (.cells #[.int .i64 0, .string ⟨#[]⟩, .int .i64 0, .int .i64 0] 66)) wx)
  case first =>
    go_region_held3 (fun w' => w'.cell? ⟨g, 0, none⟩ = some (.string s) ∧ w'.cell? ⟨g, 1, none⟩ = some (.int .i64 i))
      (first | exact ⟨f0, f2⟩ | exact ⟨k0, k1⟩ | (refine ⟨Blk.cell (cs := [.string s, .int .i64 i]) (t := 82) ?_ 0, Blk.cell (cs := [.string s, .int .i64 i]) (t := 82) ?_ 1⟩ <;> repeat (first | exact HB.out | exact hb9 | apply Blk.drew | apply Blk.alloc | refine Blk.far ?_ (by show g ≠ _ + 1; omega) _)))
      (first | (go_at_call 105; refine (H1.out _).mono ?_; rintro e w' ⟨rfl, z, rfl⟩; have hb9 : Blk (ext _ z) g 82 [.string s, .int .i64 i] := Blk.ex (by repeat (first | exact HB.out | apply Blk.drew | apply Blk.alloc)) ⟨z, rfl⟩; have k0 := hb9.cell 0; have k1 := hb9.cell 1))
    · go_wp2_with fail
      go_meet
      exact ⟨_, rfl, rfl, by show _ < (ext _ z).heap.size; exact Nat.lt_of_lt_of_le (by simp) z.h.size, Blk.new _ 39 _, ((((Ex.refl _).drew).drew).ext z).alloc _⟩
    · go_wp2_with fail
      go_meet
      exact ⟨_, rfl, rfl, Nat.lt_succ_self _, ((Blk.ex (HP.out.drew.drew) ⟨z, rfl⟩).set_ 0 _).set_ 1 _, ((HE.out.ext z).setCell (hle (j := 0)) _).setCell (hle (j := 1)) _⟩
  case rest =>
    obtain ⟨b5, rfl, rfl, hb5, hB5, hX5⟩ := hcut
    clear HP HE hle f0 f2 H1 hc0 hc1
    have HR := Lib.hid ((Blk.new w 66 [.int .i64 0, .string ⟨#[]⟩, .int .i64 0, .int .i64 0]).ex hX5)
    have HBg := Lib.hid ((HB.out.alloc (.cells #[.int .i64 0, .string ⟨#[]⟩, .int .i64 0, .int .i64 0] 66)).ex hX5)
    have c50 : wc.cell? ⟨b5, 0, none⟩ = some (.int .i64 p) := hB5.cell 0
    have c51 : wc.cell? ⟨b5, 1, none⟩ = some (.int .i64 q) := hB5.cell 1
    have l5 := hB5.lt
    have lR := HR.out.lt
    have lG := HBg.out.lt
    have H7 : Hid (Blk (wc.alloc (.cells #[.int .i64 0, .string ⟨#[]⟩, .int .i64 p, .int .i64 q] 66)) wc.heap.size 66 [.int .i64 0, .string ⟨#[]⟩, .int .i64 p, .int .i64 q]) := Blk.new wc 66 _
    have HX0 : Hid (Ex w wc) := ((Ex.refl w).alloc _).trans hX5
    have HlX : Hid (w.heap.size + 1 ≤ wc.heap.size) := by
      have h9 := hX5.below.size
      rw [World.size_alloc] at h9
      exact h9
    clear hX5 hB5
    go_upto_region 6 with (first | (go_at_call 87; refine (HD0.out _).mono ?_; rintro e w' ⟨rfl, z, rfl⟩) | (go_at_call 57; refine (HL0.out _).mono ?_; rintro e w' ⟨rfl, z1, rfl⟩) | (go_at_call 107; refine (HSg.out _).mono ?_; rintro e w' ⟨rfl, z2, rfl⟩))
    refine world_gen (fun wx => Hid (Blk wx wc.heap.size 66 [.int .i64 0, .string ⟨#[]⟩, .int .i64 p, .int .i64 q]) ∧ Hid (Blk wx g 82 [.string s, .int .i64 i]) ∧ Hid (Blk wx w.heap.size 66 [.int .i64 0, .string ⟨#[]⟩, .int .i64 0, .int .i64 0]) ∧ Hid (Ex w wx)) ⟨((H7.out.ex ⟨_, rfl⟩).ex ⟨_, rfl⟩).ex ⟨_, rfl⟩, (((HBg.out.alloc _).ex ⟨_, rfl⟩).ex ⟨_, rfl⟩).ex ⟨_, rfl⟩, (((HR.out.alloc _).ex ⟨_, rfl⟩).ex ⟨_, rfl⟩).ex ⟨_, rfl⟩, (((HX0.out.alloc _).ext _).ext _).ext _⟩ ?_
    clear HR HBg H7
    clear c50 c51 l5 HX0
    generalize wc.heap.size = b7 at *
    rintro wd ⟨HB7, HBg, HR, HX⟩
    have nR : ∀ {j}, w.heap.size ≠ (⟨b7, j, none⟩ : Addr).block := by intro j; show _ ≠ b7; omega
    have nG : ∀ {j}, g ≠ (⟨b7, j, none⟩ : Addr).block := by intro j; show _ ≠ b7; omega
    have le7 : ∀ {j}, w.heap.size ≤ (⟨b7, j, none⟩ : Addr).block := by intro j; show _ ≤ b7; omega
    have w7 := HB7.out.lt
    have e0 : wd.cell? ⟨b7, 0, none⟩ = some (.int .i64 0) := HB7.out.cell 0
    have e1 : wd.cell? ⟨b7, 1, none⟩ = some (.string ⟨#[]⟩) := HB7.out.cell 1
    have s0 := HB7.out.frozen 0
    have s1 := HB7.out.frozen 1
    go_upto_region 18 with fail
    refine world_gen (fun wx => Hid (Blk wx b7 66 [.int .i64 3, .string ⟨#[]⟩, .int .i64 p, .int .i64 q]) ∧ Hid (Blk wx g 82 [.string s, .int .i64 i]) ∧ Hid (Blk wx w.heap.size 66 [.int .i64 0, .string ⟨#[]⟩, .int .i64 0, .int .i64 0]) ∧ Hid (Ex w wx)) ⟨(HB7.out.set_ 0 _).set_ 1 _, (HBg.out.far (nG (j := 0)) _).far (nG (j := 1)) _, (HR.out.far (nR (j := 0)) _).far (nR (j := 1)) _, (HX.out.setCell (le7 (j := 0)) _).setCell (le7 (j := 1)) _⟩ ?_
    clear HR HBg HB7 HX e0 e1 s0 s1 w7
    rintro wd ⟨HB7, HBg, HR, HX⟩
    have wR := HR.out.lt
    have wG := HBg.out.lt
    have w7 := HB7.out.lt
    have e0 : wd.cell? ⟨b7, 0, none⟩ = some (.int .i64 3) := HB7.out.cell 0
    have e1 : wd.cell? ⟨b7, 1, none⟩ = some (.string ⟨#[]⟩) := HB7.out.cell 1
    have e2 : wd.cell? ⟨b7, 2, none⟩ = some (.int .i64 p) := HB7.out.cell 2
    have e3 : wd.cell? ⟨b7, 3, none⟩ = some (.int .i64 q) := HB7.out.cell 3
    have g1 : wd.cell? ⟨g, 1, none⟩ = some (.int .i64 i) := HBg.out.cell 1
    have g2 := HBg.out.frozen 1
    have r0 : wd.cell? ⟨w.heap.size, 0, none⟩ = some (.int .i64 0) := HR.out.cell 0
    have r1 : wd.cell? ⟨w.heap.size, 1, none⟩ = some (.string ⟨#[]⟩) := HR.out.cell 1
    have r2 : wd.cell? ⟨w.heap.size, 2, none⟩ = some (.int .i64 0) := HR.out.cell 2
    have r3 : wd.cell? ⟨w.heap.size, 3, none⟩ = some (.int .i64 0) := HR.out.cell 3
    have s0 := HR.out.frozen 0
    have s1 := HR.out.frozen 1
    have s2 := HR.out.frozen 2
    have s3 := HR.out.frozen 3
    have n1 : w.heap.size ≠ g := by omega
    have n2 : b7 ≠ g := HB7.out.ne HBg.out (by decide)
    have n1' := n1.symm
    have n2' := n2.symm
    go_region
    go_wp2_with fail
    obtain ⟨o1, o2, o3⟩ := word_out (.int .i64 ((i + 0 : Nat) : Int)) (.int .i64 3) (.string ⟨#[]⟩) (.int .i64 p) (.int .i64 q) HX.out HB.out HBg.out HR.out
    exact bodyPost_ret (results_word_tmp (v := .int .i64 3) rfl rfl rfl o1) rfl ⟨rfl, o2, o3⟩
theorem drop_data (s : ByteArray) (i : Nat) : (s.extract i s.size).data.toList = s.data.toList.drop i := by
  rw [Lib.extract_data]
  rw [List.take_of_length_le (by rw [List.length_drop, ← size_data]; exact Nat.le_refl _)]
theorem of_data {D : ByteArray} {l : List UInt8} (h : D.data.toList = l) : D = ⟨l.toArray⟩ := by
  subst h; rfl
theorem sign_small : ∀ t ∈ signs, t.size ≤ 2 ∧ 0 < t.size := by decide
theorem sign_take {D t : ByteArray} (h : signF D = some t) : t = ⟨(D.data.toList.take t.size).toArray⟩ := by
  have h1 := List.find?_some h
  apply of_data
  unfold pre Lib.hasPrefix at h1
  rw [List.isPrefixOf_iff_prefix] at h1
  rw [size_data t]
  exact List.prefix_iff_eq_take.1 h1
theorem word_c (s : ByteArray) (g i : Nat) (w : World) (hE : Env w) (h : s.size ≤ 16384) (hi : i ≤ s.size) (hB : Blk w g 82 [.string s, .int .i64 i]) :
    Calls Tryz.prog 76 #[.pointer (some ⟨g, 0, none⟩)] w (WordR w g s i (firstL (s.data.toList.drop i)).1 (firstL (s.data.toList.drop i)).2.1 (firstL (s.data.toList.drop i)).2.2 (posF (s.data.toList.take i)) ⟨((s.data.toList.drop i).take (firstL (s.data.toList.drop i)).2.1).toArray⟩) := by
  obtain ⟨D, hD⟩ : ∃ D, s.extract i s.size = D := ⟨_, rfl⟩
  have hL : D.data.toList = s.data.toList.drop i := by rw [← hD, drop_data]
  have hDs : D.size ≤ 16384 := by rw [size_data, hL, List.length_drop, ← size_data]; omega
  rw [← hL]
  have he : ∀ n, D.extract 0 n = ⟨(D.data.toList.take n).toArray⟩ := fun n => of_data (extract_take D n)
  by_cases h0 : D.size = 0
  · have hn : D.data.toList = [] := List.length_eq_zero_iff.1 (by rw [← size_data]; exact h0)
    rw [hn]
    exact word_end s D g i w h hi hD hB h0
  · have h1 : 0 < D.size := by omega
    have hg := get_idx h1
    cases hx : D.data.toList with
    | nil => rw [hx] at hg; simp at hg
    | cons c r =>
      have hc : D[0] = c := by rw [hx] at hg; simpa using hg.symm
      have hD2 : D = ⟨(c :: r).toArray⟩ := of_data hx
      cases hd : digB c
      · cases hl : letB c
        · cases hs : signF D with
          | none =>
            have e : firstL (c :: r) = (3, 0, 3) := by
              unfold firstL
              dsimp only
              rw [hd, hl, ← hD2, hs]
              rfl
            rw [e]
            exact word_sign_bad s D g i w h hi hD hB h1 (by rw [hc]; exact hd) (by rw [hc]; exact hl) hs
          | some t =>
            have e : firstL (c :: r) = (3, t.size, 0) := by
              unfold firstL
              dsimp only
              rw [hd, hl, ← hD2, hs]
              rfl
            rw [e]
            have hT := word_sign s D g i w h hi hD hB t t.size rfl (sign_small t (List.mem_of_find?_eq_some hs)).1 h1 (by rw [hc]; exact hd) (by rw [hc]; exact hl) hs
            rw [← hx]
            rw [show (⟨(D.data.toList.take t.size).toArray⟩ : ByteArray) = t from (sign_take hs).symm]
            exact hT
        · have e : firstL (c :: r) = (2, spanL partB (c :: r), if spanL partB (c :: r) ≤ 16 then 0 else 13) := by
            unfold firstL
            dsimp only
            rw [hd, hl]
            rfl
          rw [e, ← hx]
          by_cases h16 : spanL partB D.data.toList ≤ 16
          · rw [if_pos h16, ← he]
            exact word_name s D g i w h hi hD hB hDs h1 (by rw [hc]; exact hd) (by rw [hc]; exact hl) h16
          · rw [if_neg h16, ← he]
            exact word_name_big s D g i w h hi hD hB hDs h1 (by rw [hc]; exact hd) (by rw [hc]; exact hl) (by omega)
      · have e : firstL (c :: r) = (1, spanL digB (c :: r), numE ((c :: r).take (spanL digB (c :: r)))) := by
          unfold firstL
          dsimp only
          rw [hd]
          rfl
        rw [e, ← hx, ← he]
        exact word_num s D g i w h hi hD hB hE hDs h1 (by rw [hc]; exact hd)
end Go.Proofs.YthjalkonlcjhnaaGreatDoor
