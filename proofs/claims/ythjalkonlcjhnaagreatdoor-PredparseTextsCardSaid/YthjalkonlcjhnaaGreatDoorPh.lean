/-
  The reader's word.
  Conditions: a text of at most 16384 bytes, the reader stands in it; the world's tables are as laid (Env).
-/
import Derived.Test.YthjalkonlcjhnaaGreatDoorPg
import Derived.Deep.RegionHeld3
import Derived.Deep.DeepCutAuto
namespace Go.Proofs.YthjalkonlcjhnaaGreatDoor
open Go.RowKit
theorem world_gen {P : Program} {c : Code} {Q : Exit → Act → World → Prop} {a : Act} {w : World} (C : World → Prop) (h : C w) (k : ∀ w', C w' → Code.wp P c Q a w') : Code.wp P c Q a w := k w h
def WordR (w : World) (g : Nat) (s : ByteArray) (i : Nat) (k n e : Nat) (p : Nat × Nat) (t : ByteArray) (en : Ending) (w' : World) : Prop :=
  en = .returned (.tuple #[.agg #[.int .i64 (k : Nat), .string t, .int .i64 (p.1 : Nat), .int .i64 (p.2 : Nat)], .int .i64 (e : Nat)]) ∧ Blk w' g 82 [.string s, .int .i64 ((i + n : Nat) : Int)] ∧ Ex (w.setCell ⟨g, 1, none⟩ (.int .i64 ((i + n : Nat) : Int))) w'
theorem take_all (p : UInt8 → Bool) (l : List UInt8) : (l.take (spanL p l)).all p = true := by
  unfold spanL
  rw [← List.prefix_iff_eq_take.1 (List.takeWhile_prefix p), List.all_takeWhile]
theorem ex_set {w wd : World} (hx : Ex w wd) {g t i : Nat} {cs : List Value} (hB : Blk w g t cs) (hBd : Blk wd g t cs) (u : Value) : Ex (w.setCell ⟨g, i, none⟩ u) (wd.setCell ⟨g, i, none⟩ u) := by
  have h1 : Below 0 w (w.setCell ⟨g, i, none⟩ u) := (Below.refl 0 w).setCell (Nat.zero_le _) u
  have h2 : Below 0 wd (wd.setCell ⟨g, i, none⟩ u) := (Below.refl 0 wd).setCell (Nat.zero_le _) u
  have hb := hx.below
  have hs : (w.setCell ⟨g, i, none⟩ u).heap.size = w.heap.size := by simp
  refine Ex.of ⟨h2.os.trans (hb.os.trans h1.os.symm), h2.tape.trans (hb.tape.trans h1.tape.symm), h2.output.trans (hb.output.trans h1.output.symm), ?_, ?_⟩
  · simp; exact hb.size
  · intro b hbl
    rw [hs] at hbl
    by_cases h : b = g
    · subst h
      exact (hBd.set_ i u).trans (hB.set_ i u).symm
    · exact (Below.heap_setCell wd ⟨g, i, none⟩ u b h).trans ((hb.block b hbl).trans (Below.heap_setCell w ⟨g, i, none⟩ u b h).symm)
theorem word_out {w wd : World} {g i : Nat} {s : ByteArray} (u a b c d : Value) (hx : Ex w wd) (hB : Blk w g 82 [.string s, .int .i64 i]) (hBd : Blk wd g 82 [.string s, .int .i64 i]) (hR : Blk wd w.heap.size 66 [.int .i64 0, .string ⟨#[]⟩, .int .i64 0, .int .i64 0]) :
    Blk (((((wd.setCell ⟨g, 1, none⟩ u).setCell ⟨w.heap.size, 0, none⟩ a).setCell ⟨w.heap.size, 1, none⟩ b).setCell ⟨w.heap.size, 2, none⟩ c).setCell ⟨w.heap.size, 3, none⟩ d).drew w.heap.size 66 [a, b, c, d] ∧
    Blk (((((wd.setCell ⟨g, 1, none⟩ u).setCell ⟨w.heap.size, 0, none⟩ a).setCell ⟨w.heap.size, 1, none⟩ b).setCell ⟨w.heap.size, 2, none⟩ c).setCell ⟨w.heap.size, 3, none⟩ d).drew g 82 [.string s, u] ∧
    Ex (w.setCell ⟨g, 1, none⟩ u) (((((wd.setCell ⟨g, 1, none⟩ u).setCell ⟨w.heap.size, 0, none⟩ a).setCell ⟨w.heap.size, 1, none⟩ b).setCell ⟨w.heap.size, 2, none⟩ c).setCell ⟨w.heap.size, 3, none⟩ d).drew := by
  have lg := hB.lt
  have n1 : w.heap.size ≠ (⟨g, 1, none⟩ : Addr).block := by show _ ≠ g; omega
  have n2 : ∀ j, g ≠ (⟨w.heap.size, j, none⟩ : Addr).block := by intro j; show g ≠ w.heap.size; omega
  have le : ∀ j, (w.setCell ⟨g, 1, none⟩ u).heap.size ≤ (⟨w.heap.size, j, none⟩ : Addr).block := by intro j; simp
  refine ⟨?_, ?_, ?_⟩
  · exact (((((hR.far n1 u).set_ 0 a).set_ 1 b).set_ 2 c).set_ 3 d).drew
  · exact (((((hBd.set_ 1 u).far (n2 0) a).far (n2 1) b).far (n2 2) c).far (n2 3) d).drew
  · exact (((((ex_set hx hB hBd u).setCell (le 0) a).setCell (le 1) b).setCell (le 2) c).setCell (le 3) d).drew
set_option maxHeartbeats 1600000 in
theorem word_end (s D : ByteArray) (g i : Nat) (w : World) (h : s.size ≤ 16384) (hi : i ≤ s.size) (hD : s.extract i s.size = D) (hB : Blk w g 82 [.string s, .int .i64 i]) (h0 : D.size = 0) :
    Calls Tryz.prog 76 #[.pointer (some ⟨g, 0, none⟩)] w (WordR w g s i 4 0 0 (posF (s.data.toList.take i)) ⟨#[]⟩) := by
  have f1 : D.toList.isEmpty = true := by rw [nonempty_iff]; exact decide_eq_true h0
  clear h0
  have H1 := Lib.hid (fun w => place_c s i w h hi)
  have lg := hB.lt
  have hc0 : w.cell? ⟨g, 0, none⟩ = some (.string s) := hB.cell 0
  have hc1 : w.cell? ⟨g, 1, none⟩ = some (.int .i64 i) := hB.cell 1
  have HB := Lib.hid hB
  unfold PosE at H1
  unfold WordR
  generalize posF (s.data.toList.take i) = P at *
  obtain ⟨p, q⟩ := P
  dsimp only at H1 ⊢
  clear hB
  have f0 : (w.alloc (.cells #[.int .i64 0, .string ⟨#[]⟩, .int .i64 0, .int .i64 0] 66)).cell? ⟨g, 0, none⟩ = some (.string s) := ((HB.out.alloc _).cell 0)
  have f2 : (w.alloc (.cells #[.int .i64 0, .string ⟨#[]⟩, .int .i64 0, .int .i64 0] 66)).cell? ⟨g, 1, none⟩ = some (.int .i64 i) := ((HB.out.alloc _).cell 1)
  have HP : Hid (Blk ((w.alloc (.cells #[.int .i64 0, .string ⟨#[]⟩, .int .i64 0, .int .i64 0] 66)).alloc (.cells #[.int .i64 0, .int .i64 0] 39)) (w.heap.size + 1) 39 [.int .i64 0, .int .i64 0]) := Blk.new' _ (by simp) 39 _
  have HE : Hid (Ex (w.alloc (.cells #[.int .i64 0, .string ⟨#[]⟩, .int .i64 0, .int .i64 0] 66)) ((w.alloc (.cells #[.int .i64 0, .string ⟨#[]⟩, .int .i64 0, .int .i64 0] 66)).alloc (.cells #[.int .i64 0, .int .i64 0] 39)).drew.drew) := (((Ex.refl _).alloc _).drew).drew
  have hle : ∀ {j}, (w.alloc (.cells #[.int .i64 0, .string ⟨#[]⟩, .int .i64 0, .int .i64 0] 66)).heap.size ≤ (⟨w.heap.size + 1, j, none⟩ : Addr).block := by intro j; simp
  go_enter Tryz.func76, Tryz.ntmps76
  go_upto_region 1 with fail
  go_region
  go_upto_region 2 with fail
  go_cut [5, 6] (fun s5 s6 wx => ∃ b5, s5 = .pointer (some ⟨b5, 0, none⟩) ∧ s6 = .int .i64 0 ∧ w.heap.size < b5 ∧ Blk wx b5 39 [.int .i64 p, .int .i64 q] ∧ Ex (w.alloc (.cells #[.int .i64 0, .string ⟨#[]⟩, .int .i64 0, .int .i64 0] 66)) wx)
  case first =>
    go_region_held3 (fun w' => w'.cell? ⟨g, 0, none⟩ = some (.string s) ∧ w'.cell? ⟨g, 1, none⟩ = some (.int .i64 i))
      (first | exact ⟨f0, f2⟩ | exact ⟨k0, k1⟩ | (refine ⟨Blk.cell (cs := [.string s, .int .i64 i]) (t := 82) ?_ 0, Blk.cell (cs := [.string s, .int .i64 i]) (t := 82) ?_ 1⟩ <;> repeat (first | exact HB.out | exact hb9 | apply Blk.drew | apply Blk.alloc | refine Blk.far ?_ (by show g ≠ _ + 1; omega) _)))
      (first | (go_at_call 105; refine (H1.out _).mono ?_; rintro e w' ⟨rfl, z, rfl⟩; have hb9 : Blk (ext _ z) g 82 [.string s, .int .i64 i] := Blk.ex (by repeat (first | exact HB.out | apply Blk.drew | apply Blk.alloc)) ⟨z, rfl⟩; have k0 := hb9.cell 0; have k1 := hb9.cell 1))
    · go_wp2_with fail
      go_meet
      exact ⟨_, rfl, rfl, by show _ < (ext _ z).heap.size; exact Nat.lt_of_lt_of_le (by simp) z.h.size, Blk.new _ 39 _, ((((Ex.refl _).drew).drew).ext z).alloc _⟩
    · go_wp2_with fail
      go_meet
      exact ⟨_, rfl, rfl, Nat.lt_succ_self _, ((Blk.ex (HP.out.drew.drew) ⟨z, rfl⟩).set_ 0 _).set_ 1 _, ((HE.out.ext z).setCell (hle (j := 0)) _).setCell (hle (j := 1)) _⟩
  case rest =>
    obtain ⟨b5, rfl, rfl, hb5, hB5, hX5⟩ := hcut
    clear HP HE hle f0 f2 H1 hc0 hc1
    have HR := Lib.hid ((Blk.new w 66 [.int .i64 0, .string ⟨#[]⟩, .int .i64 0, .int .i64 0]).ex hX5)
    have HBg := Lib.hid ((HB.out.alloc (.cells #[.int .i64 0, .string ⟨#[]⟩, .int .i64 0, .int .i64 0] 66)).ex hX5)
    have c50 : wc.cell? ⟨b5, 0, none⟩ = some (.int .i64 p) := hB5.cell 0
    have c51 : wc.cell? ⟨b5, 1, none⟩ = some (.int .i64 q) := hB5.cell 1
    have l5 := hB5.lt
    have lR := HR.out.lt
    have lG := HBg.out.lt
    have H7 : Hid (Blk (wc.alloc (.cells #[.int .i64 0, .string ⟨#[]⟩, .int .i64 p, .int .i64 q] 66)) wc.heap.size 66 [.int .i64 0, .string ⟨#[]⟩, .int .i64 p, .int .i64 q]) := Blk.new wc 66 _
    have HX0 : Hid (Ex w wc) := ((Ex.refl w).alloc _).trans hX5
    have HlX : Hid (w.heap.size + 1 ≤ wc.heap.size) := by
      have h9 := hX5.below.size
      rw [World.size_alloc] at h9
      exact h9
    clear hX5 hB5
    go_upto_region 18 with fail
    refine world_gen (fun wx => Hid (Blk wx wc.heap.size 66 [.int .i64 4, .string ⟨#[]⟩, .int .i64 p, .int .i64 q]) ∧ Hid (Blk wx g 82 [.string s, .int .i64 i]) ∧ Hid (Blk wx w.heap.size 66 [.int .i64 0, .string ⟨#[]⟩, .int .i64 0, .int .i64 0]) ∧ Hid (Ex w wx)) ⟨Blk.new wc 66 _, HBg.out.alloc _, HR.out.alloc _, HX0.out.alloc _⟩ ?_
    clear HR HBg H7
    generalize wc.heap.size = b7 at *
    rintro wd ⟨HB7, HBg, HR, HX⟩
    have wR := HR.out.lt
    have wG := HBg.out.lt
    have w7 := HB7.out.lt
    have e0 : wd.cell? ⟨b7, 0, none⟩ = some (.int .i64 4) := HB7.out.cell 0
    have e1 : wd.cell? ⟨b7, 1, none⟩ = some (.string ⟨#[]⟩) := HB7.out.cell 1
    have e2 : wd.cell? ⟨b7, 2, none⟩ = some (.int .i64 p) := HB7.out.cell 2
    have e3 : wd.cell? ⟨b7, 3, none⟩ = some (.int .i64 q) := HB7.out.cell 3
    have g1 : wd.cell? ⟨g, 1, none⟩ = some (.int .i64 i) := HBg.out.cell 1
    have g2 := HBg.out.frozen 1
    have r0 : wd.cell? ⟨w.heap.size, 0, none⟩ = some (.int .i64 0) := HR.out.cell 0
    have r1 : wd.cell? ⟨w.heap.size, 1, none⟩ = some (.string ⟨#[]⟩) := HR.out.cell 1
    have r2 : wd.cell? ⟨w.heap.size, 2, none⟩ = some (.int .i64 0) := HR.out.cell 2
    have r3 : wd.cell? ⟨w.heap.size, 3, none⟩ = some (.int .i64 0) := HR.out.cell 3
    have s0 := HR.out.frozen 0
    have s1 := HR.out.frozen 1
    have s2 := HR.out.frozen 2
    have s3 := HR.out.frozen 3
    have n1 : w.heap.size ≠ g := by omega
    have n2 : b7 ≠ g := HB7.out.ne HBg.out (by decide)
    have n1' := n1.symm
    have n2' := n2.symm
    go_region
    go_wp2_with fail
    obtain ⟨o1, o2, o3⟩ := word_out (.int .i64 ((i + 0 : Nat) : Int)) (.int .i64 4) (.string ⟨#[]⟩) (.int .i64 p) (.int .i64 q) HX.out HB.out HBg.out HR.out
    exact bodyPost_ret (results_word_tmp (v := .int .i64 0) rfl rfl rfl o1) rfl ⟨rfl, o2, o3⟩
set_option maxHeartbeats 1600000 in
theorem word_num (s D : ByteArray) (g i : Nat) (w : World) (h : s.size ≤ 16384) (hi : i ≤ s.size) (hD : s.extract i s.size = D) (hB : Blk w g 82 [.string s, .int .i64 i]) (hE : Env w) (hDs : D.size ≤ 16384) (h0 : 0 < D.size) (hd : digB D[0] = true) :
    Calls Tryz.prog 76 #[.pointer (some ⟨g, 0, none⟩)] w (WordR w g s i 1 (spanL digB D.data.toList) (numE (D.data.toList.take (spanL digB D.data.toList))) (posF (s.data.toList.take i)) (D.extract 0 (spanL digB D.data.toList))) := by
  have f1 : D.toList.isEmpty = false := by rw [nonempty_iff]; exact decide_eq_false (by omega)
  have HD0 := Lib.hid (digit_c D[0])
  rw [hd] at HD0
  have HSp := Lib.hid (fun w => span_digit D w (by omega))
  have hN := span_le digB D.data.toList
  have hN0 := span_pos D digB h0 hd
  have hall := take_all digB D.data.toList
  rw [← size_data] at hN
  generalize spanL digB D.data.toList = N at *
  obtain ⟨T, hT⟩ : ∃ T, D.extract 0 N = T := ⟨_, rfl⟩
  have hTl : T.data.toList = D.data.toList.take N := by rw [← hT, extract_take]
  have hTs : T.size = N := by rw [size_data, hTl, List.length_take, ← size_data]; omega
  rw [← hTl] at hall
  have HNu := Lib.hid (fun w hE => number_c T w hE (by omega) (by omega) hall)
  have HEnv := Lib.hid (fun w' (hx : Ex w w') => hE.ex hx)
  rw [← hTl, hT]
  clear hall hE hTl
  generalize numE T.data.toList = E at *
  have H1 := Lib.hid (fun w => place_c s i w h hi)
  have lg := hB.lt
  have hc0 : w.cell? ⟨g, 0, none⟩ = some (.string s) := hB.cell 0
  have hc1 : w.cell? ⟨g, 1, none⟩ = some (.int .i64 i) := hB.cell 1
  have HB := Lib.hid hB
  unfold PosE at H1
  unfold WordR
  generalize posF (s.data.toList.take i) = P at *
  obtain ⟨p, q⟩ := P
  dsimp only at H1 ⊢
  clear hB
  have f0 : (w.alloc (.cells #[.int .i64 0, .string ⟨#[]⟩, .int .i64 0, .int .i64 0] 66)).cell? ⟨g, 0, none⟩ = some (.string s) := ((HB.out.alloc _).cell 0)
  have f2 : (w.alloc (.cells #[.int .i64 0, .string ⟨#[]⟩, .int .i64 0, .int .i64 0] 66)).cell? ⟨g, 1, none⟩ = some (.int .i64 i) := ((HB.out.alloc _).cell 1)
  have HP : Hid (Blk ((w.alloc (.cells #[.int .i64 0, .string ⟨#[]⟩, .int .i64 0, .int .i64 0] 66)).alloc (.cells #[.int .i64 0, .int .i64 0] 39)) (w.heap.size + 1) 39 [.int .i64 0, .int .i64 0]) := Blk.new' _ (by simp) 39 _
  have HE : Hid (Ex (w.alloc (.cells #[.int .i64 0, .string ⟨#[]⟩, .int .i64 0, .int .i64 0] 66)) ((w.alloc (.cells #[.int .i64 0, .string ⟨#[]⟩, .int .i64 0, .int .i64 0] 66)).alloc (.cells #[.int .i64 0, .int .i64 0] 39)).drew.drew) := (((Ex.refl _).alloc _).drew).drew
  have hle : ∀ {j}, (w.alloc (.cells #[.int .i64 0, .string ⟨#[]⟩, .int .i64 0, .int .i64 0] 66)).heap.size ≤ (⟨w.heap.size + 1, j, none⟩ : Addr).block := by intro j; simp
  go_enter Tryz.func76, Tryz.ntmps76
  go_upto_region 1 with fail
  go_region
  go_upto_region 2 with fail
  go_cut [5, 6] (fun s5 s6 wx => ∃ b5, s5 = .pointer (some ⟨b5, 0, none⟩) ∧ s6 = .int .i64 0 ∧ w.heap.size < b5 ∧ Blk wx b5 39 [.int .i64 p, .int .i64 q] ∧ Ex (w.alloc (.cells #[.int .i64 0, .string ⟨#[]⟩, .int .i64 0, .int .i64 0] 66)) wx)
  case first =>
    go_region_held3 (fun w' => w'.cell? ⟨g, 0, none⟩ = some (.string s) ∧ w'.cell? ⟨g, 1, none⟩ = some (.int .i64 i))
      (first | exact ⟨f0, f2⟩ | exact ⟨k0, k1⟩ | (refine ⟨Blk.cell (cs := [.string s, .int .i64 i]) (t := 82) ?_ 0, Blk.cell (cs := [.string s, .int .i64 i]) (t := 82) ?_ 1⟩ <;> repeat (first | exact HB.out | exact hb9 | apply Blk.drew | apply Blk.alloc | refine Blk.far ?_ (by show g ≠ _ + 1; omega) _)))
      (first | (go_at_call 105; refine (H1.out _).mono ?_; rintro e w' ⟨rfl, z, rfl⟩; have hb9 : Blk (ext _ z) g 82 [.string s, .int .i64 i] := Blk.ex (by repeat (first | exact HB.out | apply Blk.drew | apply Blk.alloc)) ⟨z, rfl⟩; have k0 := hb9.cell 0; have k1 := hb9.cell 1))
    · go_wp2_with fail
      go_meet
      exact ⟨_, rfl, rfl, by show _ < (ext _ z).heap.size; exact Nat.lt_of_lt_of_le (by simp) z.h.size, Blk.new _ 39 _, ((((Ex.refl _).drew).drew).ext z).alloc _⟩
    · go_wp2_with fail
      go_meet
      exact ⟨_, rfl, rfl, Nat.lt_succ_self _, ((Blk.ex (HP.out.drew.drew) ⟨z, rfl⟩).set_ 0 _).set_ 1 _, ((HE.out.ext z).setCell (hle (j := 0)) _).setCell (hle (j := 1)) _⟩
  case rest =>
    obtain ⟨b5, rfl, rfl, hb5, hB5, hX5⟩ := hcut
    clear HP HE hle f0 f2 H1 hc0 hc1
    have HR := Lib.hid ((Blk.new w 66 [.int .i64 0, .string ⟨#[]⟩, .int .i64 0, .int .i64 0]).ex hX5)
    have HBg := Lib.hid ((HB.out.alloc (.cells #[.int .i64 0, .string ⟨#[]⟩, .int .i64 0, .int .i64 0] 66)).ex hX5)
    have c50 : wc.cell? ⟨b5, 0, none⟩ = some (.int .i64 p) := hB5.cell 0
    have c51 : wc.cell? ⟨b5, 1, none⟩ = some (.int .i64 q) := hB5.cell 1
    have l5 := hB5.lt
    have lR := HR.out.lt
    have lG := HBg.out.lt
    have H7 : Hid (Blk (wc.alloc (.cells #[.int .i64 0, .string ⟨#[]⟩, .int .i64 p, .int .i64 q] 66)) wc.heap.size 66 [.int .i64 0, .string ⟨#[]⟩, .int .i64 p, .int .i64 q]) := Blk.new wc 66 _
    have HX0 : Hid (Ex w wc) := ((Ex.refl w).alloc _).trans hX5
    have HlX : Hid (w.heap.size + 1 ≤ wc.heap.size) := by
      have h9 := hX5.below.size
      rw [World.size_alloc] at h9
      exact h9
    clear hX5 hB5
    go_upto_region 12 with (go_at_call 87; refine (HD0.out _).mono ?_; rintro e w' ⟨rfl, z, rfl⟩)
    refine world_gen (fun wx => Hid (Blk wx wc.heap.size 66 [.int .i64 0, .string ⟨#[]⟩, .int .i64 p, .int .i64 q]) ∧ Hid (Blk wx g 82 [.string s, .int .i64 i]) ∧ Hid (Blk wx w.heap.size 66 [.int .i64 0, .string ⟨#[]⟩, .int .i64 0, .int .i64 0]) ∧ Hid (Ex w wx)) ⟨(H7.out).ex ⟨_, rfl⟩, (HBg.out.alloc _).ex ⟨_, rfl⟩, (HR.out.alloc _).ex ⟨_, rfl⟩, (HX0.out.alloc _).ext _⟩ ?_
    clear HR HBg H7
    clear c50 c51 l5 HX0
    generalize wc.heap.size = b7 at *
    rintro wd ⟨HB7, HBg, HR, HX⟩
    have nR : ∀ {j}, w.heap.size ≠ (⟨b7, j, none⟩ : Addr).block := by intro j; show _ ≠ b7; omega
    have nG : ∀ {j}, g ≠ (⟨b7, j, none⟩ : Addr).block := by intro j; show _ ≠ b7; omega
    have le7 : ∀ {j}, w.heap.size ≤ (⟨b7, j, none⟩ : Addr).block := by intro j; show _ ≤ b7; omega
    have w7 := HB7.out.lt
    have e0 : wd.cell? ⟨b7, 0, none⟩ = some (.int .i64 0) := HB7.out.cell 0
    have e1 : wd.cell? ⟨b7, 1, none⟩ = some (.string ⟨#[]⟩) := HB7.out.cell 1
    have s0 := HB7.out.frozen 0
    have s1 := HB7.out.frozen 1
    go_cut [] (fun wx => Hid (Blk wx b7 66 [.int .i64 1, .string T, .int .i64 p, .int .i64 q]) ∧ Hid (Blk wx g 82 [.string s, .int .i64 i]) ∧ Hid (Blk wx w.heap.size 66 [.int .i64 0, .string ⟨#[]⟩, .int .i64 0, .int .i64 0]) ∧ Hid (Ex w wx))
    case first =>
      go_region_with (go_at_call 58; refine (HSp.out _).mono ?_; rintro e w' ⟨rfl, z, rfl⟩; have hb9 : ∃ kk : Int, Blk (ext _ z) b7 66 [.int .i64 kk, .string ⟨#[]⟩, .int .i64 p, .int .i64 q] := (by first | exact ⟨_, (HB7.out.drew).ex ⟨z, rfl⟩⟩ | exact ⟨_, HB7.out.ex ⟨z, rfl⟩⟩ | exact ⟨_, ((HB7.out.set_ 0 _).drew).ex ⟨z, rfl⟩⟩ | exact ⟨_, (HB7.out.set_ 0 _).ex ⟨z, rfl⟩⟩); obtain ⟨kk, hb9⟩ := hb9; have k0 : (ext _ z).cell? ⟨b7, 0, none⟩ = some (.int .i64 kk) := hb9.cell 0; have k1 : (ext _ z).cell? ⟨b7, 1, none⟩ = some (.string ⟨#[]⟩) := hb9.cell 1; have k2 := hb9.frozen 0; have k3 := hb9.frozen 1; have k4 := hb9.lt; clear hb9)
      go_wp2_with fail
      go_meet
      exact ⟨((HB7.out.drew.ex ⟨z, rfl⟩).set_ 0 _).set_ 1 _, ((HBg.out.drew.ex ⟨z, rfl⟩).far (nG (j := 0)) _).far (nG (j := 1)) _, ((HR.out.drew.ex ⟨z, rfl⟩).far (nR (j := 0)) _).far (nR (j := 1)) _, ((HX.out.drew.ext z).setCell (le7 (j := 0)) _).setCell (le7 (j := 1)) _⟩
    case rest =>
    replace HB7 := hcut.1
    replace HBg := hcut.2.1
    replace HR := hcut.2.2.1
    replace HX := hcut.2.2.2
    clear hcut e0 e1 s0 s1
    have w7 := HB7.out.lt
    have e1 : wc.cell? ⟨b7, 1, none⟩ = some (.string T) := HB7.out.cell 1
    go_upto_region 18 with (go_at_call 106; refine (HNu.out _ (HEnv.out _ HX.out)).mono ?_; rintro e w' ⟨rfl, z, rfl⟩)
    refine world_gen (fun wx => Hid (Blk wx b7 66 [.int .i64 1, .string T, .int .i64 p, .int .i64 q]) ∧ Hid (Blk wx g 82 [.string s, .int .i64 i]) ∧ Hid (Blk wx w.heap.size 66 [.int .i64 0, .string ⟨#[]⟩, .int .i64 0, .int .i64 0]) ∧ Hid (Ex w wx)) ⟨HB7.out.ex ⟨_, rfl⟩, HBg.out.ex ⟨_, rfl⟩, HR.out.ex ⟨_, rfl⟩, HX.out.ext _⟩ ?_
    clear HR HBg HB7 HX
    rintro wd ⟨HB7, HBg, HR, HX⟩
    have wR := HR.out.lt
    have wG := HBg.out.lt
    have w7 := HB7.out.lt
    have e0 : wd.cell? ⟨b7, 0, none⟩ = some (.int .i64 1) := HB7.out.cell 0
    have e1 : wd.cell? ⟨b7, 1, none⟩ = some (.string T) := HB7.out.cell 1
    have e2 : wd.cell? ⟨b7, 2, none⟩ = some (.int .i64 p) := HB7.out.cell 2
    have e3 : wd.cell? ⟨b7, 3, none⟩ = some (.int .i64 q) := HB7.out.cell 3
    have g1 : wd.cell? ⟨g, 1, none⟩ = some (.int .i64 i) := HBg.out.cell 1
    have g2 := HBg.out.frozen 1
    have r0 : wd.cell? ⟨w.heap.size, 0, none⟩ = some (.int .i64 0) := HR.out.cell 0
    have r1 : wd.cell? ⟨w.heap.size, 1, none⟩ = some (.string ⟨#[]⟩) := HR.out.cell 1
    have r2 : wd.cell? ⟨w.heap.size, 2, none⟩ = some (.int .i64 0) := HR.out.cell 2
    have r3 : wd.cell? ⟨w.heap.size, 3, none⟩ = some (.int .i64 0) := HR.out.cell 3
    have s0 := HR.out.frozen 0
    have s1 := HR.out.frozen 1
    have s2 := HR.out.frozen 2
    have s3 := HR.out.frozen 3
    have n1 : w.heap.size ≠ g := by omega
    have n2 : b7 ≠ g := HB7.out.ne HBg.out (by decide)
    have n1' := n1.symm
    have n2' := n2.symm
    go_region
    go_wp2_with fail
    have hc : (i : Int) + (N : Int) = ((i + N : Nat) : Int) := by omega
    rw [hc]
    obtain ⟨o1, o2, o3⟩ := word_out (.int .i64 ((i + N : Nat) : Int)) (.int .i64 1) (.string T) (.int .i64 p) (.int .i64 q) HX.out HB.out HBg.out HR.out
    exact bodyPost_ret (results_word_tmp (v := .int .i64 E) rfl rfl rfl o1) rfl ⟨rfl, o2, o3⟩
set_option maxHeartbeats 1600000 in
theorem word_name (s D : ByteArray) (g i : Nat) (w : World) (h : s.size ≤ 16384) (hi : i ≤ s.size) (hD : s.extract i s.size = D) (hB : Blk w g 82 [.string s, .int .i64 i]) (hDs : D.size ≤ 16384) (h0 : 0 < D.size) (hd : digB D[0] = false) (hl : letB D[0] = true) (h16 : spanL partB D.data.toList ≤ 16) :
    Calls Tryz.prog 76 #[.pointer (some ⟨g, 0, none⟩)] w (WordR w g s i 2 (spanL partB D.data.toList) 0 (posF (s.data.toList.take i)) (D.extract 0 (spanL partB D.data.toList))) := by
  have f1 : D.toList.isEmpty = false := by rw [nonempty_iff]; exact decide_eq_false (by omega)
  have HD0 := Lib.hid (digit_c D[0])
  rw [hd] at HD0
  have HL0 := Lib.hid (letter_c D[0])
  rw [hl] at HL0
  have HSp := Lib.hid (fun w => span_part D w (by omega))
  have hN := span_le partB D.data.toList
  rw [← size_data] at hN
  generalize spanL partB D.data.toList = N at *
  obtain ⟨T, hT⟩ : ∃ T, D.extract 0 N = T := ⟨_, rfl⟩
  have hTl : T.data.toList = D.data.toList.take N := by rw [← hT, extract_take]
  have hTs : T.size = N := by rw [size_data, hTl, List.length_take, ← size_data]; omega
  rw [hT]
  clear hTl
  have hb : decide (16 < (N : Int)) = false := decide_eq_false (by omega)
  have H1 := Lib.hid (fun w => place_c s i w h hi)
  have lg := hB.lt
  have hc0 : w.cell? ⟨g, 0, none⟩ = some (.string s) := hB.cell 0
  have hc1 : w.cell? ⟨g, 1, none⟩ = some (.int .i64 i) := hB.cell 1
  have HB := Lib.hid hB
  unfold PosE at H1
  unfold WordR
  generalize posF (s.data.toList.take i) = P at *
  obtain ⟨p, q⟩ := P
  dsimp only at H1 ⊢
  clear hB
  have f0 : (w.alloc (.cells #[.int .i64 0, .string ⟨#[]⟩, .int .i64 0, .int .i64 0] 66)).cell? ⟨g, 0, none⟩ = some (.string s) := ((HB.out.alloc _).cell 0)
  have f2 : (w.alloc (.cells #[.int .i64 0, .string ⟨#[]⟩, .int .i64 0, .int .i64 0] 66)).cell? ⟨g, 1, none⟩ = some (.int .i64 i) := ((HB.out.alloc _).cell 1)
  have HP : Hid (Blk ((w.alloc (.cells #[.int .i64 0, .string ⟨#[]⟩, .int .i64 0, .int .i64 0] 66)).alloc (.cells #[.int .i64 0, .int .i64 0] 39)) (w.heap.size + 1) 39 [.int .i64 0, .int .i64 0]) := Blk.new' _ (by simp) 39 _
  have HE : Hid (Ex (w.alloc (.cells #[.int .i64 0, .string ⟨#[]⟩, .int .i64 0, .int .i64 0] 66)) ((w.alloc (.cells #[.int .i64 0, .string ⟨#[]⟩, .int .i64 0, .int .i64 0] 66)).alloc (.cells #[.int .i64 0, .int .i64 0] 39)).drew.drew) := (((Ex.refl _).alloc _).drew).drew
  have hle : ∀ {j}, (w.alloc (.cells #[.int .i64 0, .string ⟨#[]⟩, .int .i64 0, .int .i64 0] 66)).heap.size ≤ (⟨w.heap.size + 1, j, none⟩ : Addr).block := by intro j; simp
  go_enter Tryz.func76, Tryz.ntmps76
  go_upto_region 1 with fail
  go_region
  go_upto_region 2 with fail
  go_cut [5, 6] (fun s5 s6 wx => ∃ b5, s5 = .pointer (some ⟨b5, 0, none⟩) ∧ s6 = .int .i64 0 ∧ w.heap.size < b5 ∧ Blk wx b5 39 [.int .i64 p, .int .i64 q] ∧ Ex (w.alloc (.cells #[.int .i64 0, .string ⟨#[]⟩, .int .i64 0, .int .i64 0] 66)) wx)
  case first =>
    go_region_held3 (fun w' => w'.cell? ⟨g, 0, none⟩ = some (.string s) ∧ w'.cell? ⟨g, 1, none⟩ = some (.int .i64 i))
      (first | exact ⟨f0, f2⟩ | exact ⟨k0, k1⟩ | (refine ⟨Blk.cell (cs := [.string s, .int .i64 i]) (t := 82) ?_ 0, Blk.cell (cs := [.string s, .int .i64 i]) (t := 82) ?_ 1⟩ <;> repeat (first | exact HB.out | exact hb9 | apply Blk.drew | apply Blk.alloc | refine Blk.far ?_ (by show g ≠ _ + 1; omega) _)))
      (first | (go_at_call 105; refine (H1.out _).mono ?_; rintro e w' ⟨rfl, z, rfl⟩; have hb9 : Blk (ext _ z) g 82 [.string s, .int .i64 i] := Blk.ex (by repeat (first | exact HB.out | apply Blk.drew | apply Blk.alloc)) ⟨z, rfl⟩; have k0 := hb9.cell 0; have k1 := hb9.cell 1))
    · go_wp2_with fail
      go_meet
      exact ⟨_, rfl, rfl, by show _ < (ext _ z).heap.size; exact Nat.lt_of_lt_of_le (by simp) z.h.size, Blk.new _ 39 _, ((((Ex.refl _).drew).drew).ext z).alloc _⟩
    · go_wp2_with fail
      go_meet
      exact ⟨_, rfl, rfl, Nat.lt_succ_self _, ((Blk.ex (HP.out.drew.drew) ⟨z, rfl⟩).set_ 0 _).set_ 1 _, ((HE.out.ext z).setCell (hle (j := 0)) _).setCell (hle (j := 1)) _⟩
  case rest =>
    obtain ⟨b5, rfl, rfl, hb5, hB5, hX5⟩ := hcut
    clear HP HE hle f0 f2 H1 hc0 hc1
    have HR := Lib.hid ((Blk.new w 66 [.int .i64 0, .string ⟨#[]⟩, .int .i64 0, .int .i64 0]).ex hX5)
    have HBg := Lib.hid ((HB.out.alloc (.cells #[.int .i64 0, .string ⟨#[]⟩, .int .i64 0, .int .i64 0] 66)).ex hX5)
    have c50 : wc.cell? ⟨b5, 0, none⟩ = some (.int .i64 p) := hB5.cell 0
    have c51 : wc.cell? ⟨b5, 1, none⟩ = some (.int .i64 q) := hB5.cell 1
    have l5 := hB5.lt
    have lR := HR.out.lt
    have lG := HBg.out.lt
    have H7 : Hid (Blk (wc.alloc (.cells #[.int .i64 0, .string ⟨#[]⟩, .int .i64 p, .int .i64 q] 66)) wc.heap.size 66 [.int .i64 0, .string ⟨#[]⟩, .int .i64 p, .int .i64 q]) := Blk.new wc 66 _
    have HX0 : Hid (Ex w wc) := ((Ex.refl w).alloc _).trans hX5
    have HlX : Hid (w.heap.size + 1 ≤ wc.heap.size) := by
      have h9 := hX5.below.size
      rw [World.size_alloc] at h9
      exact h9
    clear hX5 hB5
    go_upto_region 15 with (first | (go_at_call 87; refine (HD0.out _).mono ?_; rintro e w' ⟨rfl, z, rfl⟩) | (go_at_call 57; refine (HL0.out _).mono ?_; rintro e w' ⟨rfl, z1, rfl⟩))
    refine world_gen (fun wx => Hid (Blk wx wc.heap.size 66 [.int .i64 0, .string ⟨#[]⟩, .int .i64 p, .int .i64 q]) ∧ Hid (Blk wx g 82 [.string s, .int .i64 i]) ∧ Hid (Blk wx w.heap.size 66 [.int .i64 0, .string ⟨#[]⟩, .int .i64 0, .int .i64 0]) ∧ Hid (Ex w wx)) ⟨((H7.out).ex ⟨_, rfl⟩).ex ⟨_, rfl⟩, ((HBg.out.alloc _).ex ⟨_, rfl⟩).ex ⟨_, rfl⟩, ((HR.out.alloc _).ex ⟨_, rfl⟩).ex ⟨_, rfl⟩, ((HX0.out.alloc _).ext _).ext _⟩ ?_
    clear HR HBg H7
    clear c50 c51 l5 HX0
    generalize wc.heap.size = b7 at *
    rintro wd ⟨HB7, HBg, HR, HX⟩
    have nR : ∀ {j}, w.heap.size ≠ (⟨b7, j, none⟩ : Addr).block := by intro j; show _ ≠ b7; omega
    have nG : ∀ {j}, g ≠ (⟨b7, j, none⟩ : Addr).block := by intro j; show _ ≠ b7; omega
    have le7 : ∀ {j}, w.heap.size ≤ (⟨b7, j, none⟩ : Addr).block := by intro j; show _ ≤ b7; omega
    have w7 := HB7.out.lt
    have e0 : wd.cell? ⟨b7, 0, none⟩ = some (.int .i64 0) := HB7.out.cell 0
    have e1 : wd.cell? ⟨b7, 1, none⟩ = some (.string ⟨#[]⟩) := HB7.out.cell 1
    have s0 := HB7.out.frozen 0
    have s1 := HB7.out.frozen 1
    go_cut [] (fun wx => Hid (Blk wx b7 66 [.int .i64 2, .string T, .int .i64 p, .int .i64 q]) ∧ Hid (Blk wx g 82 [.string s, .int .i64 i]) ∧ Hid (Blk wx w.heap.size 66 [.int .i64 0, .string ⟨#[]⟩, .int .i64 0, .int .i64 0]) ∧ Hid (Ex w wx))
    case first =>
      go_region_with (go_at_call 58; refine (HSp.out _).mono ?_; rintro e w' ⟨rfl, z, rfl⟩; have hb9 : ∃ kk : Int, Blk (ext _ z) b7 66 [.int .i64 kk, .string ⟨#[]⟩, .int .i64 p, .int .i64 q] := (by first | exact ⟨_, (HB7.out.drew).ex ⟨z, rfl⟩⟩ | exact ⟨_, HB7.out.ex ⟨z, rfl⟩⟩ | exact ⟨_, ((HB7.out.set_ 0 _).drew).ex ⟨z, rfl⟩⟩ | exact ⟨_, (HB7.out.set_ 0 _).ex ⟨z, rfl⟩⟩); obtain ⟨kk, hb9⟩ := hb9; have k0 : (ext _ z).cell? ⟨b7, 0, none⟩ = some (.int .i64 kk) := hb9.cell 0; have k1 : (ext _ z).cell? ⟨b7, 1, none⟩ = some (.string ⟨#[]⟩) := hb9.cell 1; have k2 := hb9.frozen 0; have k3 := hb9.frozen 1; have k4 := hb9.lt; clear hb9)
      go_wp2_with fail
      go_meet
      exact ⟨((HB7.out.drew.ex ⟨z, rfl⟩).set_ 0 _).set_ 1 _, ((HBg.out.drew.ex ⟨z, rfl⟩).far (nG (j := 0)) _).far (nG (j := 1)) _, ((HR.out.drew.ex ⟨z, rfl⟩).far (nR (j := 0)) _).far (nR (j := 1)) _, ((HX.out.drew.ext z).setCell (le7 (j := 0)) _).setCell (le7 (j := 1)) _⟩
    case rest =>
    replace HB7 := hcut.1
    replace HBg := hcut.2.1
    replace HR := hcut.2.2.1
    replace HX := hcut.2.2.2
    clear hcut e0 e1 s0 s1
    have w7 := HB7.out.lt
    have e1 : wc.cell? ⟨b7, 1, none⟩ = some (.string T) := HB7.out.cell 1
    go_upto_region 18 with fail
    refine world_gen (fun wx => Hid (Blk wx b7 66 [.int .i64 2, .string T, .int .i64 p, .int .i64 q]) ∧ Hid (Blk wx g 82 [.string s, .int .i64 i]) ∧ Hid (Blk wx w.heap.size 66 [.int .i64 0, .string ⟨#[]⟩, .int .i64 0, .int .i64 0]) ∧ Hid (Ex w wx)) ⟨HB7.out, HBg.out, HR.out, HX.out⟩ ?_
    clear HR HBg HB7 HX
    rintro wd ⟨HB7, HBg, HR, HX⟩
    have wR := HR.out.lt
    have wG := HBg.out.lt
    have w7 := HB7.out.lt
    have e0 : wd.cell? ⟨b7, 0, none⟩ = some (.int .i64 2) := HB7.out.cell 0
    have e1 : wd.cell? ⟨b7, 1, none⟩ = some (.string T) := HB7.out.cell 1
    have e2 : wd.cell? ⟨b7, 2, none⟩ = some (.int .i64 p) := HB7.out.cell 2
    have e3 : wd.cell? ⟨b7, 3, none⟩ = some (.int .i64 q) := HB7.out.cell 3
    have g1 : wd.cell? ⟨g, 1, none⟩ = some (.int .i64 i) := HBg.out.cell 1
    have g2 := HBg.out.frozen 1
    have r0 : wd.cell? ⟨w.heap.size, 0, none⟩ = some (.int .i64 0) := HR.out.cell 0
    have r1 : wd.cell? ⟨w.heap.size, 1, none⟩ = some (.string ⟨#[]⟩) := HR.out.cell 1
    have r2 : wd.cell? ⟨w.heap.size, 2, none⟩ = some (.int .i64 0) := HR.out.cell 2
    have r3 : wd.cell? ⟨w.heap.size, 3, none⟩ = some (.int .i64 0) := HR.out.cell 3
    have s0 := HR.out.frozen 0
    have s1 := HR.out.frozen 1
    have s2 := HR.out.frozen 2
    have s3 := HR.out.frozen 3
    have n1 : w.heap.size ≠ g := by omega
    have n2 : b7 ≠ g := HB7.out.ne HBg.out (by decide)
    have n1' := n1.symm
    have n2' := n2.symm
    go_region
    go_wp2_with fail
    have hc : (i : Int) + (N : Int) = ((i + N : Nat) : Int) := by omega
    rw [hc]
    obtain ⟨o1, o2, o3⟩ := word_out (.int .i64 ((i + N : Nat) : Int)) (.int .i64 2) (.string T) (.int .i64 p) (.int .i64 q) HX.out HB.out HBg.out HR.out
    exact bodyPost_ret (results_word_tmp (v := .int .i64 0) rfl rfl rfl o1) rfl ⟨rfl, o2, o3⟩
set_option maxHeartbeats 1600000 in
theorem word_name_big (s D : ByteArray) (g i : Nat) (w : World) (h : s.size ≤ 16384) (hi : i ≤ s.size) (hD : s.extract i s.size = D) (hB : Blk w g 82 [.string s, .int .i64 i]) (hDs : D.size ≤ 16384) (h0 : 0 < D.size) (hd : digB D[0] = false) (hl : letB D[0] = true) (h16 : 16 < spanL partB D.data.toList) :
    Calls Tryz.prog 76 #[.pointer (some ⟨g, 0, none⟩)] w (WordR w g s i 2 (spanL partB D.data.toList) 13 (posF (s.data.toList.take i)) (D.extract 0 (spanL partB D.data.toList))) := by
  have f1 : D.toList.isEmpty = false := by rw [nonempty_iff]; exact decide_eq_false (by omega)
  have HD0 := Lib.hid (digit_c D[0])
  rw [hd] at HD0
  have HL0 := Lib.hid (letter_c D[0])
  rw [hl] at HL0
  have HSp := Lib.hid (fun w => span_part D w (by omega))
  have hN := span_le partB D.data.toList
  rw [← size_data] at hN
  generalize spanL partB D.data.toList = N at *
  obtain ⟨T, hT⟩ : ∃ T, D.extract 0 N = T := ⟨_, rfl⟩
  have hTl : T.data.toList = D.data.toList.take N := by rw [← hT, extract_take]
  have hTs : T.size = N := by rw [size_data, hTl, List.length_take, ← size_data]; omega
  rw [hT]
  clear hTl
  have hb : decide (16 < (N : Int)) = true := decide_eq_true (by omega)
  have H1 := Lib.hid (fun w => place_c s i w h hi)
  have lg := hB.lt
  have hc0 : w.cell? ⟨g, 0, none⟩ = some (.string s) := hB.cell 0
  have hc1 : w.cell? ⟨g, 1, none⟩ = some (.int .i64 i) := hB.cell 1
  have HB := Lib.hid hB
  unfold PosE at H1
  unfold WordR
  generalize posF (s.data.toList.take i) = P at *
  obtain ⟨p, q⟩ := P
  dsimp only at H1 ⊢
  clear hB
  have f0 : (w.alloc (.cells #[.int .i64 0, .string ⟨#[]⟩, .int .i64 0, .int .i64 0] 66)).cell? ⟨g, 0, none⟩ = some (.string s) := ((HB.out.alloc _).cell 0)
  have f2 : (w.alloc (.cells #[.int .i64 0, .string ⟨#[]⟩, .int .i64 0, .int .i64 0] 66)).cell? ⟨g, 1, none⟩ = some (.int .i64 i) := ((HB.out.alloc _).cell 1)
  have HP : Hid (Blk ((w.alloc (.cells #[.int .i64 0, .string ⟨#[]⟩, .int .i64 0, .int .i64 0] 66)).alloc (.cells #[.int .i64 0, .int .i64 0] 39)) (w.heap.size + 1) 39 [.int .i64 0, .int .i64 0]) := Blk.new' _ (by simp) 39 _
  have HE : Hid (Ex (w.alloc (.cells #[.int .i64 0, .string ⟨#[]⟩, .int .i64 0, .int .i64 0] 66)) ((w.alloc (.cells #[.int .i64 0, .string ⟨#[]⟩, .int .i64 0, .int .i64 0] 66)).alloc (.cells #[.int .i64 0, .int .i64 0] 39)).drew.drew) := (((Ex.refl _).alloc _).drew).drew
  have hle : ∀ {j}, (w.alloc (.cells #[.int .i64 0, .string ⟨#[]⟩, .int .i64 0, .int .i64 0] 66)).heap.size ≤ (⟨w.heap.size + 1, j, none⟩ : Addr).block := by intro j; simp
  go_enter Tryz.func76, Tryz.ntmps76
  go_upto_region 1 with fail
  go_region
  go_upto_region 2 with fail
  go_cut [5, 6] (fun s5 s6 wx => ∃ b5, s5 = .pointer (some ⟨b5, 0, none⟩) ∧ s6 = .int .i64 0 ∧ w.heap.size < b5 ∧ Blk wx b5 39 [.int .i64 p, .int .i64 q] ∧ Ex (w.alloc (.cells #[.int .i64 0, .string ⟨#[]⟩, .int .i64 0, .int .i64 0] 66)) wx)
  case first =>
    go_region_held3 (fun w' => w'.cell? ⟨g, 0, none⟩ = some (.string s) ∧ w'.cell? ⟨g, 1, none⟩ = some (.int .i64 i))
      (first | exact ⟨f0, f2⟩ | exact ⟨k0, k1⟩ | (refine ⟨Blk.cell (cs := [.string s, .int .i64 i]) (t := 82) ?_ 0, Blk.cell (cs := [.string s, .int .i64 i]) (t := 82) ?_ 1⟩ <;> repeat (first | exact HB.out | exact hb9 | apply Blk.drew | apply Blk.alloc | refine Blk.far ?_ (by show g ≠ _ + 1; omega) _)))
      (first | (go_at_call 105; refine (H1.out _).mono ?_; rintro e w' ⟨rfl, z, rfl⟩; have hb9 : Blk (ext _ z) g 82 [.string s, .int .i64 i] := Blk.ex (by repeat (first | exact HB.out | apply Blk.drew | apply Blk.alloc)) ⟨z, rfl⟩; have k0 := hb9.cell 0; have k1 := hb9.cell 1))
    · go_wp2_with fail
      go_meet
      exact ⟨_, rfl, rfl, by show _ < (ext _ z).heap.size; exact Nat.lt_of_lt_of_le (by simp) z.h.size, Blk.new _ 39 _, ((((Ex.refl _).drew).drew).ext z).alloc _⟩
    · go_wp2_with fail
      go_meet
      exact ⟨_, rfl, rfl, Nat.lt_succ_self _, ((Blk.ex (HP.out.drew.drew) ⟨z, rfl⟩).set_ 0 _).set_ 1 _, ((HE.out.ext z).setCell (hle (j := 0)) _).setCell (hle (j := 1)) _⟩
  case rest =>
    obtain ⟨b5, rfl, rfl, hb5, hB5, hX5⟩ := hcut
    clear HP HE hle f0 f2 H1 hc0 hc1
    have HR := Lib.hid ((Blk.new w 66 [.int .i64 0, .string ⟨#[]⟩, .int .i64 0, .int .i64 0]).ex hX5)
    have HBg := Lib.hid ((HB.out.alloc (.cells #[.int .i64 0, .string ⟨#[]⟩, .int .i64 0, .int .i64 0] 66)).ex hX5)
    have c50 : wc.cell? ⟨b5, 0, none⟩ = some (.int .i64 p) := hB5.cell 0
    have c51 : wc.cell? ⟨b5, 1, none⟩ = some (.int .i64 q) := hB5.cell 1
    have l5 := hB5.lt
    have lR := HR.out.lt
    have lG := HBg.out.lt
    have H7 : Hid (Blk (wc.alloc (.cells #[.int .i64 0, .string ⟨#[]⟩, .int .i64 p, .int .i64 q] 66)) wc.heap.size 66 [.int .i64 0, .string ⟨#[]⟩, .int .i64 p, .int .i64 q]) := Blk.new wc 66 _
    have HX0 : Hid (Ex w wc) := ((Ex.refl w).alloc _).trans hX5
    have HlX : Hid (w.heap.size + 1 ≤ wc.heap.size) := by
      have h9 := hX5.below.size
      rw [World.size_alloc] at h9
      exact h9
    clear hX5 hB5
    go_upto_region 15 with (first | (go_at_call 87; refine (HD0.out _).mono ?_; rintro e w' ⟨rfl, z, rfl⟩) | (go_at_call 57; refine (HL0.out _).mono ?_; rintro e w' ⟨rfl, z1, rfl⟩))
    refine world_gen (fun wx => Hid (Blk wx wc.heap.size 66 [.int .i64 0, .string ⟨#[]⟩, .int .i64 p, .int .i64 q]) ∧ Hid (Blk wx g 82 [.string s, .int .i64 i]) ∧ Hid (Blk wx w.heap.size 66 [.int .i64 0, .string ⟨#[]⟩, .int .i64 0, .int .i64 0]) ∧ Hid (Ex w wx)) ⟨((H7.out).ex ⟨_, rfl⟩).ex ⟨_, rfl⟩, ((HBg.out.alloc _).ex ⟨_, rfl⟩).ex ⟨_, rfl⟩, ((HR.out.alloc _).ex ⟨_, rfl⟩).ex ⟨_, rfl⟩, ((HX0.out.alloc _).ext _).ext _⟩ ?_
    clear HR HBg H7
    clear c50 c51 l5 HX0
    generalize wc.heap.size = b7 at *
    rintro wd ⟨HB7, HBg, HR, HX⟩
    have nR : ∀ {j}, w.heap.size ≠ (⟨b7, j, none⟩ : Addr).block := by intro j; show _ ≠ b7; omega
    have nG : ∀ {j}, g ≠ (⟨b7, j, none⟩ : Addr).block := by intro j; show _ ≠ b7; omega
    have le7 : ∀ {j}, w.heap.size ≤ (⟨b7, j, none⟩ : Addr).block := by intro j; show _ ≤ b7; omega
    have w7 := HB7.out.lt
    have e0 : wd.cell? ⟨b7, 0, none⟩ = some (.int .i64 0) := HB7.out.cell 0
    have e1 : wd.cell? ⟨b7, 1, none⟩ = some (.string ⟨#[]⟩) := HB7.out.cell 1
    have s0 := HB7.out.frozen 0
    have s1 := HB7.out.frozen 1
    go_cut [] (fun wx => Hid (Blk wx b7 66 [.int .i64 2, .string T, .int .i64 p, .int .i64 q]) ∧ Hid (Blk wx g 82 [.string s, .int .i64 i]) ∧ Hid (Blk wx w.heap.size 66 [.int .i64 0, .string ⟨#[]⟩, .int .i64 0, .int .i64 0]) ∧ Hid (Ex w wx))
    case first =>
      go_region_with (go_at_call 58; refine (HSp.out _).mono ?_; rintro e w' ⟨rfl, z, rfl⟩; have hb9 : ∃ kk : Int, Blk (ext _ z) b7 66 [.int .i64 kk, .string ⟨#[]⟩, .int .i64 p, .int .i64 q] := (by first | exact ⟨_, (HB7.out.drew).ex ⟨z, rfl⟩⟩ | exact ⟨_, HB7.out.ex ⟨z, rfl⟩⟩ | exact ⟨_, ((HB7.out.set_ 0 _).drew).ex ⟨z, rfl⟩⟩ | exact ⟨_, (HB7.out.set_ 0 _).ex ⟨z, rfl⟩⟩); obtain ⟨kk, hb9⟩ := hb9; have k0 : (ext _ z).cell? ⟨b7, 0, none⟩ = some (.int .i64 kk) := hb9.cell 0; have k1 : (ext _ z).cell? ⟨b7, 1, none⟩ = some (.string ⟨#[]⟩) := hb9.cell 1; have k2 := hb9.frozen 0; have k3 := hb9.frozen 1; have k4 := hb9.lt; clear hb9)
      go_wp2_with fail
      go_meet
      exact ⟨((HB7.out.drew.ex ⟨z, rfl⟩).set_ 0 _).set_ 1 _, ((HBg.out.drew.ex ⟨z, rfl⟩).far (nG (j := 0)) _).far (nG (j := 1)) _, ((HR.out.drew.ex ⟨z, rfl⟩).far (nR (j := 0)) _).far (nR (j := 1)) _, ((HX.out.drew.ext z).setCell (le7 (j := 0)) _).setCell (le7 (j := 1)) _⟩
    case rest =>
    replace HB7 := hcut.1
    replace HBg := hcut.2.1
    replace HR := hcut.2.2.1
    replace HX := hcut.2.2.2
    clear hcut e0 e1 s0 s1
    have w7 := HB7.out.lt
    have e1 : wc.cell? ⟨b7, 1, none⟩ = some (.string T) := HB7.out.cell 1
    go_upto_region 18 with fail
    refine world_gen (fun wx => Hid (Blk wx b7 66 [.int .i64 2, .string T, .int .i64 p, .int .i64 q]) ∧ Hid (Blk wx g 82 [.string s, .int .i64 i]) ∧ Hid (Blk wx w.heap.size 66 [.int .i64 0, .string ⟨#[]⟩, .int .i64 0, .int .i64 0]) ∧ Hid (Ex w wx)) ⟨HB7.out, HBg.out, HR.out, HX.out⟩ ?_
    clear HR HBg HB7 HX
    rintro wd ⟨HB7, HBg, HR, HX⟩
    have wR := HR.out.lt
    have wG := HBg.out.lt
    have w7 := HB7.out.lt
    have e0 : wd.cell? ⟨b7, 0, none⟩ = some (.int .i64 2) := HB7.out.cell 0
    have e1 : wd.cell? ⟨b7, 1, none⟩ = some (.string T) := HB7.out.cell 1
    have e2 : wd.cell? ⟨b7, 2, none⟩ = some (.int .i64 p) := HB7.out.cell 2
    have e3 : wd.cell? ⟨b7, 3, none⟩ = some (.int .i64 q) := HB7.out.cell 3
    have g1 : wd.cell? ⟨g, 1, none⟩ = some (.int .i64 i) := HBg.out.cell 1
    have g2 := HBg.out.frozen 1
    have r0 : wd.cell? ⟨w.heap.size, 0, none⟩ = some (.int .i64 0) := HR.out.cell 0
    have r1 : wd.cell? ⟨w.heap.size, 1, none⟩ = some (.string ⟨#[]⟩) := HR.out.cell 1
    have r2 : wd.cell? ⟨w.heap.size, 2, none⟩ = some (.int .i64 0) := HR.out.cell 2
    have r3 : wd.cell? ⟨w.heap.size, 3, none⟩ = some (.int .i64 0) := HR.out.cell 3
    have s0 := HR.out.frozen 0
    have s1 := HR.out.frozen 1
    have s2 := HR.out.frozen 2
    have s3 := HR.out.frozen 3
    have n1 : w.heap.size ≠ g := by omega
    have n2 : b7 ≠ g := HB7.out.ne HBg.out (by decide)
    have n1' := n1.symm
    have n2' := n2.symm
    go_region
    go_wp2_with fail
    have hc : (i : Int) + (N : Int) = ((i + N : Nat) : Int) := by omega
    rw [hc]
    obtain ⟨o1, o2, o3⟩ := word_out (.int .i64 ((i + N : Nat) : Int)) (.int .i64 2) (.string T) (.int .i64 p) (.int .i64 q) HX.out HB.out HBg.out HR.out
    exact bodyPost_ret (results_word_tmp (v := .int .i64 13) rfl rfl rfl o1) rfl ⟨rfl, o2, o3⟩
end Go.Proofs.YthjalkonlcjhnaaGreatDoor
