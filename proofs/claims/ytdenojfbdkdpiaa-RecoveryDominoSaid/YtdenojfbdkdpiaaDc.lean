/-
  The law RecoveryDomino, walked.
  Conditions: as each theorem says.
-/
import Derived.Test.YtdenojfbdkdpiaaDb
import Derived.BigRegion
import Derived.Deep.RegionLaw
import Derived.Deep.Cut
import Derived.Test.YtdenojfbdkdpiaaYf
import Derived.RegionTactic
import Derived.ChangeAlike
namespace Go.Proofs.Ytdenojfbdkdpiaa
open Go.RowKit Go.Shelf
set_option maxRecDepth 100000 in
set_option maxHeartbeats 6400000 in
theorem domino_law (r n : Nat) (w : World) (hr : r ≤ 255) (hn : n = 1 + r % 20) :
    Calls Try.prog 7 #[.int .u8 (r : Int)] w (Ret w (.bool true)) := by
  have HAw := Lib.hid awake_c
  obtain ⟨i0, hi0, hz0, hz1, hz2⟩ := info_parts infoInt
  obtain ⟨j0, hj0, jz0, jz1, jz2⟩ := info_parts infoEv
  have hn1 : 1 ≤ n := by omega
  have hn20 : n ≤ 20 := by omega
  have hN : 1 + (r : Int) % 20 = (n : Int) := by omega
  have wr1 : IntKind.i64.wrap ((r : Int).tmod 20) = ((r % 20 : Nat) : Int) := by
    rw [Int.tmod_eq_emod_of_nonneg (by omega)]
    exact IntWalk.i64_in _ (by omega)
  have wr2 : IntKind.i64.wrap (1 + ((r % 20 : Nat) : Int)) = (n : Int) := by rw [hn]; exact IntWalk.i64_in _ (by omega)
  clear hn
  go_enter Try.func7, Try.ntmps7
  go_wp2_with fail
  refine (HAw.out _).mono ?_
  rintro e9 w1 ⟨rfl, hx1⟩
  have HX1 := Lib.hid hx1
  clear hx1
  go_wp2_with fail
  have hD := dom_new w1
  have hX3 : Ex w1 (((w1.alloc (.cells #[.int .i64 0] 3)).alloc (.cells #[.int .i64 0] 3)).alloc (.cells #[.slice (some ⟨w1.heap.size, 0, none⟩) 1 1, .slice (some ⟨w1.heap.size + 1, 0, none⟩) 1 1] 39)) := (((Ex.refl w1).alloc _).alloc _).alloc _
  have hnb : w1.heap.size ≤ w1.heap.size + 1 + 1 := by omega
  generalize ((w1.alloc (.cells #[.int .i64 0] 3)).alloc (.cells #[.int .i64 0] 3)).alloc (.cells #[.slice (some ⟨w1.heap.size, 0, none⟩) 1 1, .slice (some ⟨w1.heap.size + 1, 0, none⟩) 1 1] 39) = W3 at *
  have HD := Lib.hid hD
  have HX3 := Lib.hid hX3
  generalize w1.heap.size + 1 + 1 = nb at *
  clear hD hX3 wr1 wr2 hr hN
  go_loopw [4, 5, 26] (fun va vb q wr => ∃ (k : Nat) (A : Option Addr) (c : Nat) (B : Option Addr) (d : Nat) (A0 : Option Addr) (c0 : Nat) (A1 : Option Addr) (c1 : Nat), q = .int .i64 k ∧ k ≤ n ∧ va = .slice A (2 * k) c ∧ vb = .slice B (2 * k) d ∧
    Hid (Dm wr w1.heap.size nb ⟨.slice A (2 * k) c, 2 * k, devs 0 (2 * k)⟩ ⟨.slice B (2 * k) d, 2 * k, devs 1 (2 * k)⟩ ⟨.slice A0 (k + 1) c0, k + 1, intsV (bef k)⟩ ⟨.slice A1 (k + 1) c1, k + 1, intsV (bef k)⟩ ∧ Ex w1 wr)) (fun _ _ q _ => n - (intOf q).toNat)
  case atStart => exact ⟨0, none, 0, none, 0, some ⟨w1.heap.size, 0, none⟩, 1, some ⟨w1.heap.size + 1, 0, none⟩, 1, rfl, Nat.zero_le _, rfl, rfl, Lib.hid ⟨HD.out, HX3.out⟩⟩
  case round =>
    obtain ⟨k, A, c, B, d, A0, c0, A1, c1, rfl, hk, rfl, rfl, HH⟩ := hrel
    by_cases hkn : k < n
    · have m1 : (k : Int) < (n : Int) := by omega
      have q0 : IntKind.i64.wrap (2 * (k : Int)) = 2 * (k : Int) := IntWalk.i64_in _ (by omega)
      have q1 : IntKind.i64.wrap (2 * (k : Int) + 1) = 2 * (k : Int) + 1 := IntWalk.i64_in _ (by omega)
      have q2 : IntKind.i64.wrap (2 * (k : Int) + 2) = 2 * (k : Int) + 2 := IntWalk.i64_in _ (by omega)
      have HDm := Lib.hid HH.out.1
      have HXr := Lib.hid HH.out.2
      have HBs : Hid (∀ w', Ex w1 w' → w1.heap.size ≤ w'.heap.size) := fun w' h => h.below.size
      have HB := Lib.hid (HBs.out _ (HXr.out.alloc (.cells (lit0 k).toArray 61)))
      go_wp2_with (at_builtin; refine wpList_append_m _ rfl _ _ 58 rfl _ 61 j0 _ 5 56 Try.underlying58 hj0 jz0 jz1 jz2 rfl (.slice A (2 * k) c) (2 * k) (devs 0 (2 * k)) rfl (OwnO.ex HDm.out.oa ((Ex.refl _).alloc _)) 2 2 wr.heap.size (lit0 k) rfl rfl ?c1 ?c2 ?c3 ?c4 ?c5 ?_)
      try case c1 => exact news_new rfl (by simp)
      try case c2 => intro u hu; simp only [lit0, List.mem_cons, List.not_mem_nil, or_false] at hu; rcases hu with rfl | rfl | rfl | rfl | rfl | rfl | rfl | rfl | rfl | rfl <;> rfl
      try case c3 => omega
      try case c4 => omega
      try case c5 => first | exact HB.out | (have hh := HB.out; simp at hh; omega)
      intro A' c' w2 ho hg hat hEx
      have HX2 := Lib.hid (hEx _ (HXr.out.alloc _) (Nat.le_refl _))
      rw [devs_lit0, show 2 * k + 2 = 2 * (k + 1) by omega] at ho
      rw [show 2 * k + 2 = 2 * (k + 1) by omega] at hat ⊢
      have HD2 := Lib.hid (Dm.setA (a' := ⟨.slice A' (2 * (k + 1)) c', 2 * (k + 1), devs 0 (2 * (k + 1))⟩) (HDm.out.ex ((Ex.refl _).alloc _)) hg ho (hat.imp id fun h => h.trans (by simp)))
      have HB2 := Lib.hid (HBs.out _ (HX2.out.alloc (.cells (lit1 k).toArray 61)))
      clear ho hg hat hEx HB
      go_wp2_with (at_builtin; refine wpList_append_m _ rfl _ _ 58 rfl _ 61 j0 _ 5 56 Try.underlying58 hj0 jz0 jz1 jz2 rfl (.slice B (2 * k) d) (2 * k) (devs 1 (2 * k)) rfl (OwnO.ex HD2.out.ob ((Ex.refl _).alloc _)) 2 2 w2.heap.size (lit1 k) rfl rfl ?d1 ?d2 ?d3 ?d4 ?d5 ?_)
      try case d1 => exact news_new rfl (by simp)
      try case d2 => intro u hu; simp only [lit1, List.mem_cons, List.not_mem_nil, or_false] at hu; rcases hu with rfl | rfl | rfl | rfl | rfl | rfl | rfl | rfl | rfl | rfl <;> rfl
      try case d3 => omega
      try case d4 => omega
      try case d5 => first | exact HB2.out | (have hh := HB2.out; simp at hh; omega)
      intro B' d' w3 ho hg hat hEx
      have HX3 := Lib.hid (hEx _ (HX2.out.alloc _) (Nat.le_refl _))
      rw [devs_lit1, show 2 * k + 2 = 2 * (k + 1) by omega] at ho
      rw [show 2 * k + 2 = 2 * (k + 1) by omega] at hat ⊢
      have HD3 := Lib.hid (Dm.setB (b' := ⟨.slice B' (2 * (k + 1)) d', 2 * (k + 1), devs 1 (2 * (k + 1))⟩) (HD2.out.ex ((Ex.refl _).alloc _)) hg ho (hat.imp id fun h => h.trans (by simp)))
      have HB3 := Lib.hid (HBs.out _ (HX3.out.alloc (.cells #[.int .i64 (2 * (k : Int) + 2)] 3)))
      clear ho hg hat hEx HB2
      have x0 := HD3.out.blk.cell 0
      have xl := HD3.out.blk.lt
      go_wp2_with (at_builtin; refine wpList_append_m _ rfl _ _ 39 rfl _ 3 i0 _ 1 8 Try.underlying39 hi0 hz0 hz1 hz2 rfl (.slice A0 (k + 1) c0) (k + 1) (intsV (bef k)) rfl (OwnO.ex HD3.out.op ((Ex.refl _).alloc _)) 1 1 w3.heap.size [.int .i64 (2 * (k : Int) + 2)] rfl rfl ?e1 ?e2 ?e3 ?e4 ?e5 ?_)
      try case e1 => exact news_new rfl (by simp)
      try case e2 => first | exact one_ints (by simp) | rfl | (simp; done)
      try case e3 => omega
      try case e4 => omega
      try case e5 => first | exact HB3.out | (have hh := HB3.out; simp at hh; omega)
      intro A0' c0' w4 ho hg hat hEx
      have HX4 := Lib.hid (hEx _ (HX3.out.alloc _) (Nat.le_refl _))
      rw [bef_lit] at ho
      have HD4 := Lib.hid (Dm.setP (p' := ⟨.slice A0' (k + 1 + 1) c0', k + 1 + 1, intsV (bef (k + 1))⟩) (HD3.out.ex ((Ex.refl _).alloc _)) hg ho (hat.imp id fun h => h.trans (by simp)))
      have hbk := (HD3.out.ex ((Ex.refl _).alloc (.cells #[.int .i64 (2 * (k : Int) + 2)] 3))).blk.grown hg (OwnO.ne (HD3.out.ex ((Ex.refl _).alloc (.cells #[.int .i64 (2 * (k : Int) + 2)] 3))).op (HD3.out.ex ((Ex.refl _).alloc (.cells #[.int .i64 (2 * (k : Int) + 2)] 3))).blk rowInt)
      have y0 := hbk.cell 0
      have y1 := hbk.cell 1
      have yl := hbk.lt
      have yf := hbk.frozen 0
      have HX4s := Lib.hid (HX4.out.setCell (p := ⟨nb, 0, none⟩) hnb (.slice A0' (k + 1 + 1) c0'))
      have HB4 := Lib.hid (HBs.out _ (HX4s.out.alloc (.cells #[.int .i64 (2 * (k : Int) + 2)] 3)))
      have hs4 : (w4.setCell ⟨nb, 0, none⟩ (.slice A0' (k + 1 + 1) c0')).heap.size = w4.heap.size := by simp [World.setCell]
      clear ho hg hat hEx HB3 hbk x0 xl
      go_wp2_with (at_builtin; refine wpList_append_m _ rfl _ _ 39 rfl _ 3 i0 _ 1 8 Try.underlying39 hi0 hz0 hz1 hz2 rfl (.slice A1 (k + 1) c1) (k + 1) (intsV (bef k)) rfl (OwnO.ex HD4.out.oq ((Ex.refl _).alloc _)) 1 1 _ [.int .i64 (2 * (k : Int) + 2)] rfl rfl ?f1 ?f2 ?f3 ?f4 ?f5 ?_)
      try case f1 => exact news_new rfl (by simp)
      try case f2 => first | exact one_ints (by simp) | rfl | (simp; done)
      try case f3 => omega
      try case f4 => omega
      try case f5 => first | exact HB4.out | (have hh := HB4.out; simp at hh; omega)
      intro A1' c1' w5 ho hg hat hEx
      have HX5 := Lib.hid (hEx _ (HX4s.out.alloc _) (Nat.le_refl _))
      rw [bef_lit] at ho
      have HD5 := Lib.hid (Dm.setQ (q' := ⟨.slice A1' (k + 1 + 1) c1', k + 1 + 1, intsV (bef (k + 1))⟩) (HD4.out.ex ((Ex.refl _).alloc _)) hg ho (hat.imp id fun h => h.trans (by simp)))
      have hbk := (HD4.out.ex ((Ex.refl _).alloc (.cells #[.int .i64 (2 * (k : Int) + 2)] 3))).blk.grown hg (OwnO.ne (HD4.out.ex ((Ex.refl _).alloc (.cells #[.int .i64 (2 * (k : Int) + 2)] 3))).oq (HD4.out.ex ((Ex.refl _).alloc (.cells #[.int .i64 (2 * (k : Int) + 2)] 3))).blk rowInt)
      have z1 := hbk.cell 1
      have zl := hbk.lt
      have zf := hbk.frozen 1
      have HX5s := Lib.hid (HX5.out.setCell (p := ⟨nb, 1, none⟩) hnb (.slice A1' (k + 1 + 1) c1'))
      clear ho hg hat hEx HB4 hbk y0 y1 yl yf
      go_wp2_with fail
      exact ⟨⟨k + 1, A', c', B', d', A0', c0', A1', c1', by go_num, by omega, rfl, rfl, Lib.hid ⟨HD5.out, HX5s.out⟩⟩, by simp [intOf]; omega⟩
    · obtain rfl : k = n := by omega
      have m1 : decide ((k : Int) < (k : Int)) = false := decide_eq_false (by omega)
      clear hk hkn
      go_wp2_with fail
      obtain ⟨hDk, hXk⟩ := HH.out
      obtain ⟨A9, c9, he9, hc9, hEA⟩ := dom_evs hDk.oa
      cases he9
      obtain ⟨B9, d9, he9, hd9, hEB⟩ := dom_evs hDk.ob
      cases he9
      have hLk := two_lists (bef_len k) (bef_len k) hDk.op hDk.oq hDk.blk
      have hP := Blk.new wr 64 [.string ⟨#[97]⟩, .slice none 0 0, .slice A (2 * k) c, .string ⟨#[98]⟩, .slice none 0 0, .slice B (2 * k) d]
      have hx4 : Ex wr ((wr.alloc (.cells #[.string ⟨#[97]⟩, .slice none 0 0, .slice A (2 * k) c, .string ⟨#[98]⟩, .slice none 0 0, .slice B (2 * k) d] 64)).alloc (.cells #[.slice (some ⟨wr.heap.size, 0, none⟩) 2 2] 24)) := ((Ex.refl _).alloc _).alloc _
      have hT4 : TcC ((wr.alloc (.cells #[.string ⟨#[97]⟩, .slice none 0 0, .slice A (2 * k) c, .string ⟨#[98]⟩, .slice none 0 0, .slice B (2 * k) d] 64)).alloc (.cells #[.slice (some ⟨wr.heap.size, 0, none⟩) 2 2] 24)) (some ⟨wr.heap.size, 0, none⟩) (domT k) := (dom_tc (hEA.ex ((Ex.refl wr).alloc _)) (hEB.ex ((Ex.refl wr).alloc _)) hc9 hd9 hP).ex ((Ex.refl _).alloc _)
      have hB4 := Blk.new (wr.alloc (.cells #[.string ⟨#[97]⟩, .slice none 0 0, .slice A (2 * k) c, .string ⟨#[98]⟩, .slice none 0 0, .slice B (2 * k) d] 64)) 24 [.slice (some ⟨wr.heap.size, 0, none⟩) 2 2]
      have hs4 : (wr.alloc (.cells #[.string ⟨#[97]⟩, .slice none 0 0, .slice A (2 * k) c, .string ⟨#[98]⟩, .slice none 0 0, .slice B (2 * k) d] 64)).heap.size = wr.heap.size + 1 := by simp
      rw [hs4] at hB4
      have HX4 := Lib.hid (HX1.out.trans (hXk.trans hx4))
      have HL4 := Lib.hid (hLk.ex hx4)
      clear hDk hXk hEA hEB hLk hP hc9 hd9 HH HD HX3 hs4 hx4 hnb
      generalize (wr.alloc (.cells #[.string ⟨#[97]⟩, .slice none 0 0, .slice A (2 * k) c, .string ⟨#[98]⟩, .slice none 0 0, .slice B (2 * k) d] 64)).alloc (.cells #[.slice (some ⟨wr.heap.size, 0, none⟩) 2 2] 24) = W4 at *
      generalize wr.heap.size + 1 = tb at *
      generalize wr.heap.size = pb at *
      have HT : Hid (∀ w', Ex W4 w' → TcC w' (some ⟨pb, 0, none⟩) (domT k)) := fun w' h => hT4.ex h
      have HL : Hid (∀ w', Ex W4 w' → LlC w' (some ⟨nb, 0, none⟩) [bef k, bef k]) := fun w' h => HL4.out.ex h
      have HB : Hid (∀ w', Ex W4 w' → Blk w' tb 24 [.slice (some ⟨pb, 0, none⟩) 2 2]) := fun w' h => hB4.ex h
      clear hT4 HL4 hB4
      have HLi := Lib.hid (fun w' (h : Ex W4 w') => domLine1_c k hn1 hn20 (some ⟨pb, 0, none⟩) 2 (Nat.le_refl _) (some ⟨nb, 0, none⟩) 2 w' (HT.out _ h) (HL.out _ h))
      have HRo := Lib.hid (fun w' (h : Ex W4 w') => domRoll1_c k hn1 hn20 (some ⟨pb, 0, none⟩) 2 (Nat.le_refl _) (some ⟨nb, 0, none⟩) 2 w' (HT.out _ h) (HL.out _ h))
      have HVa := Lib.hid (fun w' (h : Ex W4 w') => domValid_c k hn20 (some ⟨pb, 0, none⟩) 2 w' (HT.out _ h))
      have HEq := Lib.hid (fun (xs : List Int) A1 A2 c1 c2 w' (h1 : Row w' A1 (intsV xs)) (h2 : Row w' A2 (intsV xs)) (e1 : xs.length = 2) => equalT_n xs A1 A2 c1 c2 2 2 w' e1 e1 h1 h2 (by omega))
      refine (HLi.out _ (Ex.refl _)).mono ?_
      rintro e9 w5 ⟨LA, lk, rfl, hr5, hx5⟩
      have HX5 := Lib.hid hx5
      have HR5 := Lib.hid hr5
      clear hx5 hr5
      have t0 := (HB.out _ HX5.out).cell 0
      have tl := (HB.out _ HX5.out).lt
      go_wp2_with fail
      refine (HRo.out _ HX5.out).mono ?_
      rintro e9 w6 ⟨rfl, hx6⟩
      have HX6 := Lib.hid (HX5.out.trans hx6)
      have HR6 := Lib.hid (HR5.out.ex hx6)
      clear hx6 t0 tl HR5
      have t0 := (HB.out _ HX6.out).cell 0
      have tl := (HB.out _ HX6.out).lt
      go_wp2_with fail
      refine (HVa.out _ HX6.out).mono ?_
      rintro e9 w7 ⟨rfl, hx7⟩
      have HX7 := Lib.hid (HX6.out.trans hx7)
      have HR7 := Lib.hid (HR6.out.ex hx7)
      clear hx7 t0 tl HR6
      have q3 : IntKind.i64.wrap (2 * (k : Int)) = 2 * (k : Int) := IntWalk.i64_in _ (by omega)
      have q4 : IntKind.i64.wrap (2 * (k : Int) - 2) = 2 * (k : Int) - 2 := IntWalk.i64_in _ (by omega)
      go_wp2_with fail
      refine (HEq.out [2 * (k : Int) - 2, 2 * (k : Int) - 2] LA (some ⟨w7.heap.size, 0, none⟩) lk 2 _ (HR7.out.ex ((Ex.refl _).alloc _)) (blk_row (Blk.new w7 3 (intsV [2 * (k : Int) - 2, 2 * (k : Int) - 2]))) rfl).mono ?_
      rintro e9 w8 ⟨rfl, hx8⟩
      have HX8 := Lib.hid ((HX7.out.alloc _).trans hx8)
      clear hx8 HR7
      go_wp2_with fail
      have hD := dom_new w8
      have hX9 : Ex w8 (((w8.alloc (.cells #[.int .i64 0] 3)).alloc (.cells #[.int .i64 0] 3)).alloc (.cells #[.slice (some ⟨w8.heap.size, 0, none⟩) 1 1, .slice (some ⟨w8.heap.size + 1, 0, none⟩) 1 1] 39)) := (((Ex.refl w8).alloc _).alloc _).alloc _
      have hnb2 : w8.heap.size ≤ w8.heap.size + 1 + 1 := by omega
      generalize ((w8.alloc (.cells #[.int .i64 0] 3)).alloc (.cells #[.int .i64 0] 3)).alloc (.cells #[.slice (some ⟨w8.heap.size, 0, none⟩) 1 1, .slice (some ⟨w8.heap.size + 1, 0, none⟩) 1 1] 39) = W9 at *
      have HD := Lib.hid hD
      have HX9 := Lib.hid hX9
      generalize w8.heap.size + 1 + 1 = ob at *
      clear hD hX9
      have HBs : Hid (∀ w', Ex w8 w' → w8.heap.size ≤ w'.heap.size) := fun w' h => h.below.size
      go_loopw [15, 124] (fun _ q wr => ∃ (j L : Nat) (l : List Int) (A0 : Option Addr) (c0 : Nat) (A1 : Option Addr) (c1 : Nat), q = .int .i64 j ∧ j ≤ k ∧ L ≤ 100 ∧ Hid (l = bef (j - 1) ∧ L = j - 1 + 1) ∧
        Hid (Dm wr w8.heap.size ob ⟨.slice none 0 0, 0, []⟩ ⟨.slice none 0 0, 0, []⟩ ⟨.slice A0 L c0, L, intsV l⟩ ⟨.slice A1 (j + 1) c1, j + 1, intsV (ods j)⟩ ∧ Ex w8 wr)) (fun _ q _ => k - (intOf q).toNat)
      case atStart => exact ⟨0, 1, bef 0, some ⟨w8.heap.size, 0, none⟩, 1, some ⟨w8.heap.size + 1, 0, none⟩, 1, rfl, Nat.zero_le _, by omega, Lib.hid ⟨rfl, rfl⟩, Lib.hid ⟨HD.out, HX9.out⟩⟩
      case round =>
        obtain ⟨j, L, l, A0, c0, A1, c1, rfl, hj, hL, HL2, HH⟩ := hrel
        by_cases hjk : j < k
        · have m1 : (j : Int) < (k : Int) := by omega
          have q0 : IntKind.i64.wrap (2 * (j : Int)) = 2 * (j : Int) := IntWalk.i64_in _ (by omega)
          have q1 : IntKind.i64.wrap (2 * (j : Int) + 1) = 2 * (j : Int) + 1 := IntWalk.i64_in _ (by omega)
          have HDm := Lib.hid HH.out.1
          have HXr := Lib.hid HH.out.2
          have x0 := HDm.out.blk.cell 0
          have x1 := HDm.out.blk.cell 1
          have xl := HDm.out.blk.lt
          have xf := HDm.out.blk.frozen 1
          clear HH
          by_cases hj0 : j = 0
          · have s0 : decide (0 < (j : Int)) = false := decide_eq_false (by omega)
            have s1 : decide (0 < j) = false := decide_eq_false (by omega)
            have s2 : (0 < j) = False := eq_false (by omega)
            have HLn : Hid (l = bef (j + 1 - 1) ∧ L = j + 1 - 1 + 1) := by
              obtain ⟨h1, h2⟩ := HL2.out
              subst hj0
              exact Lib.hid ⟨h1, h2⟩
            have HB := Lib.hid (HBs.out _ (HXr.out.alloc (.cells #[.int .i64 (2 * (j : Int) + 1)] 3)))
            clear hj0
            go_wp2_with (at_builtin; refine wpList_append_m _ rfl _ _ 39 rfl _ 3 i0 _ 1 8 Try.underlying39 hi0 hz0 hz1 hz2 rfl (.slice A1 (j + 1) c1) (j + 1) (intsV (ods j)) rfl (OwnO.ex HDm.out.oq ((Ex.refl _).alloc _)) 1 1 _ [.int .i64 (2 * (j : Int) + 1)] rfl rfl ?g1 ?g2 ?g3 ?g4 ?g5 ?_)
            try case g1 => exact news_new rfl (by simp)
            try case g2 => first | exact one_ints (by simp) | rfl | (simp; done)
            try case g3 => omega
            try case g4 => omega
            try case g5 => first | exact HB.out | (have hh := HB.out; simp at hh; omega)
            intro A1' c1' w5 ho hg hat hEx
            have HX5 := Lib.hid (hEx _ (HXr.out.alloc _) (Nat.le_refl _))
            rw [ods_lit] at ho
            have HD5 := Lib.hid (Dm.setQ (q' := ⟨.slice A1' (j + 1 + 1) c1', j + 1 + 1, intsV (ods (j + 1))⟩) (HDm.out.ex ((Ex.refl _).alloc _)) hg ho (hat.imp id fun h => h.trans (by simp)))
            have hbk := (HDm.out.ex ((Ex.refl _).alloc (.cells #[.int .i64 (2 * (j : Int) + 1)] 3))).blk.grown hg (OwnO.ne (HDm.out.ex ((Ex.refl _).alloc (.cells #[.int .i64 (2 * (j : Int) + 1)] 3))).oq (HDm.out.ex ((Ex.refl _).alloc (.cells #[.int .i64 (2 * (j : Int) + 1)] 3))).blk rowInt)
            have z1 := hbk.cell 1
            have zl := hbk.lt
            have zf := hbk.frozen 1
            have HX5s := Lib.hid (HX5.out.setCell (p := ⟨ob, 1, none⟩) hnb2 (.slice A1' (j + 1 + 1) c1'))
            clear ho hg hat hEx HB hbk x0 x1 xl xf
            go_wp2_with fail
            exact ⟨⟨j + 1, L, l, A0, c0, A1', c1', by go_num, by omega, hL, HLn, Lib.hid ⟨HD5.out, HX5s.out⟩⟩, by simp [intOf]; omega⟩
          · have s0 : decide (0 < (j : Int)) = true := decide_eq_true (by omega)
            have s1 : decide (0 < j) = true := decide_eq_true (by omega)
            have s2 : (0 < j) = True := eq_true (by omega)
            have hLj : L = j := by have := HL2.out.2; omega
            have hlj : intsV l ++ [.int .i64 (2 * (j : Int))] = intsV (bef j) := by
              rw [HL2.out.1, bef_pred (n := j) (by omega)]
              unfold intsV
              rw [List.map_append]
              rfl
            have HLj := Lib.hid hlj
            have HLn : Hid (bef j = bef (j + 1 - 1) ∧ L + 1 = j + 1 - 1 + 1) := Lib.hid ⟨by rw [Nat.add_sub_cancel], by omega⟩
            have HB := Lib.hid (HBs.out _ (HXr.out.alloc (.cells #[.int .i64 (2 * (j : Int))] 3)))
            have hL99 : L + 1 ≤ 100 := by omega
            clear hj0 hlj hLj
            go_wp2_with (at_builtin; refine wpList_append_m _ rfl _ _ 39 rfl _ 3 i0 _ 1 8 Try.underlying39 hi0 hz0 hz1 hz2 rfl (.slice A0 L c0) L (intsV l) rfl (OwnO.ex HDm.out.op ((Ex.refl _).alloc _)) 1 1 _ [.int .i64 (2 * (j : Int))] rfl rfl ?i1 ?i2 ?i3 ?i4 ?i5 ?_)
            try case i1 => exact news_new rfl (by simp)
            try case i2 => first | exact one_ints (by simp) | rfl | (simp; done)
            try case i3 => omega
            try case i4 => omega
            try case i5 => first | exact HB.out | (have hh := HB.out; simp at hh; omega)
            intro A0' c0' w4 ho hg hat hEx
            have HX4' := Lib.hid (hEx _ (HXr.out.alloc _) (Nat.le_refl _))
            rw [HLj.out] at ho
            have HD4 := Lib.hid (Dm.setP (p' := ⟨.slice A0' (L + 1) c0', L + 1, intsV (bef j)⟩) (HDm.out.ex ((Ex.refl _).alloc _)) hg ho (hat.imp id fun h => h.trans (by simp)))
            have hbk := (HDm.out.ex ((Ex.refl _).alloc (.cells #[.int .i64 (2 * (j : Int))] 3))).blk.grown hg (OwnO.ne (HDm.out.ex ((Ex.refl _).alloc (.cells #[.int .i64 (2 * (j : Int))] 3))).op (HDm.out.ex ((Ex.refl _).alloc (.cells #[.int .i64 (2 * (j : Int))] 3))).blk rowInt)
            have y0 := hbk.cell 0
            have y1 := hbk.cell 1
            have yl := hbk.lt
            have yf := hbk.frozen 0
            have HX4s := Lib.hid (HX4'.out.setCell (p := ⟨ob, 0, none⟩) hnb2 (.slice A0' (L + 1) c0'))
            have HB4 := Lib.hid (HBs.out _ (HX4s.out.alloc (.cells #[.int .i64 (2 * (j : Int) + 1)] 3)))
            have hs4 : (w4.setCell ⟨ob, 0, none⟩ (.slice A0' (L + 1) c0')).heap.size = w4.heap.size := by simp [World.setCell]
            clear ho hg hat hEx HB hbk x0 x1 xl xf
            go_wp2_with (at_builtin; refine wpList_append_m _ rfl _ _ 39 rfl _ 3 i0 _ 1 8 Try.underlying39 hi0 hz0 hz1 hz2 rfl (.slice A1 (j + 1) c1) (j + 1) (intsV (ods j)) rfl (OwnO.ex HD4.out.oq ((Ex.refl _).alloc _)) 1 1 _ [.int .i64 (2 * (j : Int) + 1)] rfl rfl ?k1 ?k2 ?k3 ?k4 ?k5 ?_)
            try case k1 => exact news_new rfl (by simp)
            try case k2 => first | exact one_ints (by simp) | rfl | (simp; done)
            try case k3 => omega
            try case k4 => omega
            try case k5 => first | exact HB4.out | (have hh := HB4.out; simp at hh; omega)
            intro A1' c1' w5 ho hg hat hEx
            have HX5 := Lib.hid (hEx _ (HX4s.out.alloc _) (Nat.le_refl _))
            rw [ods_lit] at ho
            have HD5 := Lib.hid (Dm.setQ (q' := ⟨.slice A1' (j + 1 + 1) c1', j + 1 + 1, intsV (ods (j + 1))⟩) (HD4.out.ex ((Ex.refl _).alloc _)) hg ho (hat.imp id fun h => h.trans (by simp)))
            have hbk := (HD4.out.ex ((Ex.refl _).alloc (.cells #[.int .i64 (2 * (j : Int) + 1)] 3))).blk.grown hg (OwnO.ne (HD4.out.ex ((Ex.refl _).alloc (.cells #[.int .i64 (2 * (j : Int) + 1)] 3))).oq (HD4.out.ex ((Ex.refl _).alloc (.cells #[.int .i64 (2 * (j : Int) + 1)] 3))).blk rowInt)
            have z1 := hbk.cell 1
            have zl := hbk.lt
            have zf := hbk.frozen 1
            have zl0 := zl
            have HX5s := Lib.hid (HX5.out.setCell (p := ⟨ob, 1, none⟩) hnb2 (.slice A1' (j + 1 + 1) c1'))
            clear ho hg hat hEx HB4 hbk y0 y1 yl yf
            go_wp2_with fail
            exact ⟨⟨j + 1, L + 1, bef j, A0', c0', A1', c1', by go_num, by omega, hL99, HLn, Lib.hid ⟨HD5.out, HX5s.out⟩⟩, by simp [intOf]; omega⟩
        · obtain rfl : j = k := by omega
          have m1 : decide ((j : Int) < (j : Int)) = false := decide_eq_false (by omega)
          go_upto_region 27 with fail
          go_cut [] from 149 (fun wx => ∃ (A5 : Option Addr) (c5 : Nat) (A6 : Option Addr) (c6 : Nat), Hid (Dm wx w8.heap.size ob ⟨.slice none 0 0, 0, []⟩ ⟨.slice none 0 0, 0, []⟩ ⟨.slice A5 (j + 1) c5, j + 1, intsV (bef j)⟩ ⟨.slice A6 (j + 2) c6, j + 2, intsV (odl j)⟩ ∧ Ex w8 wx))
          case first =>
            obtain ⟨hDm, hXr⟩ := HH.out
            have HLj2 : Hid (L = j) := by have := HL2.out.2; exact Lib.hid (by omega)
            have HBef : Hid (intsV l ++ [Value.int IntKind.i64 (2 * (j : Int))] = intsV (bef j)) := by
              rw [HL2.out.1, bef_pred (n := j) (by omega)]
              unfold intsV
              rw [List.map_append]
              exact Lib.hid rfl
            have HOdl : Hid (intsV (ods j) ++ [Value.int IntKind.i64 (2 * (j : Int))] = intsV (odl j)) := by
              unfold odl intsV
              rw [List.map_append]
              exact Lib.hid rfl
            have HDn := Lib.hid hDm.dn
            have HXr := Lib.hid hXr
            have HPl := Lib.hid (fun k h => (OwnO.lt hDm.op k h).2)
            have hBb := hXr.below.size
            have x0 := hDm.blk.cell 0
            have x1 := hDm.blk.cell 1
            have xl := hDm.blk.lt
            have q0 : IntKind.i64.wrap (2 * (j : Int)) = 2 * (j : Int) := IntWalk.i64_in _ (by omega)
            clear hDm hXr HH HAw HX1 HX4 HB HRo HVa HEq HLi HX8 HBs HT HL HL2 HD HX9 hj0 jz0 jz1 jz2 m1 hj hjk hn1
            have HT1 : Hid (∀ (X w5 : World), Blk X wr.heap.size 3 [.int .i64 (2 * (j : Int))] → X.grownBy w5 (Value.slice A0 L c0).ownBlock → Blk w5 wr.heap.size 3 [.int .i64 (2 * (j : Int))]) := fun X w5 h1 h2 => Blk.past h1 h2 HPl.out (Nat.le_refl _)
            have HT2 : Hid (∀ (X w5 : World), Blk X (wr.heap.size + 1) 3 [.int .i64 (2 * (j : Int))] → X.grownBy w5 (Value.slice A0 L c0).ownBlock → Blk w5 (wr.heap.size + 1) 3 [.int .i64 (2 * (j : Int))]) := fun X w5 h1 h2 => Blk.past h1 h2 HPl.out (Nat.le_succ _)
            go_region_law (first | (refine step_append_one _ (by rfl) _ _ 39 (by rfl) w8.heap.size 3 i0 _ 1 8 Try.underlying39 hi0 hz0 hz1 hz2 (by rfl) (.slice A0 L c0) L (intsV l) (by rfl) (OwnO.ex HDn.out.op (by repeat (first | exact Ex.refl _ | apply Ex.alloc | apply Ex.drew))) _ [.int .i64 (2 * (j : Int))] (by rfl) (by rfl) (by first | (intro j u h; refine ((Blk.new' _ ?_ _ _).cell j).trans h; (simp; done)) | (intro j u h; refine ((Blk.new' _ ?_ _ _).drew.cell j).trans h; (simp; done)) | (intro j u h; refine (((Blk.new' _ ?_ _ _).alloc _).cell j).trans h; (simp; done)) | (intro j u h; refine (((Blk.new' _ ?_ _ _).alloc _).drew.cell j).trans h; (simp; done))) (one_ints (by simp)) (by omega) (by omega) (by first | exact hBb | (simp; omega)) ?_; intro A5 c5 w5 ho5 hg5 hat5 hEx5; have hN5 := Dn.setP (p' := Sl.mk (Value.slice A5 (L + 1) c5) (L + 1) (intsV l ++ [Value.int IntKind.i64 (2 * (j : Int))])) (HDn.out.ex (by repeat (first | exact Ex.refl _ | apply Ex.alloc | apply Ex.drew))) hg5 ho5 (hat5.imp id fun h => h.trans (by simp)); have hx5 := hEx5 w8 (by repeat (first | exact HXr.out | apply Ex.alloc | apply Ex.drew)) (Nat.le_refl _); have hBb := hx5.below.size; have y1 := hN5.blk.cell 1; have yl := hN5.blk.lt) | (refine step_append_one _ (by rfl) _ _ 39 (by rfl) w8.heap.size 3 i0 _ 1 8 Try.underlying39 hi0 hz0 hz1 hz2 (by rfl) (.slice A1 (j + 1) c1) (j + 1) (intsV (ods j)) (by rfl) (OwnO.ex hN5.oq (by repeat (first | exact Ex.refl _ | apply Ex.alloc | apply Ex.drew))) _ [.int .i64 (2 * (j : Int))] (by rfl) (by rfl) (by first | (intro j u h; refine ((Blk.new' _ ?_ _ _).cell j).trans h; (simp; done)) | (intro j u h; refine ((Blk.new' _ ?_ _ _).drew.cell j).trans h; (simp; done)) | (intro j u h; refine ((HT1.out _ _ ?_ hg5).cell j).trans h; (refine Blk.new' _ ?_ _ _; (simp; done))) | (intro j u h; refine ((HT1.out _ _ ?_ hg5).drew.cell j).trans h; (refine Blk.new' _ ?_ _ _; (simp; done))) | (intro j u h; refine ((HT1.out _ _ ?_ hg5).cell j).trans h; (refine Blk.alloc (Blk.new' _ ?_ _ _) _; (simp; done))) | (intro j u h; refine ((HT1.out _ _ ?_ hg5).drew.cell j).trans h; (refine Blk.alloc (Blk.new' _ ?_ _ _) _; (simp; done))) | (intro j u h; refine ((HT1.out _ _ ?_ hg5).cell j).trans h; (refine Blk.drew (Blk.new' _ ?_ _ _); (simp; done))) | (intro j u h; refine ((HT1.out _ _ ?_ hg5).drew.cell j).trans h; (refine Blk.drew (Blk.new' _ ?_ _ _); (simp; done))) | (intro j u h; refine ((HT1.out _ _ ?_ hg5).cell j).trans h; (refine Blk.drew (Blk.alloc (Blk.new' _ ?_ _ _) _); (simp; done))) | (intro j u h; refine ((HT1.out _ _ ?_ hg5).drew.cell j).trans h; (refine Blk.drew (Blk.alloc (Blk.new' _ ?_ _ _) _); (simp; done))) | (intro j u h; refine ((HT2.out _ _ ?_ hg5).cell j).trans h; (refine Blk.new' _ ?_ _ _; (simp; done))) | (intro j u h; refine ((HT2.out _ _ ?_ hg5).drew.cell j).trans h; (refine Blk.new' _ ?_ _ _; (simp; done))) | (intro j u h; refine ((HT2.out _ _ ?_ hg5).cell j).trans h; (refine Blk.alloc (Blk.new' _ ?_ _ _) _; (simp; done))) | (intro j u h; refine ((HT2.out _ _ ?_ hg5).drew.cell j).trans h; (refine Blk.alloc (Blk.new' _ ?_ _ _) _; (simp; done))) | (intro j u h; refine ((HT2.out _ _ ?_ hg5).cell j).trans h; (refine Blk.drew (Blk.new' _ ?_ _ _); (simp; done))) | (intro j u h; refine ((HT2.out _ _ ?_ hg5).drew.cell j).trans h; (refine Blk.drew (Blk.new' _ ?_ _ _); (simp; done))) | (intro j u h; refine ((HT2.out _ _ ?_ hg5).cell j).trans h; (refine Blk.drew (Blk.alloc (Blk.new' _ ?_ _ _) _); (simp; done))) | (intro j u h; refine ((HT2.out _ _ ?_ hg5).drew.cell j).trans h; (refine Blk.drew (Blk.alloc (Blk.new' _ ?_ _ _) _); (simp; done)))) (one_ints (by simp)) (by omega) (by omega) (by first | exact hBb | (simp; omega)) ?_; intro A6 c6 w6 ho6 hg6 hat6 hEx6; have hN6 := Dn.setQ (q' := Sl.mk (Value.slice A6 (j + 1 + 1) c6) (j + 1 + 1) (intsV (ods j) ++ [Value.int IntKind.i64 (2 * (j : Int))])) (hN5.ex (by repeat (first | exact Ex.refl _ | apply Ex.alloc | apply Ex.drew))) hg6 ho6 (hat6.imp id fun h => h.trans (by simp)); have hx6 := hEx6 w8 (by repeat (first | exact hx5 | apply Ex.alloc | apply Ex.drew)) (Nat.le_refl _); have z0 := hN6.blk.cell 0; have z1 := hN6.blk.cell 1; have zl := hN6.blk.lt; have zf0 := hN6.blk.frozen 0; have zf1 := hN6.blk.frozen 1))
            all_goals
              go_wp2_with fail
              go_meet
              case rel =>
                have hdone := Dn.done hN6
                have hxd := (hx6.setCell (p := ⟨ob, 0, none⟩) hnb2 (.slice A5 (L + 1) c5)).setCell (p := ⟨ob, 1, none⟩) hnb2 (.slice A6 (j + 1 + 1) c6)
                have hLj : L = j := by have := HLj2.out; omega
                subst hLj
                rw [HBef.out, HOdl.out] at hdone
                exact ⟨A5, c5, A6, c6, Lib.hid ⟨by first | exact hdone | exact hdone.ex (Ex.refl _).drew, by first | exact hxd | exact hxd.drew⟩⟩
          case rest =>
            clear HH HD HX9
            obtain ⟨A5, c5, A6, c6, HC⟩ := hcut
            obtain ⟨hDc, hXc⟩ := HC.out
            have HLo := Lib.hid (two_lists (bef_len j) (odl_len j) hDc.op hDc.oq hDc.blk)
            have HXo := Lib.hid (HX8.out.trans hXc)
            have HLi2 := Lib.hid (fun w' (h : Ex W4 w') (hL : LlC w' (some ⟨ob, 0, none⟩) [bef j, odl j]) => domLine2_c j hn1 hn20 (some ⟨pb, 0, none⟩) 2 (Nat.le_refl _) (some ⟨ob, 0, none⟩) 2 w' (HT.out _ h) hL)
            have HRo2 := Lib.hid (fun w' (h : Ex W4 w') (hL : LlC w' (some ⟨ob, 0, none⟩) [bef j, odl j]) => domRoll2_c j hn1 hn20 (some ⟨pb, 0, none⟩) 2 (Nat.le_refl _) (some ⟨ob, 0, none⟩) 2 w' (HT.out _ h) hL)
            clear hDc hXc HC HLi HRo HVa
            have t0 := (HB.out _ HXo.out).cell 0
            have tl := (HB.out _ HXo.out).lt
            go_wp2_with fail
            refine (HLi2.out _ HXo.out HLo.out).mono ?_
            rintro e9 w10 ⟨LB, lb, rfl, hr10, hx10⟩
            have HX10 := Lib.hid (HXo.out.trans hx10)
            have HR10 := Lib.hid hr10
            have HL10 := Lib.hid (HLo.out.ex hx10)
            clear hx10 hr10 t0 tl
            have t0 := (HB.out _ HX10.out).cell 0
            have tl := (HB.out _ HX10.out).lt
            go_wp2_with fail
            refine (HRo2.out _ HX10.out HL10.out).mono ?_
            rintro e9 w11 ⟨rfl, hx11⟩
            have HX11 := Lib.hid (HX10.out.trans hx11)
            have HR11 := Lib.hid (HR10.out.ex hx11)
            clear hx11 t0 tl
            have p1 : IntKind.i64.wrap (4 * (j : Int)) = 4 * (j : Int) := IntWalk.i64_in _ (by omega)
            have p2 : IntKind.i64.wrap (2 * (j : Int)) = 2 * (j : Int) := IntWalk.i64_in _ (by omega)
            have p3 : IntKind.i64.wrap (2 * (j : Int) - 1) = 2 * (j : Int) - 1 := IntWalk.i64_in _ (by omega)
            go_wp2_with fail
            refine (HEq.out [0, 0] LB (some ⟨w11.heap.size, 0, none⟩) lb 2 _ (HR11.out.ex ((Ex.refl _).alloc _)) (blk_row (Blk.new w11 3 (intsV [0, 0]))) rfl).mono ?_
            rintro e9 w12 ⟨rfl, hx12⟩
            have HX12 := Lib.hid (HX4.out.trans ((HX11.out.alloc _).trans hx12))
            clear hx12
            go_wp2_with fail
            go_ret
            exact Ret.mk rfl HX12.out
end Go.Proofs.Ytdenojfbdkdpiaa
