/-
  A reader of a line is made, walked.
  Conditions: as each theorem says; the world's tables are as laid (Env).
-/
import Derived.Test.YtpmponafjhnegaaGreatDoorMc
import Derived.Test.YtpmponafjhnegaaGreatDoorHa
namespace Go.Proofs.YtpmponafjhnegaaGreatDoor
open Go.RowKit Nu
theorem infoInt' : (Tryz.prog.info? 3).map (fun i => (i.zero, i.size, i.bytes)) = some (some (.int .i64 0), 1, 8) := by kernel_rfl
theorem strV_split (c : UInt8) (l : List UInt8) : (Lib.splitB ⟨#[c]⟩ 0 (Lib.countB (bs l) ⟨#[c]⟩) (bs l)).map Value.string = strV (spl c l) ∧ Lib.countB (bs l) ⟨#[c]⟩ + 1 = (spl c l).length := by
  obtain ⟨h1, h2⟩ := lib_split c l.length l (Nat.le_refl _)
  have hc : Lib.countB (bs l) ⟨#[c]⟩ = Lib.count l [c] := rfl
  have h3 := Lib.splitB_data ⟨#[c]⟩ 0 (Lib.countB (bs l) ⟨#[c]⟩) (bs l)
  rw [hc] at h3 ⊢
  have h4 : Lib.splitK (⟨#[c]⟩ : ByteArray).data.toList 0 (Lib.count l [c]) (bs l).data.toList = spl c l := h1
  rw [h4] at h3
  refine ⟨?_, h2⟩
  unfold strV
  rw [← h3, List.map_map]
  rfl
theorem split_c (c : UInt8) (l : List UInt8) (w : World) (hE : Env w) (hl : l.length ≤ 100000) : Calls Tryz.prog 14 #[.string (bs l), .string ⟨#[c]⟩] w (fun e w' => e = .returned (.slice (some ⟨w.heap.size, 0, none⟩) (spl c l).length (spl c l).length) ∧ w' = w.alloc (.cells (strV (spl c l)).toArray 9)) := by
  obtain ⟨-, m, hm⟩ := hE.max
  obtain ⟨h1, h2⟩ := strV_split c l
  refine (Tryz.strings_Split (bs l) ⟨#[c]⟩ m w (by show l.length < _; omega) hm (by show 1 ≤ 1; omega)).mono ?_
  rintro e w' ⟨rfl, rfl⟩
  rw [h1, h2]
  exact ⟨rfl, rfl⟩
theorem spl_lens (c : UInt8) (l : List UInt8) : (spl c l).length ≤ l.length + 1 ∧ ∀ w ∈ spl c l, w.length ≤ l.length := by
  induction l with
  | nil => simp [spl]
  | cons b r ih =>
    obtain ⟨w, ws, h⟩ := spl_cons c r
    rw [spl_eq]
    rw [h] at ih ⊢
    obtain ⟨i1, i2⟩ := ih
    split
    · refine ⟨by simp at i1 ⊢; omega, fun x hx => ?_⟩
      rcases List.mem_cons.1 hx with rfl | hx
      · simp
      · have := i2 x hx; simp; omega
    · refine ⟨by simp at i1 ⊢; omega, fun x hx => ?_⟩
      rcases List.mem_cons.1 hx with rfl | hx
      · have := i2 w (List.mem_cons_self ..); simp; omega
      · have := i2 x (List.mem_cons_of_mem _ hx); simp; omega
theorem wsL_spl (c : UInt8) (l : List UInt8) : wsL (spl c l) = l.length + 1 := by
  have := join_len c (spl c l) (spl_ne c l)
  rw [join_spl] at this
  exact this.symm
theorem wsL_le (ws : List (List UInt8)) (k : Nat) : wsL (ws.take k) ≤ wsL ws := by
  have h : wsL ws = wsL (ws.take k) + wsL (ws.drop k) := by
    unfold wsL
    rw [← List.sum_append, ← List.map_append, List.take_append_drop]
  omega
set_option maxRecDepth 20000 in
set_option maxHeartbeats 3200000 in
theorem read_c (l : List UInt8) (col : Nat) (w : World) (hE : Env w) (hl : l.length ≤ 20000) (hcol : col ≤ 100) :
    Calls Tryz.prog 45 #[.string (bs l), .int .i64 (col : Int)] w (fun e w' => ∃ g, e = .returned (.pointer (some ⟨g, 0, none⟩)) ∧ w.heap.size ≤ g ∧ RdC w' g (spl 32 l) (colF col (spl 32 l)) (col + l.length) ⟨0, 0, 0⟩ ∧ Ex w w') := by
  have HS := Lib.hid (split_c 32 l w hE (by omega))
  obtain ⟨i0, hi0, hz0, hz1, hz2⟩ := info_parts infoInt'
  obtain ⟨hsl, hsw⟩ := spl_lens 32 l
  have hwl := wsL_spl 32 l
  have hsz : (bs l).size = l.length := rfl
  have hpos : 0 < (spl 32 l).length := List.length_pos_iff.2 (spl_ne 32 l)
  have wc : IntKind.i64.wrap ((col : Int) + (l.length : Int)) = ((col + l.length : Nat) : Int) := by rw [show (col : Int) + (l.length : Int) = ((col + l.length : Nat) : Int) by omega]; exact IntWalk.i64_in _ (by omega)
  generalize spl 32 l = ws at *
  generalize hTX : bs l = TX at *
  clear hTX hE
  go_enter Tryz.func45, Tryz.ntmps45
  go_wp2_with fail
  refine (HS.out).mono ?_
  rintro e9 w1 ⟨rfl, rfl⟩
  go_wp2_with fail
  have hW1 : (w.alloc (.cells (strV ws).toArray 9)).heap.size = w.heap.size + 1 := by simp
  have hB := Blk.new (w.alloc (.cells (strV ws).toArray 9)) 95 [.slice (some ⟨w.heap.size, 0, none⟩) ws.length ws.length, .slice none 0 0, .int .i64 ((col : Int) + (l.length : Int)), .int .i64 0, .int .i64 0, .int .i64 0]
  have hA := (Blk.new w 9 (strV ws)).alloc (.cells #[.slice (some ⟨w.heap.size, 0, none⟩) ws.length ws.length, .slice none 0 0, .int .i64 ((col : Int) + (l.length : Int)), .int .i64 0, .int .i64 0, .int .i64 0] 95)
  have hX : Ex w ((w.alloc (.cells (strV ws).toArray 9)).alloc (.cells #[.slice (some ⟨w.heap.size, 0, none⟩) ws.length ws.length, .slice none 0 0, .int .i64 ((col : Int) + (l.length : Int)), .int .i64 0, .int .i64 0, .int .i64 0] 95)) := ((Ex.refl w).alloc _).alloc _
  rw [hW1] at hB
  generalize (w.alloc (.cells (strV ws).toArray 9)).alloc (.cells #[.slice (some ⟨w.heap.size, 0, none⟩) ws.length ws.length, .slice none 0 0, .int .i64 ((col : Int) + (l.length : Int)), .int .i64 0, .int .i64 0, .int .i64 0] 95) = W2 at *
  have hab : w.heap.size ≠ w.heap.size + 1 := by omega
  have hba : w.heap.size + 1 ≠ w.heap.size := by omega
  have HA := Lib.hid hA
  have HB := Lib.hid hB
  have HX := Lib.hid hX
  obtain ⟨base, hbase⟩ : ∃ base, base = w.heap.size := ⟨_, rfl⟩
  have HBw : Hid (w.heap.size = base) := hbase.symm
  have hgb : base ≤ w.heap.size + 1 := by omega
  have HWb := Lib.hid hbase
  clear hbase
  generalize w.heap.size + 1 = rb at *
  generalize hwb : w.heap.size = wb at *
  have HBz : Hid (w.heap.size = base) := hwb.trans HBw.out
  have hbw : base = wb := HWb.out
  subst hbw
  clear hwb HBw
  clear hA hB hX HS hW1 wc
  have HWl := Lib.hid hsw
  have HWs := Lib.hid (fun k => wsL_le ws k)
  clear hsw
  go_loopw [1, 7, 21] (fun cv _ q wr => ∃ (k n : Nat) (C : Option Addr) (cc : Nat), q = .int .i64 k ∧ k ≤ ws.length ∧ cv = .int .i64 (n : Int) ∧ Hid (n = col + wsL (ws.take k) ∧ Blk wr base 9 (strV ws) ∧ Blk wr rb 95 [.slice (some ⟨base, 0, none⟩) ws.length ws.length, .slice C k cc, .int .i64 ((col : Int) + (l.length : Int)), .int .i64 0, .int .i64 0, .int .i64 0] ∧
    OwnO wr base 3 1 (.slice C k cc) k (natV (colF col (ws.take k))) ∧ Ex w wr)) (fun _ _ q _ => ws.length - (intOf q).toNat)
  case atStart => exact ⟨0, col, none, 0, rfl, Nat.zero_le _, rfl, Lib.hid ⟨by simp [wsL], HA.out, HB.out, by simpa [colF, natV] using OwnO.nil _ _ _ _, HX.out⟩⟩
  case round =>
    obtain ⟨k, n, C, cc, rfl, hk, rfl, HH⟩ := hrel
    by_cases hkl : k < ws.length
    · have m0 : (0 : Int) ≤ (k : Int) := by omega
      have m1 : (k : Int) < (ws.length : Int) := by omega
      obtain ⟨W, hW⟩ : ∃ W, ws[k]? = some W := ⟨_, List.getElem?_eq_getElem hkl⟩
      have hWl := HWl.out W (List.mem_of_getElem? hW)
      obtain ⟨hn, h1, h2, h3, h4⟩ := HH.out
      have hws := HWs.out k
      have d0 := (h1.cell k).trans (strV_get hW)
      have dl := h1.lt
      have r1 := h2.cell 1
      have rl := h2.lt
      have q1 : IntKind.i64.wrap ((W.length : Int) + 1) = (W.length : Int) + 1 := IntWalk.i64_in _ (by omega)
      have q2 : IntKind.i64.wrap ((n : Int) + ((W.length : Int) + 1)) = ((n + W.length + 1 : Nat) : Int) := by rw [show (n : Int) + ((W.length : Int) + 1) = ((n + W.length + 1 : Nat) : Int) by omega]; exact IntWalk.i64_in _ (by omega)
      have hsW : (bs W).size = W.length := rfl
      have HN : Hid (n + W.length + 1 = col + wsL (ws.take (k + 1))) := by rw [(wsL_take hW).2]; exact Lib.hid (by omega)
      have HC : Hid (natV (colF col (ws.take k)) ++ [.int .i64 (n : Int)] = natV (colF col (ws.take (k + 1)))) := by
        rw [List.take_succ_eq_append_getElem hkl, colF_snoc]
        unfold natV
        rw [List.map_append, hn]
        exact Lib.hid rfl
      have HD1 := Lib.hid h1
      have HD2 := Lib.hid h2
      have HO := Lib.hid h3
      have HXr := Lib.hid h4
      have HBs := Lib.hid ((h4.alloc (.cells #[.int .i64 (n : Int)] 3)).below.size)
      have hbn : base ≤ w.heap.size := Nat.le_of_eq HBz.out.symm
      generalize hTW : bs W = TW at *
      clear hn h1 h2 h3 h4 hW hws hWl HH hTW
      go_wp2_with (at_builtin; refine wpList_append_one _ rfl _ _ 93 rfl base 3 i0 _ 1 8 Tryz.underlying93 hi0 hz0 hz1 hz2 rfl (.slice C k cc) k (natV (colF col (ws.take k))) rfl (OwnO.ex HO.out ((Ex.refl _).alloc _)) _ [.int .i64 (n : Int)] rfl rfl ?c1 ?c2 ?c3 ?c4 ?c5 ?_)
      try case c1 => exact news_new rfl (by simp)
      try case c2 => first | exact one_ints (by simp) | (intro u hu; simp only [List.mem_cons, List.not_mem_nil, or_false] at hu; subst hu; rfl) | rfl | (simp [Value.oneCell']; done)
      try case c3 => omega
      try case c4 => omega
      try case c5 => first | (have hh := HBs.out; omega) | (have hh := HBs.out; simp at hh ⊢; omega)
      intro C' cc' w3 ho hg hat hEx
      have HX3 := Lib.hid (hEx w (HXr.out.alloc _) (Nat.le_of_eq HBz.out))
      rw [HC.out] at ho
      have hb2 := (HD2.out.alloc (.cells #[.int .i64 (n : Int)] 3)).grown hg (OwnO.ne (OwnO.ex HO.out ((Ex.refl _).alloc _)) (HD2.out.alloc (.cells #[.int .i64 (n : Int)] 3)) (by decide))
      have hb1 := (HD1.out.alloc (.cells #[.int .i64 (n : Int)] 3)).grown hg (OwnO.ne (OwnO.ex HO.out ((Ex.refl _).alloc _)) (HD1.out.alloc (.cells #[.int .i64 (n : Int)] 3)) (by decide))
      have z1 := hb2.cell 1
      have zl := hb2.lt
      have zf := hb2.frozen 1
      have HO3 := Lib.hid (OwnO.set_ ho (p := ⟨rb, 1, none⟩) (fun e => OwnO.ne ho hb2 (by decide) e.symm) (.slice C' (k + 1) cc'))
      have HD23 := Lib.hid (hb2.set_ 1 (.slice C' (k + 1) cc'))
      have HD13 := Lib.hid (hb1.far (p := ⟨rb, 1, none⟩) hab (.slice C' (k + 1) cc'))
      have HX3s := Lib.hid (HX3.out.setCell (p := ⟨rb, 1, none⟩) (by show w.heap.size ≤ rb; rw [HBz.out]; exact hgb) (.slice C' (k + 1) cc'))
      clear ho hg hat hEx hb2 hb1 r1 rl d0 dl
      go_wp2_with fail
      exact ⟨⟨k + 1, n + W.length + 1, C', cc', by go_num, by omega, by go_num, Lib.hid ⟨HN.out, HD13.out, HD23.out, HO3.out, HX3s.out⟩⟩, by simp [intOf]; omega⟩
    · obtain rfl : k = ws.length := by omega
      have m1 : decide ((ws.length : Int) < (ws.length : Int)) = false := decide_eq_false (by omega)
      go_wp2_with fail
      go_ret
      obtain ⟨-, h1, h2, h3, h4⟩ := HH.out
      obtain ⟨g, o, cap, he, hnc, -, hgb', -, hcs⟩ := h3.open_ hpos
      cases he
      rw [List.take_length] at h3 hcs
      have hne : g ≠ rb := fun e => by
        subst e
        exact OwnO.ne h3 h2 (by decide) rfl
      refine ⟨rb, rfl, by rw [HBz.out]; exact hgb, ⟨base, 0, ws.length, g, o, cc, ⟨hab, hne⟩, ⟨Nat.le_refl _, hnc, Nat.zero_le _, by omega, colF_len ws col⟩, h2, ⟨h1.rw, _, h1⟩, ?_⟩, h4⟩
      refine ⟨⟨(OwnO.lt h3 g rfl).2, hcs⟩, ?_⟩
      rcases h3.2 with ⟨he, -⟩ | ⟨g', o', cap', cur, he, -, hgg, -⟩
      · cases he
      · cases he; exact ⟨cur, hgg⟩
end Go.Proofs.YtpmponafjhnegaaGreatDoor
