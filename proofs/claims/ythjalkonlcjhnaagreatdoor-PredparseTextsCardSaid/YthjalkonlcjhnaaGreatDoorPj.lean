/-
  The words of a text.
  Conditions: a text of at most 16384 bytes; the world's tables are as laid (Env).
-/
import Derived.Test.YthjalkonlcjhnaaGreatDoorPi
import Derived.Laws.AppendOwn
namespace Go.Proofs.YthjalkonlcjhnaaGreatDoor
open Go.RowKit
def wdsV (l : List Wd) : List Value := l.flatMap wdVs
theorem wdsV_append (l m : List Wd) : wdsV (l ++ m) = wdsV l ++ wdsV m := by simp [wdsV]
theorem info36 : ∃ i0, Tryz.prog.info? 66 = some i0 ∧ i0.zero = some (.agg #[.int .i64 0, .string ⟨#[]⟩, .int .i64 0, .int .i64 0]) ∧ i0.size = 4 ∧ i0.bytes = 40 := by
  have h : (Tryz.prog.info? 66).map (fun i => (i.zero, i.size, i.bytes)) = some (some (.agg #[.int .i64 0, .string ⟨#[]⟩, .int .i64 0, .int .i64 0]), 4, 40) := by kernel_rfl
  cases hi : Tryz.prog.info? 66 with
  | none => rw [hi] at h; cases h
  | some i0 =>
    rw [hi] at h
    simp only [Option.map_some, Option.some.injEq, Prod.mk.injEq] at h
    exact ⟨i0, rfl, h.1, h.2.1, h.2.2⟩
theorem own_ex {w w' : World} {base : Nat} {e : TypeId} {size : Nat} {v : Value} {n : Nat} {xs : List Value} (h : w.ownsRow base e size v n xs) (hx : Ex w w') : w'.ownsRow base e size v n xs := by
  refine ⟨h.1, ?_⟩
  rcases h.2 with hn | ⟨g, cap, cur, rfl, hb, hg, rest⟩
  · exact .inl hn
  · exact .inr ⟨g, cap, cur, rfl, hb, (hx.below.block g (Array.getElem?_eq_some_iff.1 hg).1).trans hg, rest⟩
theorem own_base {w : World} {base base' : Nat} {e : TypeId} {size : Nat} {v : Value} {n : Nat} {xs : List Value} (h : w.ownsRow base e size v n xs) (hx : base' ≤ base) : w.ownsRow base' e size v n xs := by
  refine ⟨h.1, ?_⟩
  rcases h.2 with hn | ⟨g, cap, cur, rfl, hb, rest⟩
  · exact .inl hn
  · exact .inr ⟨g, cap, cur, rfl, by omega, rest⟩
def lenV : Value → Nat
  | .slice _ n _ => n
  | _ => 0
theorem own_len {w : World} {base : Nat} {e : TypeId} {size : Nat} {v : Value} {n : Nat} {xs : List Value} (h : w.ownsRow base e size v n xs) : lenV v = n ∧ ∃ a c, v = .slice a n c := by
  rcases h.2 with hn | ⟨g, cap, cur, rfl, hb, rest⟩
  · obtain ⟨rfl, rfl⟩ := hn; exact ⟨rfl, _, _, rfl⟩
  · exact ⟨rfl, _, _, rfl⟩
theorem own_far {w : World} {base : Nat} {e : TypeId} {size : Nat} {v : Value} {n : Nat} {xs : List Value} (h : w.ownsRow base e size v n xs) {p : Addr} (hp : p.block < base) (u : Value) : (w.setCell p u).ownsRow base e size v n xs := by
  refine ⟨h.1, ?_⟩
  rcases h.2 with hn | ⟨g, cap, cur, rfl, hb, hg, rest⟩
  · exact .inl hn
  · exact .inr ⟨g, cap, cur, rfl, hb, (Below.heap_setCell w p u g (by omega)).trans hg, rest⟩
theorem own_keep {b c : World} {base : Nat} {e : TypeId} {size : Nat} {v : Value} {n : Nat} {xs : List Value} (ho : b.ownsRow base e size v n xs) (hg : b.grownBy c v.ownBlock) {g t : Nat} {cs : List Value} (hB : Blk b g t cs) (hlt : g < base) : Blk c g t cs := by
  have h := (Below.refl (g + 1) b).grown hg hB.lt (fun k hk => by have := (ho.lt k hk).1; omega)
  exact (h.block g (Nat.lt_succ_self g)).trans hB
theorem cells_at {w : World} {g t : Nat} {cs : List Value} (h : Blk w g t cs) : ∀ j u, cs[j]? = some u → w.cell? ((⟨g, 0, none⟩ : Addr).add j) = some u := fun j u hj => by
  obtain ⟨ad, e, _, hc⟩ := h.cells j u hj
  injection e with e
  subst e
  exact hc
def WordsR (w : World) (r : LexR) (e : Ending) (w' : World) : Prop :=
  match r with
  | .ok l => ∃ v, e = .returned (.tuple #[v, .agg #[.int .i64 0, .int .i64 0], .int .i64 0]) ∧ w'.ownsRow w.heap.size 66 4 v l.length (wdsV l) ∧ Ex w w'
  | .bad p n => e = .returned (.tuple #[.slice none 0 0, .agg #[.int .i64 (p.1 : Nat), .int .i64 (p.2 : Nat)], .int .i64 (n : Nat)]) ∧ Ex w w'
def WordsRel (s : ByteArray) (L : List UInt8) (R : LexR) (w : World) (v : Value) (i : Nat) (l : List Wd) (f : Nat) (wr : World) : Prop :=
  l.length + f = 1000 ∧ i ≤ s.size ∧ wr.ownsRow (w.heap.size + 1 + 1) 66 4 v l.length (wdsV l) ∧ Blk wr (w.heap.size + 1) 82 [.string s, .int .i64 i] ∧ Blk wr w.heap.size 39 [.int .i64 0, .int .i64 0] ∧ Ex w wr ∧ (lexL f (L.drop i) (posF (L.take i))).app l = R
theorem first_le (l : List UInt8) : (firstL l).2.1 ≤ l.length := by
  match l with
  | [] => exact Nat.le_refl _
  | c :: r =>
    unfold firstL
    dsimp only
    split
    · exact span_le _ _
    · split
      · exact span_le _ _
      · cases hs : signF ⟨(c :: r).toArray⟩ with
        | none => exact Nat.zero_le _
        | some t =>
          have h1 := List.find?_some hs
          unfold pre Lib.hasPrefix at h1
          rw [List.isPrefixOf_iff_prefix] at h1
          have := h1.length_le
          rw [← size_data] at this
          exact this
theorem first_end (l : List UInt8) (h : (firstL l).1 = 4) : l = [] := by
  match l with
  | [] => rfl
  | c :: r =>
    unfold firstL at h
    dsimp only at h
    split at h
    · simp at h
    · split at h
      · simp at h
      · split at h <;> simp at h
theorem words_long (s : ByteArray) (w : World) (h : 16384 < s.size) : Calls Tryz.prog 48 #[.string s] w (WordsR w (.bad (0, 0) 5)) := by
  have f1 : decide (16384 < (s.size : Int)) = true := decide_eq_true (by omega)
  have HB : Hid (Blk (w.alloc (Obj.cells #[Value.int IntKind.i64 0, Value.int IntKind.i64 0] 39)) w.heap.size 39 [.int .i64 0, .int .i64 0]) := Blk.new w 39 _
  unfold WordsR
  go_enter Tryz.func48, Tryz.ntmps48
  go_wp2_with fail
  exact bodyPost_ret (results_words (y := .slice none 0 0) (v := .int .i64 5) rfl rfl rfl rfl HB.out) rfl ⟨rfl, (Ex.refl w).alloc _⟩
set_option maxRecDepth 20000 in
set_option maxHeartbeats 1600000 in
theorem words_c (s : ByteArray) (w : World) (hE : Env w) (h : s.size ≤ 16384) : Calls Tryz.prog 48 #[.string s] w (WordsR w (lexL 1000 s.data.toList (1, 1))) := by
  have f1 : decide (16384 < (s.size : Int)) = false := decide_eq_false (by omega)
  have HWd := Lib.hid (fun w' g i (hx : Ex w w') (hi : i ≤ s.size) hB => word_c s g i w' (hE.ex hx) h hi hB)
  have HR0 : Hid ((lexL 1000 (s.data.toList.drop 0) (posF (s.data.toList.take 0))).app [] = lexL 1000 s.data.toList (1, 1)) := by
    show _ = _
    cases hh : lexL 1000 s.data.toList (1, 1) <;> simp [LexR.app, posF, hh]
  obtain ⟨RR, hRR⟩ : ∃ r, r = lexL 1000 s.data.toList (1, 1) := ⟨_, rfl⟩
  rw [← hRR] at HR0 ⊢
  have HR : Hid (Blk (w.alloc (Obj.cells #[Value.int IntKind.i64 0, Value.int IntKind.i64 0] 39)) w.heap.size 39 [.int .i64 0, .int .i64 0]) := Blk.new w 39 _
  have HG : Hid (Blk ((w.alloc (Obj.cells #[Value.int IntKind.i64 0, Value.int IntKind.i64 0] 39)).alloc (Obj.cells #[Value.string s, Value.int IntKind.i64 0] 82)) (w.heap.size + 1) 82 [.string s, .int .i64 ((0 : Nat) : Int)]) := Blk.new' _ (by simp) 82 _
  clear hE hRR
  go_enter Tryz.func48, Tryz.ntmps48
  go_wp2_with fail
  go_loopw [6] (fun v wr => ∃ i l f, Hid (WordsRel s s.data.toList RR w v i l f wr)) (fun v _ => 1001 - lenV v)
  case atStart =>
    refine ⟨0, [], 1000, rfl, by omega, World.ownsRow_nil _ _ _ _, HG.out, HR.out.alloc _, ((Ex.refl w).alloc _).alloc _, HR0.out⟩
  case round =>
    obtain ⟨i, l, f, hrel⟩ := hrel
    obtain ⟨hlf, hi, hown, hBg, hBR, hx, hlex⟩ := hrel.out
    have lG := hBg.lt
    have lR := hBR.lt
    have c0 : wr.cell? ⟨w.heap.size + 1, 0, none⟩ = some (.string s) := hBg.cell 0
    have c1 : wr.cell? ⟨w.heap.size + 1, 1, none⟩ = some (.int .i64 i) := hBg.cell 1
    have d1 := hBg.frozen 1
    obtain ⟨D, hD⟩ : ∃ D, s.extract i s.size = D := ⟨_, rfl⟩
    have hDl : D.data.toList = s.data.toList.drop i := by rw [← hD, drop_data]
    have hDs : D.size = s.size - i := by rw [size_data, hDl, List.length_drop, ← size_data]
    have HSp := Lib.hid (fun w => span_blank D w (by omega))
    rw [hDl] at HSp
    have hN := span_le blkB (s.data.toList.drop i)
    rw [List.length_drop, ← size_data] at hN
    obtain ⟨b, hb⟩ : ∃ b, b = spanL blkB (s.data.toList.drop i) := ⟨_, rfl⟩
    rw [← hb] at hN HSp
    have Hb := Lib.hid hb
    have hw1 : IntKind.i64.wrap ((i : Int) + (b : Int)) = ((i + b : Nat) : Int) := by rw [IntWalk.i64_in _ (by omega)]; omega
    clear hb
    have HOwn := Lib.hid hown
    have HBg := Lib.hid hBg
    have HBR := Lib.hid hBR
    have HX := Lib.hid hx
    have Hlex := Lib.hid hlex
    clear hown hBg hBR hx hlex hrel hDl
    go_upto_region 5 with fail
    go_cut [] (fun wx => Hid (Blk wx (w.heap.size + 1) 82 [.string s, .int .i64 ((i + b : Nat) : Int)] ∧ wx.ownsRow (w.heap.size + 1 + 1) 66 4 u6 l.length (wdsV l) ∧ Blk wx w.heap.size 39 [.int .i64 0, .int .i64 0] ∧ Ex w wx))
    case first =>
      go_region_with (go_at_call 58; refine (HSp.out _).mono ?_; rintro e w' ⟨rfl, z, rfl⟩; have hb9 : Blk (ext _ z) (w.heap.size + 1) 82 [.string s, .int .i64 i] := (by first | exact (HBg.out.drew).ex ⟨z, rfl⟩ | exact HBg.out.ex ⟨z, rfl⟩); have k0 : (ext _ z).cell? ⟨w.heap.size + 1, 0, none⟩ = some (.string s) := hb9.cell 0; have k1 : (ext _ z).cell? ⟨w.heap.size + 1, 1, none⟩ = some (.int .i64 i) := hb9.cell 1; have k3 := hb9.frozen 1; have k4 := hb9.lt; clear hb9)
      all_goals
        go_wp2_with fail
        go_meet
        exact ⟨(HBg.out.drew.ex ⟨z, rfl⟩).set_ 1 _, own_far (own_ex HOwn.out (((Ex.refl wr).drew).ext z)) (Nat.lt_succ_self _) _, (HBR.out.drew.ex ⟨z, rfl⟩).far (Nat.ne_of_lt (Nat.lt_succ_self _)) _, ((HX.out.drew).ext z).setCell (Nat.le_succ _) _⟩
    case rest =>
      clear HOwn HBg HBR HX c0 c1 d1 lG lR HSp hw1
      obtain ⟨hBg, hown, hBR, hx⟩ := hcut.out
      obtain ⟨i', hi'⟩ : ∃ i', i' = i + b := ⟨_, rfl⟩
      rw [← hi'] at hBg
      have his : i' ≤ s.size := by omega
      obtain ⟨M, hM⟩ : ∃ M, M = s.data.toList.drop i' := ⟨_, rfl⟩
      have hMb : blanks (s.data.toList.drop i) = M := by
        unfold blanks
        rw [← Hb.out, List.drop_drop, hM, hi']
      have hPb : blankP (s.data.toList.drop i) (posF (s.data.toList.take i)) = posF (s.data.toList.take i') := by
        unfold blankP
        rw [← Hb.out, hi', List.take_add, posF_append]
      have HW := Lib.hid (HWd.out wc (w.heap.size + 1) i' hx his hBg)
      rw [← hM] at HW
      obtain ⟨P, hP⟩ : ∃ P, P = posF (s.data.toList.take i') := ⟨_, rfl⟩
      rw [← hP] at HW hPb
      obtain ⟨T, hT⟩ : ∃ T, T = M.take (firstL M).2.1 := ⟨_, rfl⟩
      rw [← hT] at HW
      have Hlex2 := Hlex.out
      unfold lexL at Hlex2
      rw [hMb, hPb] at Hlex2
      have hnM := first_le M
      have hM4 := first_end M
      obtain ⟨⟨k, n, e⟩, hF⟩ : ∃ x : Nat × Nat × Nat, x = firstL M := ⟨_, rfl⟩
      rw [← hF] at HW Hlex2 hnM hT hM4
      obtain ⟨p, q⟩ := P
      unfold WordR at HW
      dsimp only at HW Hlex2 hnM hT hM4
      have HH := Lib.hid (And.intro hown (And.intro hBR hx))
      clear hown hBR hx hBg hcut Hlex
      have HT := Lib.hid hT
      have HL2 := Lib.hid Hlex2
      have HP := Lib.hid hP
      have HM := Lib.hid hM
      have HM4 := Lib.hid hM4
      clear hT Hlex2 hP hM hM4 hMb hPb hF Hb
      go_wp2_with fail
      refine HW.out.mono ?_
      rintro e0 w' ⟨rfl, hBg', hx'⟩
      obtain ⟨hown, hBR, hx⟩ := HH.out
      have HOwn := Lib.hid (own_ex (own_far hown (p := ⟨w.heap.size + 1, 1, none⟩) (Nat.lt_succ_self _) (.int .i64 ((i' + n : Nat) : Int))) hx')
      have HBR := Lib.hid ((hBR.far (p := ⟨w.heap.size + 1, 1, none⟩) (Nat.ne_of_lt (Nat.lt_succ_self _)) (.int .i64 ((i' + n : Nat) : Int))).ex hx')
      have HX := Lib.hid ((hx.setCell (p := ⟨w.heap.size + 1, 1, none⟩) (Nat.le_succ _) (.int .i64 ((i' + n : Nat) : Int))).trans hx')
      have HBg := Lib.hid hBg'
      clear hown hBR hx hBg' hx' HW HH
      by_cases h4 : k = 4
      · have b4 : ((k : Int) == 4) = true := by rw [beq_iff_eq]; omega
        have hr := HL2.out
        rw [if_pos h4] at hr
        have HRr := Lib.hid hr
        have HT4 := Lib.hid (HM4.out h4)
        have HL : Hid (l.length ≤ 1000) := by show _ ≤ _; omega
        have HSz : Hid (w.heap.size + 1 + 1 ≤ w'.heap.size) := HBg.out.lt
        have H4 : Hid (k = 4) := h4
        clear hr HL2 h4 HM4 hlf hi' his hnM hN hDs hD
        have HI := Lib.hid info36
        have HBl := Lib.hid HOwn.out.1
        have HT5 : Hid (T = []) := by
          show _ = _
          rw [HT.out, HT4.out, List.take_nil]
        go_upto_region 8 with fail
        obtain ⟨i0, hi, hz0, hz1, hz2⟩ := HI.out
        have hli : l.length ≤ 1000 := HL.out
        have hls : w.heap.size + 1 + 1 ≤ w'.heap.size := HSz.out
        go_wp2_with (at_builtin; refine wpList_append_own _ rfl _ _ 58 rfl (w.heap.size + 1 + 1) 66 i0 _ 4 40 Tryz.underlying58 hi hz0 hz1 hz2 rfl (by decide) _ _ _ rfl ((HOwn.out.alloc _).alloc _) ⟨w'.heap.size + 1, 0, none⟩ 1 1 (wdVs ⟨k, T, (p, q)⟩) rfl rfl ?c1 ?c2 ?c3 ?c4 ?c5 ?_)
        case c1 => exact cells_at (Blk.new' _ (by simp) 66 (wdVs ⟨k, T, (p, q)⟩))
        case c2 => intro u hu; simp [wdVs] at hu; rcases hu with rfl | rfl | rfl | rfl <;> rfl
        case c3 => unfold maxLen; omega
        case c4 => omega
        case c5 => rw [World.size_alloc, World.size_alloc]; omega
        · intro v' w2 hown2 hg _
          have hBR2 := own_keep ((HOwn.out.alloc _).alloc _) hg ((HBR.out.alloc _).alloc _) (Nat.lt_succ_of_lt (Nat.lt_succ_self _))
          have hX2 : Ex w w2 := ((HX.out.alloc _).alloc _).grown hg (fun k hk => by have := (HOwn.out.lt k hk).1; omega)
          have r0 : w2.cell? ⟨w.heap.size, 0, none⟩ = some (.int .i64 0) := hBR2.cell 0
          have r1 : w2.cell? ⟨w.heap.size, 1, none⟩ = some (.int .i64 0) := hBR2.cell 1
          have r2 := hBR2.frozen 0
          have r3 := hBR2.frozen 1
          have HBR2 := Lib.hid hBR2
          have HX2 := Lib.hid hX2
          have HO2 := Lib.hid hown2
          clear hBR2 hX2 hown2 hg
          go_wp2_with fail
          refine bodyPost_ret (results_words (y := v') (v := .int .i64 0) rfl rfl rfl rfl ((HBR2.out.set_ 0 _).set_ 1 _)) rfl ?_
          rw [← HRr.out]
          refine ⟨v', rfl, ?_, (HX2.out.setCell (Nat.le_refl _) _).setCell (Nat.le_refl _) _⟩
          have ho := own_base (own_far (own_far HO2.out (p := ⟨w.heap.size, 0, none⟩) (by show w.heap.size < _; omega) (.int .i64 0)) (p := ⟨w.heap.size, 1, none⟩) (by show w.heap.size < _; omega) (.int .i64 0)) (show w.heap.size ≤ w.heap.size + 1 + 1 by omega)
          rw [H4.out, HT5.out] at ho
          rw [wdsV_append, List.length_append]
          exact ho
      · have b4 : ((k : Int) == 4) = false := beq_eq_false_iff_ne.2 (by omega)
        have hr := HL2.out
        rw [if_neg h4] at hr
        obtain ⟨-, A, c, rfl⟩ := own_len HOwn.out
        have HSz : Hid (w.heap.size + 1 + 1 ≤ w'.heap.size) := HBg.out.lt
        have lR := HBR.out.lt
        have r0 : ∀ o, (w'.alloc o).cell? ⟨w.heap.size, 0, none⟩ = some (.int .i64 0) := fun o => (HBR.out.alloc o).cell 0
        have r1 : ∀ o u, ((w'.setCell ⟨w.heap.size, 0, none⟩ u).alloc o).cell? ⟨w.heap.size, 1, none⟩ = some (.int .i64 0) := fun o u => ((HBR.out.set_ 0 u).alloc o).cell 1
        have r2 : ∀ o, (w'.alloc o).frozen? ⟨w.heap.size, 0, none⟩ = false := fun o => (HBR.out.alloc o).frozen 0
        have r3 : ∀ o u, ((w'.setCell ⟨w.heap.size, 0, none⟩ u).alloc o).frozen? ⟨w.heap.size, 1, none⟩ = false := fun o u => ((HBR.out.set_ 0 u).alloc o).frozen 1
        cases f with
        | zero =>
          have bl : ((l.length : Int) == 1000) = true := by rw [beq_iff_eq]; omega
          have HRr := Lib.hid hr
          clear hr HL2 h4 HM4
          go_wp2_with fail
          go_region
          go_wp2_with fail
          refine bodyPost_ret (results_words (y := .slice none 0 0) (v := .int .i64 5) rfl rfl rfl rfl (Blk.drew (((HBR.out.set_ 0 (.int .i64 p)).set_ 1 (.int .i64 q)).alloc _))) rfl ?_
          rw [← HRr.out]
          exact ⟨rfl, (((HX.out.setCell (Nat.le_refl _) _).setCell (Nat.le_refl _) _).alloc _).drew⟩
        | succ f =>
          have bl : ((l.length : Int) == 1000) = false := beq_eq_false_iff_ne.2 (by omega)
          dsimp only at hr
          by_cases he : e = 0
          · rw [if_pos he, LexR.app_cons] at hr
            have be : ((e : Int) == 0) = true := by rw [beq_iff_eq]; omega
            have HIN : Hid (i' + n ≤ s.size) := by
              show _ ≤ _
              rw [HM.out, List.length_drop, ← size_data] at hnM
              omega
            have HNX : Hid ((lexL f (s.data.toList.drop (i' + n)) (posF (s.data.toList.take (i' + n)))).app (l ++ [⟨k, T, (p, q)⟩]) = RR) := by
              show _ = _
              rw [← hr, HT.out, List.take_add, posF_append, ← HP.out, HM.out, List.drop_drop]
            have hlf2 : l.length + (f + 1) = 1000 := hlf
            have HI := Lib.hid info36
            clear hr HL2 h4 HM4 he hnM
            go_upto_region 13 with fail
            obtain ⟨i0, hi, hz0, hz1, hz2⟩ := HI.out
            go_wp2_with (at_builtin; refine wpList_append_own _ rfl _ _ 58 rfl (w.heap.size + 1 + 1) 66 i0 _ 4 40 Tryz.underlying58 hi hz0 hz1 hz2 rfl (by decide) _ _ _ rfl ((HOwn.out.alloc _).alloc _) ⟨w'.heap.size + 1, 0, none⟩ 1 1 (wdVs ⟨k, T, (p, q)⟩) rfl rfl ?c1 ?c2 ?c3 ?c4 ?c5 ?_)
            case c1 => exact cells_at (Blk.new' _ (by simp) 66 (wdVs ⟨k, T, (p, q)⟩))
            case c2 => intro u hu; simp [wdVs] at hu; rcases hu with rfl | rfl | rfl | rfl <;> rfl
            case c3 => unfold maxLen; omega
            case c4 => omega
            case c5 => rw [World.size_alloc, World.size_alloc]; have := HSz.out; omega
            · intro v' w2 hown2 hg _
              have hBR2 := own_keep ((HOwn.out.alloc _).alloc _) hg ((HBR.out.alloc _).alloc _) (Nat.lt_succ_of_lt (Nat.lt_succ_self _))
              have hBg2 := own_keep ((HOwn.out.alloc _).alloc _) hg ((HBg.out.alloc _).alloc _) (Nat.lt_succ_self _)
              have hX2 : Ex w w2 := ((HX.out.alloc _).alloc _).grown hg (fun k hk => by have := (HOwn.out.lt k hk).1; omega)
              have hv := (own_len hown2).1
              have HV : Hid (lenV v' = l.length + 1) := hv
              have HREL : Hid (WordsRel s s.data.toList RR w v' (i' + n) (l ++ [⟨k, T, (p, q)⟩]) f w2) := by
                refine ⟨?_, ?_, ?_, hBg2, hBR2, hX2, HNX.out⟩
                · rw [List.length_append]; show l.length + 1 + f = 1000; omega
                · exact HIN.out
                · rw [List.length_append, wdsV_append]
                  exact hown2
              clear hBR2 hBg2 hX2 hown2 hg hv
              go_wp2_with fail
              refine ⟨⟨_, _, _, HREL⟩, ?_⟩
              have h9 := HV.out
              show 1001 - lenV v' < 1001 - l.length
              omega
          · rw [if_neg he] at hr
            have be : ((e : Int) == 0) = false := beq_eq_false_iff_ne.2 (by omega)
            have HRr := Lib.hid hr
            clear hr HL2 h4 HM4
            go_wp2_with fail
            go_region
            go_wp2_with fail
            refine bodyPost_ret (results_words (y := .slice none 0 0) (v := .int .i64 e) rfl rfl rfl rfl (Blk.drew (((HBR.out.set_ 0 (.int .i64 p)).set_ 1 (.int .i64 q)).alloc _))) rfl ?_
            rw [← HRr.out]
            exact ⟨rfl, (((HX.out.setCell (Nat.le_refl _) _).setCell (Nat.le_refl _) _).alloc _).drew⟩
end Go.Proofs.YthjalkonlcjhnaaGreatDoor
