/-
  The words, by the reference.
  Conditions: texts of at most 16384 bytes.
-/
import Derived.Test.YthjalkonlcjhnaaGreatDoorPn
namespace Go.Proofs.YthjalkonlcjhnaaGreatDoor
open Go.RowKit
theorem lex_blank (f : Nat) (c : UInt8) (r : List UInt8) (p : Nat × Nat) (h : blkB c = true) : lexL f (c :: r) p = lexL f r (posStep p c) := by
  have hb : blanks (c :: r) = blanks r := by
    unfold blanks spanL; simp [h]
  have hp : blankP (c :: r) p = blankP r (posStep p c) := by
    unfold blankP spanL; simp [h]
  cases f <;> simp only [lexL, hb, hp]
theorem lex_end (f : Nat) (p : Nat × Nat) : lexL f [] p = .ok [⟨4, [], p⟩] := by cases f <;> rfl
theorem blanks_not {c : UInt8} {r : List UInt8} (h : blkB c = false) : blanks (c :: r) = c :: r := by
  unfold blanks spanL; simp [h]
theorem blankP_not {c : UInt8} {r : List UInt8} {p : Nat × Nat} (h : blkB c = false) : blankP (c :: r) p = p := by
  unfold blankP spanL; simp [h]
theorem first_cons4 (c : UInt8) (r : List UInt8) : (firstL (c :: r)).1 ≠ 4 := fun h => by have := first_end _ h; cases this
theorem lex_full (c : UInt8) (r : List UInt8) (p : Nat × Nat) (h : blkB c = false) : lexL 0 (c :: r) p = .bad p 5 := by
  unfold lexL
  rw [blanks_not h, blankP_not h, if_neg (first_cons4 c r)]
theorem lex_bad (f : Nat) (c : UInt8) (r : List UInt8) (p : Nat × Nat) (h : blkB c = false) (he : (firstL (c :: r)).2.2 ≠ 0) : lexL (f + 1) (c :: r) p = .bad p (firstL (c :: r)).2.2 := by
  unfold lexL
  rw [blanks_not h, blankP_not h, if_neg (first_cons4 c r)]
  dsimp only
  rw [if_neg he]
theorem lex_word (f : Nat) (c : UInt8) (r : List UInt8) (p : Nat × Nat) (h : blkB c = false) (he : (firstL (c :: r)).2.2 = 0) :
    lexL (f + 1) (c :: r) p = (lexL f ((c :: r).drop (firstL (c :: r)).2.1) (((c :: r).take (firstL (c :: r)).2.1).foldl posStep p)).cons ⟨(firstL (c :: r)).1, (c :: r).take (firstL (c :: r)).2.1, p⟩ := by
  conv => lhs; unfold lexL
  rw [blanks_not h, blankP_not h, if_neg (first_cons4 c r)]
  dsimp only
  rw [if_pos he]
theorem fold_line : ∀ (T : List UInt8) (p : Nat × Nat), (∀ c ∈ T, c.toNat ≠ 10) → T.foldl posStep p = (p.1, p.2 + T.length)
  | [], p, _ => rfl
  | c :: T, p, h => by
    rw [List.foldl_cons, show posStep p c = (p.1, p.2 + 1) from if_neg (h c (List.mem_cons_self ..)), fold_line T _ (fun x hx => h x (List.mem_cons_of_mem _ hx))]
    simp; omega
theorem dig_10 {c : UInt8} (h : digB c = true) : c.toNat ≠ 10 := by
  rw [digB_iff] at h; omega
theorem part_10 {c : UInt8} (h : partB c = true) : c.toNat ≠ 10 := by
  intro e
  unfold partB letB digB at h
  simp [e] at h
theorem sign_10 : ∀ t ∈ signs, ∀ c ∈ t.data.toList, c.toNat ≠ 10 := by decide
theorem first_10 {M : List UInt8} {k n : Nat} (h : firstL M = (k, n, 0)) : ∀ c ∈ M.take n, c.toNat ≠ 10 := by
  cases M with
  | nil => simp
  | cons a r =>
    by_cases hd : digB a = true
    · rw [first_dig (c := a) rfl hd] at h
      injection h with _ h; injection h with h _
      rw [← h]
      exact fun c hc => dig_10 (List.all_eq_true.1 (take_all digB _) c hc)
    · have hd : digB a = false := by simpa using hd
      by_cases hl : letB a = true
      · rw [first_let (c := a) rfl hd hl] at h
        injection h with _ h; injection h with h _
        rw [← h]
        exact fun c hc => part_10 (List.all_eq_true.1 (take_all partB _) c hc)
      · rw [first_sgn (c := a) rfl hd (by simpa using hl)] at h
        cases hs : signF ⟨(a :: r).toArray⟩ with
        | none => rw [hs] at h; simp at h
        | some t =>
          rw [hs] at h
          injection h with _ h; injection h with h _
          rw [← h]
          have hst := sign_take hs
          have e : (a :: r).take t.size = t.data.toList := by
            conv => rhs; rw [hst]
          rw [e]
          exact sign_10 t (List.mem_of_find?_eq_some hs)
theorem drop_at {s : ByteArray} {i : Nat} (h : i < s.size) : s.data.toList.drop i = s[i] :: s.data.toList.drop (i + 1) := by
  have hl : i < s.data.toList.length := by rw [← size_data]; exact h
  rw [List.drop_eq_getElem_cons hl]
  rfl
theorem rWords_long (s : ByteArray) (w : World) (h : 16384 < s.size) : Calls Tryz.prog 52 #[.string s] w (WordsR w (.bad (0, 0) 5)) := by
  have f1 : decide (16384 < (s.size : Int)) = true := decide_eq_true (by omega)
  have HB : Hid (Blk (w.alloc (Obj.cells #[Value.int IntKind.i64 0, Value.int IntKind.i64 0] 39)) w.heap.size 39 [.int .i64 0, .int .i64 0]) := Blk.new w 39 _
  unfold WordsR
  go_enter Tryz.func52, Tryz.ntmps52
  go_wp2_with fail
  exact bodyPost_ret (results_words (y := .slice none 0 0) (v := .int .i64 5) rfl rfl rfl rfl HB.out) rfl ⟨rfl, (Ex.refl w).alloc _⟩
def RRel (s : ByteArray) (R : LexR) (w : World) (v : Value) (i : Nat) (l : List Wd) (f p q : Nat) (wr : World) : Prop :=
  l.length + f = 1000 ∧ i ≤ s.size ∧ wr.ownsRow (w.heap.size + 1 + 1) 66 4 v l.length (wdsV l) ∧ Blk wr (w.heap.size + 1) 39 [.int .i64 p, .int .i64 q] ∧ Blk wr w.heap.size 39 [.int .i64 0, .int .i64 0] ∧ Ex w wr ∧ (lexL f (s.data.toList.drop i) (p, q)).app l = R ∧ p ≤ i + 1 ∧ q ≤ i + 2
set_option maxRecDepth 20000 in
set_option maxHeartbeats 1600000 in
theorem rWords_c (s : ByteArray) (w : World) (h : s.size ≤ 16384) : Calls Tryz.prog 52 #[.string s] w (WordsR w (lexL 1000 s.data.toList (1, 1))) := by
  have f1 : decide (16384 < (s.size : Int)) = false := decide_eq_false (by omega)
  have HR0 : Hid ((lexL 1000 (s.data.toList.drop 0) (1, 1)).app [] = lexL 1000 s.data.toList (1, 1)) := by
    show _ = _
    cases hh : lexL 1000 s.data.toList (1, 1) <;> simp [LexR.app, hh]
  obtain ⟨RR, hRR⟩ : ∃ r, r = lexL 1000 s.data.toList (1, 1) := ⟨_, rfl⟩
  rw [← hRR] at HR0 ⊢
  have HR : Hid (Blk (w.alloc (Obj.cells #[Value.int IntKind.i64 0, Value.int IntKind.i64 0] 39)) w.heap.size 39 [.int .i64 0, .int .i64 0]) := Blk.new w 39 _
  have HG : Hid (Blk ((w.alloc (Obj.cells #[Value.int IntKind.i64 0, Value.int IntKind.i64 0] 39)).alloc (Obj.cells #[Value.int IntKind.i64 1, Value.int IntKind.i64 1] 39)) (w.heap.size + 1) 39 [.int .i64 ((1 : Nat) : Int), .int .i64 ((1 : Nat) : Int)]) := Blk.new' _ (by simp) 39 _
  clear hRR
  go_enter Tryz.func52, Tryz.ntmps52
  go_wp2_with fail
  go_loopw [5, 7] (fun v i wr => ∃ j l f p q, i = .int .i64 ((j : Nat) : Int) ∧ Hid (RRel s RR w v j l f p q wr)) (fun _ i _ => s.size - (intOf i).toNat)
  case atStart =>
    refine ⟨0, [], 1000, 1, 1, rfl, rfl, by omega, World.ownsRow_nil _ _ _ _, HG.out, HR.out.alloc _, ((Ex.refl w).alloc _).alloc _, HR0.out, by omega, by omega⟩
  case round =>
    obtain ⟨i, l, f, p, q, rfl, hrel⟩ := hrel
    obtain ⟨hlf, hi, hown, hBg, hBR, hx, hlex, hp, hq⟩ := hrel.out
    have lG := hBg.lt
    have lR := hBR.lt
    have c0 : wr.cell? ⟨w.heap.size + 1, 0, none⟩ = some (.int .i64 p) := hBg.cell 0
    have c1 : wr.cell? ⟨w.heap.size + 1, 1, none⟩ = some (.int .i64 q) := hBg.cell 1
    have d0 := hBg.frozen 0
    have d1 := hBg.frozen 1
    have e0 : wr.cell? ⟨w.heap.size, 0, none⟩ = some (.int .i64 0) := hBR.cell 0
    have e1 : wr.cell? ⟨w.heap.size, 1, none⟩ = some (.int .i64 0) := hBR.cell 1
    have e2 := hBR.frozen 0
    have e3 := hBR.frozen 1
    have HOwn := Lib.hid hown
    have HBg := Lib.hid hBg
    have HBR := Lib.hid hBR
    have HX := Lib.hid hx
    have Hlex := Lib.hid hlex
    obtain ⟨-, A, c, rfl⟩ := own_len hown
    clear hown hBg hBR hx hlex hrel
    by_cases his : i < s.size
    · have hi0 : (i : Int) < (s.size : Int) := by omega
      have hd := drop_at his
      cases hbk : blkB s[i] with
      | true =>
        have HC := Lib.hid (rBlank_c s[i])
        rw [hbk] at HC
        have HN : Hid ((lexL f (s.data.toList.drop (i + 1)) (posStep (p, q) s[i])).app l = RR) := by
          show _ = _
          rw [← Hlex.out, hd, lex_blank _ _ _ _ hbk]
        have hb : ((s[i].toNat : Int) == 10) = decide (s[i].toNat = 10) := eq_nat _ 10
        have hlf2 : Hid (l.length + f = 1000) := hlf
        unfold posStep at HN
        clear hd hlf Hlex
        by_cases h10 : s[i].toNat = 10
        · rw [decide_eq_true h10] at hb
          rw [if_pos h10] at HN
          clear h10 hbk
          go_wp2_with fail
          refine (HC.out _).mono ?_
          rintro e w' ⟨rfl, z, rfl⟩
          have lG' := lt_ext z lG
          have lR' := lt_ext z lR
          go_wp2_with fail
          refine ⟨⟨i + 1, l, f, p + 1, 1, by go_num, ?_⟩, by simp [intOf]; omega⟩
          exact Lib.hid ⟨hlf2.out, by omega, own_far (own_far (own_far (own_ex HOwn.out ⟨z, rfl⟩) (Nat.lt_succ_self _) _) (Nat.lt_succ_self _) _) (Nat.lt_succ_self _) _, (((HBg.out.ex ⟨z, rfl⟩).set_ 1 _).set_ 0 _).set_ 1 _, (((HBR.out.ex ⟨z, rfl⟩).far (Nat.ne_of_lt (Nat.lt_succ_self _)) _).far (Nat.ne_of_lt (Nat.lt_succ_self _)) _).far (Nat.ne_of_lt (Nat.lt_succ_self _)) _, (((HX.out.ext z).setCell (Nat.le_succ _) _).setCell (Nat.le_succ _) _).setCell (Nat.le_succ _) _, HN.out, by omega, by omega⟩
        · rw [decide_eq_false h10] at hb
          rw [if_neg h10] at HN
          clear h10 hbk
          go_wp2_with fail
          refine (HC.out _).mono ?_
          rintro e w' ⟨rfl, z, rfl⟩
          have lG' := lt_ext z lG
          have lR' := lt_ext z lR
          go_wp2_with fail
          refine ⟨⟨i + 1, l, f, p, q + 1, by go_num, ?_⟩, by simp [intOf]; omega⟩
          exact Lib.hid ⟨hlf2.out, by omega, own_far (own_ex HOwn.out ⟨z, rfl⟩) (Nat.lt_succ_self _) _, (HBg.out.ex ⟨z, rfl⟩).set_ 1 _, (HBR.out.ex ⟨z, rfl⟩).far (Nat.ne_of_lt (Nat.lt_succ_self _)) _, (HX.out.ext z).setCell (Nat.le_succ _) _, HN.out, by omega, by omega⟩
      | false =>
        have HC := Lib.hid (rBlank_c s[i])
        rw [hbk] at HC
        cases f with
        | zero =>
          have bl : ((l.length : Int) == 1000) = true := by rw [beq_iff_eq]; omega
          have HRr : Hid (LexR.bad (p, q) 5 = RR) := by
            show _ = _
            rw [← Hlex.out, hd, lex_full _ _ _ hbk]; rfl
          clear hd hlf Hlex hbk
          go_wp2_with fail
          refine (HC.out _).mono ?_
          rintro e w' ⟨rfl, z, rfl⟩
          have lG' := lt_ext z lG
          have lR' := lt_ext z lR
          go_wp2_with fail
          go_region
          go_wp2_with fail
          refine bodyPost_ret (results_words (y := .slice none 0 0) (v := .int .i64 5) rfl rfl rfl rfl (Blk.drew (((HBR.out.ex ⟨z, rfl⟩).set_ 0 (.int .i64 p)).set_ 1 (.int .i64 q)))) rfl ?_
          rw [← HRr.out]
          exact ⟨rfl, ((((HX.out.ext z).setCell (Nat.le_refl _) _).setCell (Nat.le_refl _) _)).drew⟩
        | succ f =>
          have bl : ((l.length : Int) == 1000) = false := beq_eq_false_iff_ne.2 (by omega)
          obtain ⟨D, hD⟩ : ∃ D, s.extract i s.size = D := ⟨_, rfl⟩
          have hDl : D.data.toList = s.data.toList.drop i := by rw [← hD, drop_data]
          have hDs : D.size = s.size - i := by rw [size_data, hDl, List.length_drop, ← size_data]
          obtain ⟨k', hk', hF⟩ := rFirst_c D (by omega) (by omega)
          rw [hDl] at hk' hF
          have hlex := Hlex.out
          rw [hd] at hlex
          have hnM := first_le (s.data.toList.drop i)
          obtain ⟨M, hM⟩ : ∃ M, M = s.data.toList.drop i := ⟨_, rfl⟩
          rw [← hd, ← hM] at hlex
          rw [← hM] at hk' hF hnM
          obtain ⟨k, n, e, hfi⟩ : ∃ k n e, firstL M = (k, n, e) := ⟨_, _, _, rfl⟩
          have h4 : k ≠ 4 := by
            intro h
            have := first_end M (by rw [hfi]; exact h)
            rw [hM, hd] at this
            cases this
          rw [hfi] at hk' hF hnM
          dsimp only at hk' hF hnM
          have hTl : (M.take n).length = n := by rw [List.length_take]; omega
          have hML : M.length = s.size - i := by rw [hM, List.length_drop, ← size_data]
          obtain ⟨T, hT⟩ : ∃ T : List UInt8, T = M.take n := ⟨_, rfl⟩
          obtain ⟨TB, hTB⟩ : ∃ TB : ByteArray, TB = ⟨T.toArray⟩ := ⟨_, rfl⟩
          have hTBs : TB.size = n := by rw [hTB, size_data]; show T.length = n; rw [hT]; exact hTl
          rw [← hT, ← hTB] at hF
          have HF := Lib.hid hF
          unfold firV at HF
          by_cases he : e = 0
          · subst he
            have hk2 : k' = k := hk' rfl
            subst hk2
            have hw := lex_word f s[i] (s.data.toList.drop (i + 1)) (p, q) hbk (by rw [← hd, ← hM, hfi])
            rw [← hd, ← hM, hfi] at hw
            dsimp only at hw
            rw [hw, LexR.app_cons, ← hT, fold_line T (p, q) (by rw [hT]; exact first_10 hfi), hM, List.drop_drop] at hlex
            have hTl2 : T.length = n := by rw [hT]; exact hTl
            rw [hTl2] at hlex
            have HN := Lib.hid hlex
            have hin : i + n ≤ s.size := by omega
            have hn0 : 0 < n := (first_pos hfi h4).1
            have hlf2 : l.length + (f + 1) = 1000 := hlf
            have HI := Lib.hid info36
            have HTB := Lib.hid hTB
            have HTL := Lib.hid hTl2
            clear hd hlf Hlex hlex hbk hw hfi hT hTB hTl hML hM hnM hF hk' h4 hDl hTl2
            go_wp2_with fail
            refine (HC.out _).mono ?_
            rintro e w' ⟨rfl, z, rfl⟩
            have lG' := lt_ext z lG
            have lR' := lt_ext z lR
            go_upto_region 18 with (go_at_call 80; refine (HF.out _).mono ?_; rintro e w' ⟨rfl, z2, rfl⟩)
            obtain ⟨i0, hi, hz0, hz1, hz2⟩ := HI.out
            have lG2 := lt_ext z2 lG'
            have lR2 := lt_ext z2 lR'
            go_wp2_with (at_builtin; refine wpList_append_own _ rfl _ _ 58 rfl (w.heap.size + 1 + 1) 66 i0 _ 4 40 Tryz.underlying58 hi hz0 hz1 hz2 rfl (by decide) _ _ _ rfl (((own_ex (own_ex HOwn.out ⟨z, rfl⟩) ⟨z2, rfl⟩)).alloc _) ⟨(ext (ext wr z) z2).heap.size, 0, none⟩ 1 1 [.int .i64 (k' : Nat), .string TB, .int .i64 p, .int .i64 q] rfl rfl ?c1 ?c2 ?c3 ?c4 ?c5 ?_)
            case c1 => exact cells_at (Blk.new _ 66 _)
            case c2 => intro u hu; simp at hu; rcases hu with rfl | rfl | rfl | rfl <;> rfl
            case c3 => unfold maxLen; omega
            case c4 => omega
            case c5 => rw [World.size_alloc]; omega
            · intro v' w2 hown2 hg _
              have hBR2 := own_keep (((own_ex (own_ex HOwn.out ((Ex.refl _).ext z)) ((Ex.refl _).ext z2))).alloc _) hg (((HBR.out.ex ((Ex.refl _).ext z)).ex ((Ex.refl _).ext z2)).alloc _) (Nat.lt_succ_of_lt (Nat.lt_succ_self _))
              have hBg2 := own_keep (((own_ex (own_ex HOwn.out ((Ex.refl _).ext z)) ((Ex.refl _).ext z2))).alloc _) hg (((HBg.out.ex ((Ex.refl _).ext z)).ex ((Ex.refl _).ext z2)).alloc _) (Nat.lt_succ_self _)
              have hX2 : Ex w w2 := (((HX.out.ext z).ext z2).alloc _).grown hg (fun k hk => by have := (HOwn.out.lt k hk).1; omega)
              have HREL : Hid (w2.ownsRow (w.heap.size + 1 + 1) 66 4 v' (l ++ [(⟨k', T, (p, q)⟩ : Wd)]).length (wdsV (l ++ [⟨k', T, (p, q)⟩]))) := by
                show World.ownsRow _ _ _ _ _ _ _
                rw [List.length_append, wdsV_append]
                rw [HTB.out] at hown2
                exact hown2
              have g1 : w2.cell? ⟨w.heap.size + 1, 1, none⟩ = some (.int .i64 q) := hBg2.cell 1
              have g2 := hBg2.frozen 1
              have g3 := hBg2.lt
              have HBg2 := Lib.hid hBg2
              have HBR2 := Lib.hid hBR2
              have HX2 := Lib.hid hX2
              clear hBR2 hBg2 hX2 hown2 hg
              go_wp2_with fail
              refine ⟨⟨i + n, l ++ [(⟨k', T, (p, q)⟩ : Wd)], f, p, q + n, by go_num, ?_⟩, by simp [intOf]; omega⟩
              exact Lib.hid ⟨by rw [List.length_append]; show l.length + 1 + f = 1000; omega, hin, own_far HREL.out (Nat.lt_succ_self _) _, HBg2.out.set_ 1 _, HBR2.out.far (Nat.ne_of_lt (Nat.lt_succ_self _)) _, HX2.out.setCell (Nat.le_succ _) _, HN.out, by omega, by omega⟩
          · have be : ((e : Int) == 0) = false := beq_eq_false_iff_ne.2 (by omega)
            have be2 : ((e : Int) != 0) = true := by rw [bne_iff_ne]; omega
            have HRr : Hid (LexR.bad (p, q) e = RR) := by
              have hw := lex_bad f s[i] (s.data.toList.drop (i + 1)) (p, q) hbk (by rw [← hd, ← hM, hfi]; exact he)
              rw [← hd, ← hM, hfi] at hw
              rw [hw] at hlex
              exact hlex
            clear hd hlf Hlex hlex hbk hfi hT hTB hTl hML hM hnM hF hk' h4 hDl he
            go_wp2_with fail
            refine (HC.out _).mono ?_
            rintro e w' ⟨rfl, z, rfl⟩
            have lG' := lt_ext z lG
            have lR' := lt_ext z lR
            go_wp2_with fail
            refine (HF.out _).mono ?_
            rintro e w' ⟨rfl, z2, rfl⟩
            have lG2 := lt_ext z2 lG'
            have lR2 := lt_ext z2 lR'
            go_wp2_with fail
            go_region
            go_wp2_with fail
            refine bodyPost_ret (results_words (y := .slice none 0 0) rfl rfl rfl rfl (Blk.drew ((((HBR.out.ex ((Ex.refl _).ext z)).ex ((Ex.refl _).ext z2)).set_ 0 (.int .i64 p)).set_ 1 (.int .i64 q)))) rfl ?_
            rw [← HRr.out]
            exact ⟨rfl, (((((HX.out.ext z).ext z2).setCell (Nat.le_refl _) _).setCell (Nat.le_refl _) _)).drew⟩
    · have hin : ¬ ((i : Int) < (s.size : Int)) := by omega
      have hdn : decide ((i : Int) < (s.size : Int)) = false := decide_eq_false (by omega)
      have HRr : Hid ((LexR.ok [⟨4, [], (p, q)⟩]).app l = RR) := by
        show _ = _
        rw [← Hlex.out]
        have hnil : s.data.toList.drop i = [] := List.drop_eq_nil_of_le (by rw [← size_data]; omega)
        rw [hnil, lex_end]
      have HI := Lib.hid info36
      have hll : l.length ≤ 1000 := by omega
      clear Hlex hlf his
      go_upto_region 21 with fail
      obtain ⟨i0, hi, hz0, hz1, hz2⟩ := HI.out
      go_wp2_with (at_builtin; refine wpList_append_own _ rfl _ _ 58 rfl (w.heap.size + 1 + 1) 66 i0 _ 4 40 Tryz.underlying58 hi hz0 hz1 hz2 rfl (by decide) _ _ _ rfl (HOwn.out.alloc _) ⟨wr.heap.size, 0, none⟩ 1 1 [.int .i64 4, .string ⟨#[]⟩, .int .i64 p, .int .i64 q] rfl rfl ?d1 ?d2 ?d3 ?d4 ?d5 ?_)
      case d2 => exact ⟨rfl, rfl, rfl, rfl⟩
      case d3 => unfold maxLen; omega
      case d4 => omega
      case d5 => omega
      · intro v' w2 hown2 hg _
        have hBR2 := own_keep (HOwn.out.alloc _) hg (HBR.out.alloc _) (Nat.lt_succ_of_lt (Nat.lt_succ_self _))
        have hX2 : Ex w w2 := (HX.out.alloc _).grown hg (fun k hk => by have := (HOwn.out.lt k hk).1; omega)
        have r0 : w2.cell? ⟨w.heap.size, 0, none⟩ = some (.int .i64 0) := hBR2.cell 0
        have r1 : w2.cell? ⟨w.heap.size, 1, none⟩ = some (.int .i64 0) := hBR2.cell 1
        have r2 := hBR2.frozen 0
        have r3 := hBR2.frozen 1
        have HBR2 := Lib.hid hBR2
        have HX2 := Lib.hid hX2
        have HO2 := Lib.hid hown2
        clear hBR2 hX2 hown2 hg
        go_wp2_with fail
        refine bodyPost_ret (results_words (y := v') (v := .int .i64 0) rfl rfl rfl rfl ((HBR2.out.set_ 0 _).set_ 1 _)) rfl ?_
        rw [← HRr.out]
        refine ⟨v', rfl, ?_, (HX2.out.setCell (Nat.le_refl _) _).setCell (Nat.le_refl _) _⟩
        have ho := own_base (own_far (own_far HO2.out (p := ⟨w.heap.size, 0, none⟩) (by show w.heap.size < _; omega) (.int .i64 0)) (p := ⟨w.heap.size, 1, none⟩) (by show w.heap.size < _; omega) (.int .i64 0)) (show w.heap.size ≤ w.heap.size + 1 + 1 by omega)
        rw [wdsV_append, List.length_append]
        exact ho
end Go.Proofs.YthjalkonlcjhnaaGreatDoor
