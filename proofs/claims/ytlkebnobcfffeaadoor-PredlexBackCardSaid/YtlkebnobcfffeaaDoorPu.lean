/-
  The law Blanks, walked.
  Conditions: the world's tables are as laid (Env).
-/
import Derived.Test.YtlkebnobcfffeaaDoorPt
import Derived.Test.YtlkebnobcfffeaaDoorPs
import Derived.Laws.IdiomStrings
namespace Go.Proofs.YtlkebnobcfffeaaDoor
open Go.RowKit
set_option maxRecDepth 20000 in
set_option maxHeartbeats 1600000 in
theorem blanks_skip (s : ByteArray) (n : Nat) (w : World) (hE : Env w) (h : 300 < s.size) : Calls Tryd.prog 6 #[.string s, .int .u8 n] w (Ret w (.bool true)) := by
  have HA := Lib.hid (fun w' (hx : Ex w w') => awake_c w' (hE.ex hx))
  have f1 : decide (300 < (s.size : Int)) = true := decide_eq_true (by omega)
  clear hE h
  go_enter Tryd.func6, Tryd.ntmps6
  go_wp2_with fail
  refine (HA.out _ (Ex.refl _)).mono ?_
  rintro e w' ⟨rfl, z, rfl⟩
  go_wp2_with fail
  refine (HA.out _ ((Ex.refl _).ext z)).mono ?_
  rintro e w' ⟨rfl, z2, rfl⟩
  go_wp2_with fail
  go_ret
  exact Ret.mk rfl (((Ex.refl _).ext _).ext _)
set_option maxRecDepth 20000 in
set_option maxHeartbeats 1600000 in
theorem blanks_bad (s : ByteArray) (b : Nat) (w : World) (hE : Env w) (h : s.size ≤ 300) (p q n : Nat) (hR : lexL 1000 s.data.toList (1, 1) = .bad (p, q) n) : Calls Tryd.prog 6 #[.string s, .int .u8 b] w (Ret w (.bool true)) := by
  have HA := Lib.hid (fun w' (hx : Ex w w') => awake_c w' (hE.ex hx))
  have H10 := Lib.hid (fun w' (hx : Ex w w') => words_c s w' (hE.ex hx) (by omega))
  rw [hR] at H10
  unfold WordsR at H10
  dsimp only at H10
  obtain ⟨hp, hq, hn⟩ := lex_bad_pos _ _ _ _ _ hR (Nat.le_refl _) (Nat.le_refl _)
  have f1 : decide (300 < (s.size : Int)) = false := decide_eq_false (by omega)
  have f2 : ((n : Int) != 0) = true := by rw [bne_iff_ne]; omega
  have f7 : ((n : Int) == 0) = false := beq_eq_false_iff_ne.2 (by omega)
  clear hE h hR hp hq hn
  go_enter Tryd.func6, Tryd.ntmps6
  go_wp2_with fail
  refine (HA.out _ (Ex.refl _)).mono ?_
  rintro e w' ⟨rfl, z, rfl⟩
  go_wp2_with fail
  refine (H10.out _ ((Ex.refl _).ext z)).mono ?_
  rintro e w' ⟨rfl, hx⟩
  have HX1 : Hid (Ex w w') := ((Ex.refl _).ext z).trans hx
  clear hx
  go_wp2_with fail
  go_ret
  exact Ret.mk rfl (HX1.out.alloc _)
def spB (r : Nat) : ByteArray := if r = 0 then ⟨#[32]⟩ else if r = 1 then ⟨#[9]⟩ else if r = 2 then ⟨#[10]⟩ else ⟨#[32, 10, 9]⟩
theorem spB_all (r : Nat) : (spB r).data.toList.all blkB = true ∧ (spB r).data.toList ≠ [] ∧ (spB r).size ≤ 3 := by
  unfold spB
  split
  · decide
  split
  · decide
  split <;> decide
theorem data_app (a b : ByteArray) : (a ++ b).data.toList = a.data.toList ++ b.data.toList := by
  rw [ByteArray.data_append, Array.toList_append]
set_option maxRecDepth 20000 in
set_option maxHeartbeats 4000000 in
theorem blanks_ok (s : ByteArray) (b : Nat) (w : World) (hE : Env w) (h : s.size ≤ 300) (hb : b < 256) (l : List Wd) (hR : lexL 1000 s.data.toList (1, 1) = .ok l) : Calls Tryd.prog 6 #[.string s, .int .u8 b] w (Ret w (.bool true)) := by
  have HA := Lib.hid (fun w' (hx : Ex w w') => awake_c w' (hE.ex hx))
  have H10 := Lib.hid (fun w' (hx : Ex w w') => words_c s w' (hE.ex hx) (by omega))
  have H10t := Lib.hid (fun (t : ByteArray) w' (hx : Ex w w') (ht : t.size ≤ 16384) => words_c t w' (hE.ex hx) ht)
  rw [hR] at H10
  obtain ⟨n, hn⟩ : ∃ n, l.length = n + 1 := ⟨l.length - 1, by have := lex_ne hR; omega⟩
  have htot := lex_total _ _ _ _ hR
  rw [← size_data] at htot
  obtain ⟨SP, hSP⟩ : ∃ SP, SP = spB (b % 4) := ⟨_, rfl⟩
  obtain ⟨sp1, sp2, sp3⟩ := spB_all (b % 4)
  rw [← hSP] at sp1 sp2 sp3
  obtain ⟨m, hm, hmk⟩ := glue_words hR SP.data.toList sp2 sp1
  have hml : m.length = n + 1 := by rw [← hn]; simpa using congrArg List.length hmk
  have HM := Lib.hid hm
  have HN : Hid (l.length = n + 1) := hn
  have HNm : Hid (m.length = n + 1) := hml
  have HB : Hid (∀ k, (glue SP.data.toList (l.take k)).length ≤ 1300) := fun k => by
    rw [glue_len, ← size_data]
    have h1 := texts_take l k
    have h2 : (l.take k).length ≤ 301 := by rw [List.length_take]; omega
    have h3 : (l.take k).length * SP.size ≤ 301 * 3 := Nat.mul_le_mul h2 sp3
    omega
  have HK := Lib.hid (fun k x (hx : l[k]? = some x) => key_get hmk hx)
  have HG := Lib.hid (fun k x (hx : l[k]? = some x) => glue_take SP.data.toList l k x hx)
  have HGl : Hid (∀ k, n + 1 ≤ k → glue SP.data.toList (l.take k) = glue SP.data.toList l) := fun k hk => by rw [List.take_of_length_le (by omega)]
  have HG0 : Hid (glue SP.data.toList (l.take 0) = SP.data.toList) := by
    show _ = _
    unfold glue; simp
  have f1 : decide (300 < (s.size : Int)) = false := decide_eq_false (by omega)
  have fn0 : ((n : Int) + 1 == 0) = false := beq_eq_false_iff_ne.2 (by omega)
  have hn1 : n ≤ 300 := by omega
  have HSP := Lib.hid hSP
  unfold WordsR at H10
  dsimp only at H10
  rw [hn] at H10
  clear hE hR hn htot hm hmk hml hSP sp1 sp2
  go_enter Tryd.func6, Tryd.ntmps6
  go_wp2_with fail
  refine (HA.out _ (Ex.refl _)).mono ?_
  rintro e w' ⟨rfl, z, rfl⟩
  go_wp2_with fail
  refine (H10.out _ ((Ex.refl _).ext z)).mono ?_
  rintro e w1 ⟨v1, rfl, hown, hx1⟩
  obtain ⟨g, c, rfl, hA, -⟩ := At.of hown (Nat.succ_pos n)
  have HX1 : Hid (Ex w w1) := ((Ex.refl _).ext z).trans hx1
  have HAt := Lib.hid (fun w' (hx : Ex w1 w') => hA.ex hx)
  clear hx1 hA hown HA H10
  go_upto_region 6 with fail
  go_cut [8] (fun s8 wx => s8 = .string SP ∧ Hid (Ex w1 wx))
  case first =>
    have hw : IntKind.i64.wrap (b : Int) = (b : Int) := IntWalk.i64_in _ (by omega)
    have hr : b % 4 = 0 ∨ b % 4 = 1 ∨ b % 4 = 2 ∨ b % 4 = 3 := by omega
    rcases hr with hr | hr | hr | hr
    all_goals
      rw [hr] at HSP
      have e2 : (b : Int) % 4 = ((b % 4 : Nat) : Int) := by omega
      have e1 : (b : Int).tmod 4 = ((b % 4 : Nat) : Int) := by rw [Int.tmod_eq_emod_of_nonneg (by omega)]; omega
      rw [hr] at e1 e2
      go_wp2_with fail
      go_meet
      exact ⟨by rw [HSP.out]; rfl, Lib.hid (((Ex.refl _).alloc _).alloc _)⟩
  case rest =>
    obtain ⟨rfl, HXc⟩ := hcut
    have HGt : Hid (∀ k, k < n + 1 → ∃ x, l[k]? = some x) := fun k hk => ⟨_, List.getElem?_eq_getElem (by rw [HN.out]; exact hk)⟩
    go_wp2_with fail
    go_loopw [9, 44] (fun t a wr => ∃ (k : Nat) (T : ByteArray), t = .string T ∧ a = .int .i64 k ∧ k ≤ n + 1 ∧ Hid (T.data.toList = glue SP.data.toList (l.take k)) ∧ Hid (Ex w1 wr)) (fun _ a _ => n + 1 - (intOf a).toNat)
    case atStart => exact ⟨0, SP, rfl, rfl, by omega, HG0.out.symm, HXc⟩
    case round =>
      obtain ⟨k, T, rfl, rfl, hk, HT, HX⟩ := hrel
      have hTs : T.size ≤ 1300 := by rw [size_data, HT.out]; exact HB.out k
      by_cases hlt : k < n + 1
      · have n1 : decide ((k : Int) < (n : Int) + 1) = true := decide_eq_true (by omega)
        have n0 : (0 : Int) ≤ (k : Int) := by omega
        obtain ⟨x, hxk⟩ := HGt.out k hlt
        obtain ⟨a0, a1, a2, a3⟩ := (HAt.out _ HX.out).word hxk
        have lg := (HAt.out _ HX.out).1
        have hgl := HG.out k x hxk
        have hTn := HB.out (k + 1)
        rw [hgl] at hTn
        obtain ⟨kd, tx, pp, qq⟩ := x
        dsimp only at a0 a1 a2 a3 hgl hTn
        obtain ⟨TX, hTX⟩ : ∃ TX : ByteArray, TX = ⟨tx.toArray⟩ := ⟨_, rfl⟩
        have hTd : TX.data.toList = tx := by rw [hTX]
        have hTXs : TX.size = tx.length := by rw [size_data, hTd]
        rw [← hTX] at a1
        have hsum : T.size + (TX.size + SP.size) ≤ 1300 := by
          rw [List.length_append, List.length_append, ← HT.out, ← size_data, ← size_data] at hTn
          omega
        have add1 : ∀ w, (Op.stringOp .add TX SP).run Tryd.prog w = .ok (.string (TX ++ SP)) w := fun w => run_string_add_sum w _ _ (by omega)
        have add2 : ∀ w, (Op.stringOp .add T (TX ++ SP)).run Tryd.prog w = .ok (.string (T ++ (TX ++ SP))) w := fun w => run_string_add_sum w _ _ (by rw [ByteArray.size_append]; omega)
        have HNx : Hid ((T ++ (TX ++ SP)).data.toList = glue SP.data.toList (l.take (k + 1))) := by
          show _ = _
          rw [hgl, data_app, data_app, HT.out, hTd]
        clear hgl hTn hTX hTd hxk hTXs hTs hsum
        go_wp2_with fail
        refine ⟨⟨k + 1, T ++ (TX ++ SP), by go_num, by go_num, by omega, HNx, Lib.hid (HX.out.alloc _)⟩, by simp [intOf]; omega⟩
      · have hkn : k = n + 1 := by omega
        subst hkn
        have n1 : decide (((n + 1 : Nat) : Int) < (n : Int) + 1) = false := decide_eq_false (by omega)
        have n2 : decide (n + 1 < n + 1) = false := decide_eq_false (by omega)
        have hT := HT.out
        rw [HGl.out (n + 1) (Nat.le_refl _)] at hT
        have HW := Lib.hid (fun w' (hx : Ex w w') => H10t.out T w' hx (by omega))
        rw [hT, HM.out] at HW
        unfold WordsR at HW
        dsimp only at HW
        rw [HNm.out] at HW
        clear hlt hT hTs H10t
        go_wp2_with fail
        refine (HW.out _ (HX1.out.trans HX.out)).mono ?_
        rintro e w2 ⟨v2, rfl, hown, hx2⟩
        obtain ⟨g2, c2, rfl, hA2, -⟩ := At.of hown (Nat.succ_pos n)
        have HX2 : Hid (Ex w1 w2) := HX.out.trans hx2
        have HAt2 := Lib.hid (fun w' (hx : Ex w2 w') => hA2.ex hx)
        clear hx2 hA2 hown HW
        go_wp2_with fail
        go_loopw [72] (fun a wr => ∃ k : Nat, a = .int .i64 k ∧ k ≤ n + 1 ∧ Hid (Ex w2 wr)) (fun a _ => n + 1 - (intOf a).toNat)
        case atStart => exact ⟨0, rfl, by omega, Lib.hid ((Ex.refl _).alloc _)⟩
        case round =>
          obtain ⟨k, rfl, hk, HX3⟩ := hrel
          by_cases hlt : k < n + 1
          · have m1 : decide ((k : Int) < (n : Int) + 1) = true := decide_eq_true (by omega)
            have m0 : (0 : Int) ≤ (k : Int) := by omega
            obtain ⟨x, hxk⟩ := HGt.out k hlt
            obtain ⟨y, hyk, hy1, hy2⟩ := HK.out k x hxk
            obtain ⟨a0, a1, a2, a3⟩ := (HAt.out _ (HX2.out.trans HX3.out)).word hxk
            obtain ⟨b0, b1, b2, b3⟩ := (HAt2.out _ HX3.out).word hyk
            have lg := (HAt.out _ (HX2.out.trans HX3.out)).1
            have lg2 := (HAt2.out _ HX3.out).1
            rw [hy1] at b0
            rw [hy2] at b1
            obtain ⟨kd, tx, pp, qq⟩ := x
            dsimp only at a0 a1 b0 b1
            generalize (⟨tx.toArray⟩ : ByteArray) = TX at *
            clear a2 a3 b2 b3 hxk hyk hy1 hy2
            go_wp2_with fail
            refine wp_region_ext (by kernel_rfl) (by kernel_rfl) ?_
            repeat (go_big_quiet_step (fail))
            refine wpQuiet_end (fun z9 => ?_)
            go_wp2_with fail
            refine ⟨⟨k + 1, by go_num, by omega, Lib.hid (HX3.out.ext _)⟩, by simp [intOf]; omega⟩
          · have hkn : k = n + 1 := by omega
            subst hkn
            have m1 : decide (((n + 1 : Nat) : Int) < (n : Int) + 1) = false := decide_eq_false (by omega)
            clear hlt
            go_wp2_with fail
            go_ret
            exact Ret.mk rfl (HX1.out.trans (HX2.out.trans HX3.out))
theorem blanks_c (s : ByteArray) (b : Nat) (w : World) (hE : Env w) (hb : b < 256) : Calls Tryd.prog 6 #[.string s, .int .u8 b] w (Ret w (.bool true)) := by
  by_cases h : 300 < s.size
  · exact blanks_skip s b w hE h
  · cases hR : lexL 1000 s.data.toList (1, 1) with
    | ok l => exact blanks_ok s b w hE (by omega) hb l hR
    | bad p n => obtain ⟨p, q⟩ := p; exact blanks_bad s b w hE (by omega) p q n hR
end Go.Proofs.YtlkebnobcfffeaaDoor
