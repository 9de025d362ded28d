/-
  The law Stands, walked.
  Conditions: the world's tables are as laid (Env).
-/
import Derived.Test.YtlkebnobcfffeaaDoorPr
namespace Go.Proofs.YtlkebnobcfffeaaDoor
open Go.RowKit
theorem span_in (p : UInt8 → Bool) : ∀ (l : List UInt8) (t : Nat) (c : UInt8), l[t]? = some c → (t < spanL p l → p c = true) ∧ (t = spanL p l → p c = false)
  | [], t, c, h => by simp at h
  | a :: l, t, c, h => by
    have e : spanL p (a :: l) = if p a = true then spanL p l + 1 else 0 := by
      unfold spanL
      rw [List.takeWhile_cons]
      split <;> rfl
    rw [e]
    cases t with
    | zero =>
      simp at h; subst h
      split <;> simp_all
    | succ t =>
      have := span_in p l t c (by simpa using h)
      split
      · exact ⟨fun h => this.1 (by omega), fun h => this.2 (by omega)⟩
      · exact ⟨fun h => by omega, fun h => by omega⟩
theorem span_byte (p : UInt8 → Bool) (s : ByteArray) (i m : Nat) (hm : m < s.size) (him : i ≤ m) :
    (m < i + spanL p (s.data.toList.drop i) → p s[m] = true) ∧ (m = i + spanL p (s.data.toList.drop i) → p s[m] = false) := by
  have hg := get_idx hm
  have := span_in p (s.data.toList.drop i) (m - i) s[m] (by rw [List.getElem?_drop, show i + (m - i) = m by omega]; exact hg)
  exact ⟨fun h => this.1 (by omega), fun h => this.2 (by omega)⟩
theorem pos_one : ∀ (l : List UInt8) (p : Nat × Nat), 1 ≤ p.1 → 1 ≤ p.2 → 1 ≤ (l.foldl posStep p).1 ∧ 1 ≤ (l.foldl posStep p).2
  | [], p, h1, h2 => ⟨h1, h2⟩
  | c :: l, p, h1, h2 => by
    rw [List.foldl_cons]
    refine pos_one l _ ?_ ?_ <;> unfold posStep <;> split <;> simp <;> omega
theorem lex_bad_pos : ∀ (f : Nat) (L : List UInt8) (P Q : Nat × Nat) (n : Nat), lexL f L P = .bad Q n → 1 ≤ P.1 → 1 ≤ P.2 → 1 ≤ Q.1 ∧ 1 ≤ Q.2 ∧ n ≠ 0 := by
  intro f
  induction f with
  | zero =>
    intro L P Q n h h1 h2
    unfold lexL at h
    split at h
    · cases h
    · injection h with ha hb
      subst ha hb
      exact ⟨(pos_one _ _ h1 h2).1, (pos_one _ _ h1 h2).2, by decide⟩
  | succ f ih =>
    intro L P Q n h h1 h2
    unfold lexL at h
    have hb := pos_one (L.take (spanL blkB L)) P h1 h2
    split at h
    · cases h
    · dsimp only at h
      split at h
      · generalize hR : lexL f _ _ = R at h
        cases R with
        | ok r => cases h
        | bad q e =>
          injection h with ha hb'
          subst ha hb'
          have hb2 := pos_one ((blanks L).take (firstL (blanks L)).2.1) (blankP L P) hb.1 hb.2
          exact ih _ _ _ _ hR hb2.1 hb2.2
      · rename_i he
        injection h with ha hb'
        subst ha hb'
        exact ⟨hb.1, hb.2, he⟩
theorem hasPrefix_c (s p : ByteArray) (b : Bool) (h : Lib.hasPrefix s.data.toList p.data.toList = b) (w : World) : Calls Tryd.prog 15 #[.string s, .string p] w (Ret w (.bool b)) :=
  (Tryd.strings_HasPrefix s p w).mono fun e w' ⟨he, hw⟩ => ⟨by rw [he, h], by rw [hw]; exact Ex.refl _⟩
set_option maxRecDepth 20000 in
set_option maxHeartbeats 1600000 in
theorem stands_skip (s : ByteArray) (w : World) (hE : Env w) (h : 600 < s.size) : Calls Tryd.prog 5 #[.string s] w (Ret w (.bool true)) := by
  have HA := Lib.hid (fun w' (hx : Ex w w') => awake_c w' (hE.ex hx))
  have f1 : decide (600 < (s.size : Int)) = true := decide_eq_true (by omega)
  clear hE h
  go_enter Tryd.func5, Tryd.ntmps5
  go_wp2_with fail
  refine (HA.out _ (Ex.refl _)).mono ?_
  rintro e w' ⟨rfl, z, rfl⟩
  go_wp2_with fail
  refine (HA.out _ ((Ex.refl _).ext z)).mono ?_
  rintro e w' ⟨rfl, z2, rfl⟩
  go_wp2_with fail
  go_ret
  exact Ret.mk rfl (((Ex.refl _).ext _).ext _)
set_option maxRecDepth 20000 in
set_option maxHeartbeats 1600000 in
theorem stands_bad (s : ByteArray) (w : World) (hE : Env w) (h : s.size ≤ 600) (p q n : Nat) (hR : lexL 1000 s.data.toList (1, 1) = .bad (p, q) n) : Calls Tryd.prog 5 #[.string s] w (Ret w (.bool true)) := by
  have HA := Lib.hid (fun w' (hx : Ex w w') => awake_c w' (hE.ex hx))
  have H10 := Lib.hid (fun w' (hx : Ex w w') => words_c s w' (hE.ex hx) (by omega))
  rw [hR] at H10
  unfold WordsR at H10
  dsimp only at H10
  obtain ⟨hp, hq, hn⟩ := lex_bad_pos _ _ _ _ _ hR (Nat.le_refl _) (Nat.le_refl _)
  dsimp only at hp hq
  have f1 : decide (600 < (s.size : Int)) = false := decide_eq_false (by omega)
  have f2 : ((n : Int) != 0) = true := by rw [bne_iff_ne]; omega
  have f3 : decide ((1 : Int) ≤ (p : Int)) = true := decide_eq_true (by omega)
  have f4 : decide ((1 : Int) ≤ (q : Int)) = true := decide_eq_true (by omega)
  have f5 : decide (1 ≤ p) = true := decide_eq_true (by omega)
  have f6 : decide (1 ≤ q) = true := decide_eq_true (by omega)
  have f7 : ((n : Int) == 0) = false := beq_eq_false_iff_ne.2 (by omega)
  clear hE h hR hp hq hn
  go_enter Tryd.func5, Tryd.ntmps5
  go_wp2_with fail
  refine (HA.out _ (Ex.refl _)).mono ?_
  rintro e w' ⟨rfl, z, rfl⟩
  go_wp2_with fail
  refine (H10.out _ ((Ex.refl _).ext z)).mono ?_
  rintro e w' ⟨rfl, hx⟩
  have HX1 : Hid (Ex w w') := ((Ex.refl _).ext z).trans hx
  clear hx
  go_wp2_with fail
  go_ret
  exact Ret.mk rfl (HX1.out.alloc _)
set_option maxRecDepth 20000 in
set_option maxHeartbeats 4000000 in
theorem stands_ok (s : ByteArray) (w : World) (hE : Env w) (h : s.size ≤ 600) (l : List Wd) (hR : lexL 1000 s.data.toList (1, 1) = .ok l) : Calls Tryd.prog 5 #[.string s] w (Ret w (.bool true)) := by
  have HA := Lib.hid (fun w' (hx : Ex w w') => awake_c w' (hE.ex hx))
  have H10 := Lib.hid (fun w' (hx : Ex w w') => words_c s w' (hE.ex hx) (by omega))
  rw [hR] at H10
  unfold WordsR at H10
  dsimp only at H10
  have HP := Lib.hid (fun k w' (hk : k ≤ s.size) => place_c s k w' (by omega) hk)
  unfold PosE at HP
  obtain ⟨n, hn⟩ : ∃ n, l.length = n + 1 := ⟨l.length - 1, by have := lex_ne hR; omega⟩
  have hn1 : n ≤ 1000 := by have := lex_len hR; omega
  have HLast : Hid (∃ E, l[n]? = some E ∧ E.kind = 4) := by
    obtain ⟨ws, E, rfl, hk, _⟩ := lex_rights _ _ _ _ hR
    refine ⟨E, ?_, hk⟩
    have : ws.length = n := by simpa using hn
    rw [← this]
    simp
  have HS0 : Hid (Sx s.data.toList 0 l) := sx_start _ hR
  have HSt := Lib.hid (fun i x r (hs : Sx s.data.toList i (x :: r)) => sx_step hs rfl)
  have HN : Hid (l.length = n + 1) := hn
  have f1 : decide (600 < (s.size : Int)) = false := decide_eq_false (by omega)
  have HSz : Hid (s.data.toList.length = s.size) := (size_data s).symm
  have fn0 : ((n : Int) + 1 == 0) = false := beq_eq_false_iff_ne.2 (by omega)
  rw [hn] at H10
  clear hE hR hn
  go_enter Tryd.func5, Tryd.ntmps5
  go_wp2_with fail
  refine (HA.out _ (Ex.refl _)).mono ?_
  rintro e w' ⟨rfl, z, rfl⟩
  go_wp2_with fail
  refine (H10.out _ ((Ex.refl _).ext z)).mono ?_
  rintro e w1 ⟨v1, rfl, hown, hx1⟩
  obtain ⟨g, c, rfl, hA, -⟩ := At.of hown (Nat.succ_pos n)
  have HX1 : Hid (Ex w w1) := ((Ex.refl _).ext z).trans hx1
  have HAt := Lib.hid (fun w' (hx : Ex w1 w') => hA.ex hx)
  clear hx1 hA hown HA H10
  go_wp2_with fail
  go_loopw [6, 45] (fun a b wr => ∃ i k : Nat, a = .int .i64 i ∧ b = .int .i64 k ∧ k ≤ n + 1 ∧ i ≤ s.size ∧ Hid (Sx s.data.toList i (l.drop k)) ∧ Ex w1 wr) (fun _ b _ => n + 1 - (intOf b).toNat)
  case atStart => exact ⟨0, 0, rfl, rfl, by omega, by omega, HS0, (Ex.refl _).alloc _⟩
  case round =>
    obtain ⟨i, k, rfl, rfl, hk, hi, HSx, hx⟩ := hrel
    have HX := Lib.hid hx
    by_cases hlt : k < n + 1
    · have n1 : decide ((k : Int) < (n : Int) + 1) = true := decide_eq_true (by omega)
      have n0 : (0 : Int) ≤ (k : Int) := by omega
      have hkl : k < l.length := by rw [HN.out]; exact hlt
      obtain ⟨x, hxk⟩ : ∃ x, l[k]? = some x := ⟨_, List.getElem?_eq_getElem hkl⟩
      have hdr : l.drop k = x :: l.drop (k + 1) := by
        rw [List.drop_eq_getElem_cons hkl]
        congr 1
        rw [List.getElem?_eq_getElem hkl] at hxk
        exact Option.some.inj hxk
      obtain ⟨a0, a1, a2, a3⟩ := (HAt.out _ hx).word hxk
      have lg := (HAt.out _ hx).1
      have hS := HSx.out
      rw [hdr] at hS
      obtain ⟨hj, hpos, htx, hkd, hnx, -, hend⟩ := HSt.out _ _ _ hS
      obtain ⟨j, hjd⟩ : ∃ j, j = i + spanL blkB (s.data.toList.drop i) := ⟨_, rfl⟩
      rw [← hjd] at hj hpos htx hnx hend
      have HSp : Hid (∀ m, i ≤ m → (hm : m < s.size) → (m < j → blkB s[m] = true) ∧ (m = j → blkB s[m] = false)) := fun m h1 h2 => by
        rw [hjd]; exact span_byte blkB s i m h2 h1
      have hij : i ≤ j := by omega
      rw [HSz.out] at hj hend
      have HPj := Lib.hid (fun w' => HP.out j w' hj)
      rw [← hpos] at HPj
      obtain ⟨kd, tx, pp, qq⟩ := x
      dsimp only at a0 a1 a2 a3 htx hkd hnx hend HPj
      obtain ⟨T, hT⟩ : ∃ T : ByteArray, T = ⟨tx.toArray⟩ := ⟨_, rfl⟩
      have hTd : T.data.toList = tx := by rw [hT]
      have hTs : T.size = tx.length := by rw [size_data, hTd]
      rw [← hT] at a1
      have HPre : Hid (Lib.hasPrefix (s.extract j s.size).data.toList T.data.toList = true) := by
        show _ = _
        rw [drop_data, hTd]
        unfold Lib.hasPrefix
        rw [List.isPrefixOf_iff_prefix]
        rw [htx]
        exact List.take_prefix _ _
      have hTj : j + T.size ≤ s.size := by
        have := hnx.1
        rw [HSz.out] at this
        omega
      have HNx : Hid (Sx s.data.toList (j + T.size) (l.drop (k + 1))) := by rw [hTs]; exact hnx
      obtain ⟨b, hb1, hb2, hb3⟩ : ∃ b : Bool, ((kd : Int) == 4) = b ∧ T.toList.isEmpty = b ∧ (b = true ↔ j = s.size) := by
        by_cases h4 : kd = 4
        · refine ⟨true, by rw [beq_iff_eq]; omega, ?_, by simp [hend.1 h4]⟩
          rw [nonempty_iff, hTs, hkd.1 h4]; rfl
        · refine ⟨false, beq_eq_false_iff_ne.2 (by omega), ?_, ?_⟩
          · rw [nonempty_iff]
            refine decide_eq_false ?_
            intro h0
            rw [hTs] at h0
            exact h4 (hkd.2 (List.length_eq_zero_iff.1 h0))
          · simp only [Bool.false_eq_true, false_iff]
            intro h0
            exact h4 (hend.2 h0)
      have HW : Hid (∀ X : World, Blk (X.alloc (.cells #[.int .i64 kd, .string T, .int .i64 pp, .int .i64 qq] 36)) X.heap.size 36 [.int .i64 kd, .string T, .int .i64 pp, .int .i64 qq]) := fun X => Blk.new X 36 _
      have HHp := Lib.hid (hasPrefix_c (s.extract j s.size) T true HPre.out)
      clear hS hpos htx hkd hnx hend hT hTd hTs hjd hdr hxk hkl HSx HP
      cases b with
      | true =>
        have hjs : j = s.size := hb3.1 rfl
        have HJ := Lib.hid hjs
        clear hb3 hjs
        go_wp2_with fail
        go_loop [6] (fun a => ∃ m : Nat, a = .int .i64 m ∧ i ≤ m ∧ m ≤ j) (fun a => s.size + 1 - (intOf a).toNat)
        case atStart => exact ⟨i, rfl, by omega, by omega⟩
        case round =>
          obtain ⟨m, rfl, him, hmj⟩ := hrel
          by_cases hmlt : m < j
          · have hms : m < s.size := by omega
            have hmi : (m : Int) < (s.size : Int) := by omega
            have m0 : (0 : Int) ≤ (m : Int) := by omega
            have hbb := (HSp.out m him hms).1 hmlt
            rcases blk_cases hbb with hc | hc | hc
            · have q1 : ((s[m].toNat : Int) == 32) = true := by rw [hc]; rfl
              clear hc hbb
              go_wp2_with fail
              go_round
              case rel => exact ⟨m + 1, by go_num, by omega, by omega⟩
              case measure => simp [intOf]; omega
            · have q1 : ((s[m].toNat : Int) == 32) = false := by rw [hc]; rfl
              have q2 : ((s[m].toNat : Int) == 9) = true := by rw [hc]; rfl
              clear hc hbb
              go_wp2_with fail
              go_round
              case rel => exact ⟨m + 1, by go_num, by omega, by omega⟩
              case measure => simp [intOf]; omega
            · have q1 : ((s[m].toNat : Int) == 32) = false := by rw [hc]; rfl
              have q2 : ((s[m].toNat : Int) == 9) = false := by rw [hc]; rfl
              have q3 : ((s[m].toNat : Int) == 10) = true := by rw [hc]; rfl
              clear hc hbb
              go_wp2_with fail
              go_round
              case rel => exact ⟨m + 1, by go_num, by omega, by omega⟩
              case measure => simp [intOf]; omega
          · obtain rfl : j = m := by omega
            have j0 : (0 : Int) ≤ (j : Int) := by omega
            have hjn : decide (j < s.size) = false := decide_eq_false (by have := HJ.out; omega)
            have hjm : ¬ (j : Int) < (s.size : Int) := by have := HJ.out; omega
            clear hmlt hmj HSp HJ
            go_wp2_with fail
            refine (HPj.out _).mono ?_
            rintro e w' ⟨rfl, z, rfl⟩
            go_wp2_with fail
            refine world_gen (fun wx => Hid (Blk wx wr.heap.size 36 [.int .i64 kd, .string T, .int .i64 pp, .int .i64 qq]) ∧ Hid (Blk wx (ext (wr.alloc (.cells #[.int .i64 kd, .string T, .int .i64 pp, .int .i64 qq] 36)) z).heap.size 25 [.int .i64 pp, .int .i64 qq]) ∧ Hid (Ex w1 wx)) ⟨((HW.out wr).ex ⟨z, rfl⟩).alloc _, Blk.new _ 25 _, ((HX.out.alloc _).ext z).alloc _⟩ ?_
            generalize (ext (wr.alloc (.cells #[.int .i64 kd, .string T, .int .i64 pp, .int .i64 qq] 36)) z).heap.size = b9
            rintro wd ⟨HB8, HB9, HX9⟩
            have l8 := HB8.out.lt
            have l9 := HB9.out.lt
            have r0 : wd.cell? ⟨wr.heap.size, 0, none⟩ = some (.int .i64 kd) := HB8.out.cell 0
            have r1 : wd.cell? ⟨wr.heap.size, 1, none⟩ = some (.string T) := HB8.out.cell 1
            have r2 : wd.cell? ⟨wr.heap.size, 2, none⟩ = some (.int .i64 pp) := HB8.out.cell 2
            have r3 : wd.cell? ⟨wr.heap.size, 3, none⟩ = some (.int .i64 qq) := HB8.out.cell 3
            have v0 : wd.cell? ⟨b9, 0, none⟩ = some (.int .i64 pp) := HB9.out.cell 0
            have v1 : wd.cell? ⟨b9, 1, none⟩ = some (.int .i64 qq) := HB9.out.cell 1
            have j1 : (j : Int) ≤ (s.size : Int) := by omega
            refine wp_region_ext (by kernel_rfl) (by kernel_rfl) ?_
            repeat (go_big_quiet_step ((go_at_call 15; exact quiet_ext (HHp.out _))))
            refine wpQuiet_end (fun z9 => ?_)
            go_wp2_with fail
            refine ⟨⟨j + T.size, k + 1, by go_num, by go_num, by omega, by omega, HNx, HX9.out.ext _⟩, by simp [intOf]; omega⟩
      | false =>
        have hjs : j ≠ s.size := fun h => by simpa using hb3.2 h
        have HJ : Hid (j ≠ s.size) := hjs
        clear hb3
        go_wp2_with fail
        go_loop [6] (fun a => ∃ m : Nat, a = .int .i64 m ∧ i ≤ m ∧ m ≤ j) (fun a => s.size + 1 - (intOf a).toNat)
        case atStart => exact ⟨i, rfl, by omega, by omega⟩
        case round =>
          obtain ⟨m, rfl, him, hmj⟩ := hrel
          by_cases hmlt : m < j
          · have hms : m < s.size := by omega
            have hmi : (m : Int) < (s.size : Int) := by omega
            have m0 : (0 : Int) ≤ (m : Int) := by omega
            have hbb := (HSp.out m him hms).1 hmlt
            rcases blk_cases hbb with hc | hc | hc
            · have q1 : ((s[m].toNat : Int) == 32) = true := by rw [hc]; rfl
              clear hc hbb
              go_wp2_with fail
              go_round
              case rel => exact ⟨m + 1, by go_num, by omega, by omega⟩
              case measure => simp [intOf]; omega
            · have q1 : ((s[m].toNat : Int) == 32) = false := by rw [hc]; rfl
              have q2 : ((s[m].toNat : Int) == 9) = true := by rw [hc]; rfl
              clear hc hbb
              go_wp2_with fail
              go_round
              case rel => exact ⟨m + 1, by go_num, by omega, by omega⟩
              case measure => simp [intOf]; omega
            · have q1 : ((s[m].toNat : Int) == 32) = false := by rw [hc]; rfl
              have q2 : ((s[m].toNat : Int) == 9) = false := by rw [hc]; rfl
              have q3 : ((s[m].toNat : Int) == 10) = true := by rw [hc]; rfl
              clear hc hbb
              go_wp2_with fail
              go_round
              case rel => exact ⟨m + 1, by go_num, by omega, by omega⟩
              case measure => simp [intOf]; omega
          · obtain rfl : j = m := by omega
            have j0 : (0 : Int) ≤ (j : Int) := by omega
            have hjs : j < s.size := by omega
            have hjn : (j : Int) < (s.size : Int) := by omega
            have hbb := (HSp.out j him hjs).2 rfl
            have q1 : ((s[j].toNat : Int) == 32) = false := beq_eq_false_iff_ne.2 (fun h => by unfold blkB at hbb; simp at hbb; omega)
            have q2 : ((s[j].toNat : Int) == 9) = false := beq_eq_false_iff_ne.2 (fun h => by unfold blkB at hbb; simp at hbb; omega)
            have q3 : ((s[j].toNat : Int) == 10) = false := beq_eq_false_iff_ne.2 (fun h => by unfold blkB at hbb; simp at hbb; omega)
            clear hbb
            clear hmlt hmj HSp HJ
            go_wp2_with fail
            refine (HPj.out _).mono ?_
            rintro e w' ⟨rfl, z, rfl⟩
            go_wp2_with fail
            refine world_gen (fun wx => Hid (Blk wx wr.heap.size 36 [.int .i64 kd, .string T, .int .i64 pp, .int .i64 qq]) ∧ Hid (Blk wx (ext (wr.alloc (.cells #[.int .i64 kd, .string T, .int .i64 pp, .int .i64 qq] 36)) z).heap.size 25 [.int .i64 pp, .int .i64 qq]) ∧ Hid (Ex w1 wx)) ⟨((HW.out wr).ex ⟨z, rfl⟩).alloc _, Blk.new _ 25 _, ((HX.out.alloc _).ext z).alloc _⟩ ?_
            generalize (ext (wr.alloc (.cells #[.int .i64 kd, .string T, .int .i64 pp, .int .i64 qq] 36)) z).heap.size = b9
            rintro wd ⟨HB8, HB9, HX9⟩
            have l8 := HB8.out.lt
            have l9 := HB9.out.lt
            have r0 : wd.cell? ⟨wr.heap.size, 0, none⟩ = some (.int .i64 kd) := HB8.out.cell 0
            have r1 : wd.cell? ⟨wr.heap.size, 1, none⟩ = some (.string T) := HB8.out.cell 1
            have r2 : wd.cell? ⟨wr.heap.size, 2, none⟩ = some (.int .i64 pp) := HB8.out.cell 2
            have r3 : wd.cell? ⟨wr.heap.size, 3, none⟩ = some (.int .i64 qq) := HB8.out.cell 3
            have v0 : wd.cell? ⟨b9, 0, none⟩ = some (.int .i64 pp) := HB9.out.cell 0
            have v1 : wd.cell? ⟨b9, 1, none⟩ = some (.int .i64 qq) := HB9.out.cell 1
            have j1 : (j : Int) ≤ (s.size : Int) := by omega
            refine wp_region_ext (by kernel_rfl) (by kernel_rfl) ?_
            repeat (go_big_quiet_step ((go_at_call 15; exact quiet_ext (HHp.out _))))
            refine wpQuiet_end (fun z9 => ?_)
            go_wp2_with fail
            refine ⟨⟨j + T.size, k + 1, by go_num, by go_num, by omega, by omega, HNx, HX9.out.ext _⟩, by simp [intOf]; omega⟩
    · have hkn : k = n + 1 := by omega
      subst hkn
      obtain ⟨E, hE1, hE2⟩ := HLast.out
      obtain ⟨a0, a1, a2, a3⟩ := (HAt.out _ hx).word hE1
      have lg := (HAt.out _ hx).1
      have hin : i = s.size := by
        have := HSx.out
        rw [List.drop_of_length_le (by rw [HN.out]; exact Nat.le_refl _)] at this
        rcases this.2 with ⟨_, h⟩ | ⟨f, h⟩
        · rw [h, HSz.out]
        · have := lex_ne h; simp at this
      rw [hE2] at a0
      have hib : ((i : Int) == (s.size : Int)) = true := by rw [beq_iff_eq]; omega
      have n1 : decide (((n + 1 : Nat) : Int) < (n : Int) + 1) = false := decide_eq_false (by omega)
      have n2 : decide (n + 1 < n + 1) = false := decide_eq_false (by omega)
      clear hlt hx hin
      go_wp2_with fail
      go_ret
      exact Ret.mk rfl (HX1.out.trans HX.out)
theorem stands_c (s : ByteArray) (w : World) (hE : Env w) : Calls Tryd.prog 5 #[.string s] w (Ret w (.bool true)) := by
  by_cases h : 600 < s.size
  · exact stands_skip s w hE h
  · cases hR : lexL 1000 s.data.toList (1, 1) with
    | ok l => exact stands_ok s w hE (by omega) l hR
    | bad p n => obtain ⟨p, q⟩ := p; exact stands_bad s w hE (by omega) p q n hR
end Go.Proofs.YtlkebnobcfffeaaDoor
