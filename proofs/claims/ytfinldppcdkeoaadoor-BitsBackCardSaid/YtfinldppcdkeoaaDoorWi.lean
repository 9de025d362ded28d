/-
  Counts of sets, and the program's list of members.
  Conditions: words below 2^64; the library's table as it is laid, where it is said.
-/
import Derived.Test.YtfinldppcdkeoaaDoorWh
namespace Go.Proofs.YtfinldppcdkeoaaDoor
open Go.RowKit Bm
def cntB (n : Int) (ws : List Nat) : Nat := if validB n ws then (mems n.toNat ws).length else 0
theorem cntB_bad {n : Int} {ws : List Nat} (h : validB n ws = false) : cntB n ws = 0 := by simp [cntB, h]
theorem cntB_ok {n : Nat} {ws : List Nat} (h : Valid n ws) : cntB n ws = (mems n ws).length := by
  have h1 : validB n ws = true := (validB_iff n ws).2 ⟨n, rfl, h⟩
  simp [cntB, h1]
set_option maxHeartbeats 800000 in
theorem bCount_c (n : Int) (A : Option Addr) (c : Nat) (ws : List Nat) (w : World) (hC : Cells w A (u64s ws)) (hw : Wd ws) :
    Calls Tryd.prog 25 #[.agg #[.int .i64 n, .slice A ws.length c]] w (Ret w (.int .i64 (cntB n ws))) := by
  have H1 := Lib.hid (fun w' (hx : Ex w w') => valid_c n A c ws w' (hC.ex hx) hw)
  cases h1 : validB n ws
  · rw [cntB_bad h1]
    rw [h1] at H1; clear h1 hC hw
    generalize ws.length = m at *
    go_enter Tryd.func25, Tryd.ntmps25
    go_wp2_with fail
    refine (H1.out _ (by repeat (first | exact Ex.refl _ | apply Ex.ext | apply Ex.alloc))).mono ?_
    rintro e w' ⟨rfl, y, rfl⟩
    go_wp2
    go_ret
    exact Ret.mk rfl (((Ex.refl _).alloc _).ext _)
  · obtain ⟨q, rfl, hv⟩ := (validB_iff n ws).1 h1
    rw [cntB_ok hv, ← pm_mems hv]
    have HA := Lib.hid (fun i (h : i < ws.length) => u64s_at hC i h)
    have HW := Lib.hid (fun i => hw.lt i)
    have HT := Lib.hid (total_succ ws)
    have HTl := Lib.hid (total_le ws)
    have hm : ws.length ≤ 8 := by have := hv.len; have := hv.le; omega
    have hf : Hid ((pm ws ws.length).length = total ws ws.length) := rfl
    rw [hf.out]
    rw [h1] at H1; clear h1 hC hw hf hv
    generalize ws.length = m at *
    go_enter Tryd.func25, Tryd.ntmps25
    go_wp2_with fail
    refine (H1.out _ (by repeat (first | exact Ex.refl _ | apply Ex.ext | apply Ex.alloc))).mono ?_
    rintro e w' ⟨rfl, y, rfl⟩
    go_wp2
    go_loopw [3, 12] (fun t i wr => ∃ k : Nat, i = .int .i64 k ∧ k ≤ m ∧ t = .int .i64 (total ws k) ∧ Ex (w.alloc (.cells #[.int .i64 q, .slice A m c] 24)) wr) (fun _ i _ => m - (intOf i).toNat)
    case atStart => exact ⟨0, rfl, by omega, rfl, ⟨_, rfl⟩⟩
    case round =>
      obtain ⟨k, rfl, hk, rfl, z, rfl⟩ := hrel
      by_cases hlt : k < m
      · obtain ⟨ad, rfl, ha1, ha2⟩ := HA.out k hlt
        have hT := Lib.hid (HT.out k)
        have hle := HTl.out k
        have hle2 := cnt_le 64 (ws.getD k 0)
        have HO := Lib.hid (fun w' => ones_c (ws.getD k 0) w' (HW.out k))
        generalize ws.getD k 0 = x at *
        generalize total ws k = s at *
        go_wp2_with fail
        refine (Calls.up (W := w.alloc (.cells #[.int .i64 q, .slice (some ad) m c] 24)) ⟨_, rfl⟩ (HO.out _)).mono ?_
        rintro e w' ⟨rfl, y2, rfl⟩
        go_wp2
        go_roundw
        case rel => exact ⟨k + 1, by go_num, by omega, by rw [hT.out]; go_num, ⟨_, rfl⟩⟩
        case measure => simp [intOf]; omega
      · obtain rfl : k = m := by omega
        go_wp2
        go_ret
        exact Ret.mk rfl (((Ex.refl _).alloc _).ext _)
set_option maxHeartbeats 800000 in
theorem rCount_c (n : Int) (A : Option Addr) (c : Nat) (ws : List Nat) (w : World) (hC : Cells w A (u64s ws)) (hw : Wd ws) :
    Calls Tryd.prog 26 #[.agg #[.int .i64 n, .slice A ws.length c]] w (Ret w (.int .i64 (cntB n ws))) := by
  have H1 := Lib.hid (fun w' (hx : Ex w w') => rvalid_c n A c ws w' (hC.ex hx) hw)
  cases h1 : validB n ws
  · rw [cntB_bad h1]
    rw [h1] at H1; clear h1 hC hw
    generalize ws.length = m at *
    go_enter Tryd.func26, Tryd.ntmps26
    go_wp2_with fail
    refine (H1.out _ (by repeat (first | exact Ex.refl _ | apply Ex.ext | apply Ex.alloc))).mono ?_
    rintro e w' ⟨rfl, y, rfl⟩
    go_wp2
    go_ret
    exact Ret.mk rfl (((Ex.refl _).alloc _).ext _)
  · obtain ⟨q, rfl, hv⟩ := (validB_iff n ws).1 h1
    rw [cntB_ok hv]
    have H2 := Lib.hid (fun w' (hx : Ex w w') => rMembers_c q A c ws w' (hC.ex hx) hw hv)
    have HL := Lib.hid (natsV_length (mems q ws))
    rw [h1] at H1; clear h1 hC hw hv
    generalize ws.length = m at *
    go_enter Tryd.func26, Tryd.ntmps26
    go_wp2_with fail
    refine (H1.out _ (by repeat (first | exact Ex.refl _ | apply Ex.ext | apply Ex.alloc))).mono ?_
    rintro e w' ⟨rfl, y, rfl⟩
    go_wp2_with fail
    refine (H2.out _ (by repeat (first | exact Ex.refl _ | apply Ex.ext | apply Ex.alloc))).mono ?_
    rintro e w' ⟨v, rfl, hown, hx⟩
    obtain ⟨B, d, rfl, -, -⟩ := own_cells hown
    rw [HL.out] at *
    clear hown
    obtain ⟨y2, rfl⟩ := hx
    go_wp2
    go_ret
    exact Ret.mk rfl ((((Ex.refl _).alloc _).ext _).ext _)
def RetOwnE (w : World) (xs : List Value) (e : Ending) (w' : World) : Prop := ∃ v, e = .returned (.tuple #[v, .int .i64 0]) ∧ w'.ownsRow w.heap.size 3 1 v xs.length xs ∧ Ex w w'
theorem bMembers_bad (n : Int) (A : Option Addr) (c : Nat) (ws : List Nat) (w : World) (hC : Cells w A (u64s ws)) (hw : Wd ws) (h1 : validB n ws = false) :
    Calls Tryd.prog 14 #[.agg #[.int .i64 n, .slice A ws.length c]] w (Ret w (.tuple #[.slice none 0 0, .int .i64 1])) := by
  have H1 := Lib.hid (fun w' (hx : Ex w w') => valid_c n A c ws w' (hC.ex hx) hw)
  rw [h1] at H1; clear h1 hC hw
  generalize ws.length = m at *
  go_enter Tryd.func14, Tryd.ntmps14
  go_wp2_with fail
  refine (H1.out _ (by repeat (first | exact Ex.refl _ | apply Ex.ext | apply Ex.alloc))).mono ?_
  rintro e w' ⟨rfl, y, rfl⟩
  go_wp2
  go_ret2
  exact Ret.mk rfl (((Ex.refl _).alloc _).ext _)

theorem pred_c (x : Nat) (h0 : x ≠ 0) (hx : x < 18446744073709551616) : bits BinOp.and IntKind.u64 (x : Int) (IntKind.u64.wrap ((x : Int) - 1)) = ((x &&& (x - 1) : Nat) : Int) := by
  have e : IntKind.u64.wrap ((x : Int) - 1) = ((x - 1 : Nat) : Int) := by rw [IntKind.wrap_u64]; omega
  rw [e, u64_and_nat _ _ hx (by omega)]
theorem pm_le (ws : List Nat) (k : Nat) : (pm ws k).length ≤ 64 * k := total_le ws k
theorem wm_le (x : Nat) : (wmem x).length ≤ 64 := by rw [wmem_length]; exact cnt_le 64 x
set_option maxHeartbeats 1600000 in
theorem bMembers_ok (n : Nat) (A : Option Addr) (c : Nat) (ws : List Nat) (w : World) (hC : Cells w A (u64s ws)) (hw : Wd ws) (hv : Valid n ws) (hT : Tab w) :
    Calls Tryd.prog 14 #[.agg #[.int .i64 n, .slice A ws.length c]] w (RetOwnE w (natsV (mems n ws))) := by
  have H1 := Lib.hid (fun w' (hx : Ex w w') => valid_c n A c ws w' (hC.ex hx) hw)
  have h1 : validB n ws = true := (validB_iff n ws).2 ⟨n, rfl, hv⟩
  rw [← pm_mems hv]
  have HA := Lib.hid (fun i (h : i < ws.length) => u64s_at hC i h)
  have HW := Lib.hid (fun i => hw.lt i)
  have HP := Lib.hid (pm_succ ws)
  have HPl := Lib.hid (pm_le ws)
  have hm : ws.length ≤ 8 := by have := hv.len; have := hv.le; omega
  have HTab := Lib.hid (fun w' (hx : Ex w w') => hT.ex hx)
  obtain ⟨i0, hi, hz0, hz1, hz2⟩ := info_parts info3
  rw [h1] at H1; clear h1 hC hw hv hT
  generalize ws.length = m at *
  go_enter Tryd.func14, Tryd.ntmps14
  go_wp2_with fail
  refine (H1.out _ (by repeat (first | exact Ex.refl _ | apply Ex.ext | apply Ex.alloc))).mono ?_
  rintro e w' ⟨rfl, y, rfl⟩
  go_wp2
  go_loopw [4, 13] (fun v i wr => ∃ k : Nat, i = .int .i64 k ∧ k ≤ m ∧ wr.ownsRow (w.heap.size + 1) 3 1 v (natsV (pm ws k)).length (natsV (pm ws k)) ∧ Ex (w.alloc (.cells #[.int .i64 n, .slice A m c] 24)) wr)
    (fun _ i _ => m - (intOf i).toNat)
  case atStart => exact ⟨0, rfl, by omega, by simpa [pm, natsV] using World.ownsRow_nil _ _ _ _, ⟨_, rfl⟩⟩
  case round =>
    obtain ⟨k, rfl, hk, hown, z, rfl⟩ := hrel
    by_cases hlt : k < m
    · obtain ⟨ad, rfl, ha1, ha2⟩ := HA.out k hlt
      have hP := Lib.hid (HP.out k)
      have hPl := Lib.hid (HPl.out k)
      have hx0 := Lib.hid (HW.out k)
      have HO := Lib.hid hown; clear hown
      generalize ws.getD k 0 = x at *
      go_wp2
      go_loopw [4, 6] (fun v u wr => ∃ (done : List Nat) (x' : Nat), u = .int .u64 x' ∧ Hid (x' < 18446744073709551616) ∧ Hid (done ++ (wmem x').map (64 * k + ·) = (wmem x).map (64 * k + ·)) ∧
          wr.ownsRow (w.heap.size + 1) 3 1 v (natsV (pm ws k ++ done)).length (natsV (pm ws k ++ done)) ∧ Ex (w.alloc (.cells #[.int .i64 n, .slice (some ad) m c] 24)) wr)
        (fun _ u _ => (wmem (intOf u).toNat).length)
      case atStart => exact ⟨[], x, rfl, hx0, rfl, by simpa using HO.out, ⟨_, rfl⟩⟩
      case round =>
        obtain ⟨done, x', rfl, hx', hdone, hown2, z2, rfl⟩ := hrel
        have HO2 := Lib.hid hown2; clear hown2
        by_cases hz : x' = 0
        · subst hz
          have hd : Hid (done = (wmem x).map (64 * k + ·)) := by
            have h := hdone.out
            rw [wmem_zero] at h
            have h2 : done = (wmem x).map (64 * k + ·) := by simpa using h
            exact h2
          have hne : (((0 : Nat) : Int) != 0) = false := by simp
          go_wp2
          go_roundw
          case rel => exact ⟨k + 1, by go_num, by omega, by rw [hP.out, ← hd.out]; exact HO2.out, ⟨_, rfl⟩⟩
          case measure => simp [intOf]; omega
        · have hz' := Lib.hid hz
          have hne : (((x' : Nat) : Int) != 0) = true := by simp; omega
          have hstep := Lib.hid (wmem_step hz hx'.out)
          have htl : Go.Lib.ctz 64 x' < 64 := (low_set hz hx'.out).2.1
          have htz := Lib.hid (fun w' (hx : Ex w w') => tz_c x' w' hz hx'.out (HTab.out w' hx))
          have hpred := Lib.hid (pred_c x' hz hx'.out)
          have hlen : (natsV (pm ws k ++ done)).length ≤ 1000 := by
            rw [natsV_length, List.length_append]
            have h1 := hPl.out
            have h2 := congrArg List.length hdone.out
            rw [List.length_append, List.length_map, List.length_map] at h2
            have h3 := wm_le x
            omega
          have hnz : Hid (x' ≠ 0) := hz
          clear hz
          generalize Go.Lib.ctz 64 x' = t at *
          go_wp2_with fail
          refine (htz.out _ (by repeat (first | exact Ex.refl _ | apply Ex.ext | apply Ex.alloc))).mono ?_
          rintro e w' ⟨rfl, hx⟩
          have hO3 := own_ex HO2.out hx
          obtain ⟨y3, rfl⟩ := Ex.trans ⟨z2, rfl⟩ hx
          have HO3 := Lib.hid hO3
          clear hx hO3
          go_wp2_with (at_builtin; refine wpList_append_own _ rfl _ _ 25 rfl (w.heap.size + 1) 3 i0 (.int .i64 0) 1 8 Tryd.underlying25 hi hz0 hz1 hz2 rfl (by decide) _ _ _ rfl (HO3.out.alloc _) ⟨(ext (w.alloc (.cells #[.int .i64 n, .slice (some ad) m c] 24)) y3).heap.size, 0, none⟩ 1 1 [.int .i64 (k * 64 + t)] rfl rfl ?c1 ?c2 ?c3 ?c4 ?c5 ?_)
          case c1 => exact cell_one_new _ _ _
          case c2 => intro u hu; simp at hu; subst hu; rfl
          case c3 => unfold maxLen; omega
          case c4 => omega
          case c5 => have := (ext_below (w.alloc (.cells #[.int .i64 n, .slice (some ad) m c] 24)) y3).size; simp at this ⊢; omega
          · intro v' w2 hown2 hg _
            have hE2 : Ex (w.alloc (.cells #[.int .i64 n, .slice (some ad) m c] 24)) w2 := ex_own (Ex.alloc ⟨y3, rfl⟩ _) (HO3.out.alloc _) (by simp) hg
            have HO4 := Lib.hid hown2
            clear hown2 hg
            obtain ⟨x4, rfl⟩ := hE2
            go_wp2
            go_roundw
            case rel =>
              refine ⟨done ++ [64 * k + t], x' &&& (x' - 1), by rw [hpred.out], Nat.lt_of_le_of_lt Nat.and_le_left hx'.out, ?_, ?_, ⟨_, rfl⟩⟩
              · show _ = _
                rw [← hdone.out, hstep.out]; simp
              · have h := HO4.out
                rw [← List.append_assoc, natsV_append]
                simpa [natsV, Nat.mul_comm, Nat.add_assoc] using h
            case measure =>
              show (wmem (intOf (.int .u64 _)).toNat).length < (wmem (intOf (.int .u64 _)).toNat).length
              rw [hpred.out]
              simp only [intOf, Int.toNat_natCast]
              rw [hstep.out]; simp
    · obtain rfl : k = m := by omega
      have HO := Lib.hid hown; clear hown
      go_wp2
      go_ret2
      exact ⟨_, rfl, own_base HO.out (by omega), ((Ex.refl _).alloc _).ext _⟩
end Go.Proofs.YtfinldppcdkeoaaDoor
