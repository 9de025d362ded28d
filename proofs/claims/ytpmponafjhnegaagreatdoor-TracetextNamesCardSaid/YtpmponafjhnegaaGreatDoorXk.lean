/-
  The law Names, walked.
  Conditions: as each theorem says.
-/
import Derived.Test.YtpmponafjhnegaaGreatDoorXj
import Derived.Test.YtpmponafjhnegaaGreatDoorWi
namespace Go.Proofs.YtpmponafjhnegaaGreatDoor
open Go.RowKit Nu
set_option maxRecDepth 100000 in
set_option maxHeartbeats 6400000 in
theorem names_law (t : List Pr) (A : Option Addr) (c : Nat) (s : ByteArray) (w : World) (hE : Env w) (hT : TcC w A t) (hcap : t.length ≤ c) (htl : t.length ≤ 281474976710656) (hbig : ∀ x, x ∈ t → x.evs.length ≤ 281474976710656) :
    Calls Tryz.prog 9 #[.agg #[.slice A t.length c], .string s] w (Ret w (.bool true)) := by
  have HE : Hid (∀ w', Ex w w' → Env w') := fun w' h => hE.ex h
  have HT : Hid (∀ w', Ex w w' → TcC w' A t) := fun w' h => hT.ex h
  have HAw : Hid (∀ w', Ex w w' → Calls Tryz.prog 10 #[] w' (Ret w' (.bool true))) := fun w' h => awake_c w' (hE.ex h)
  have HSc : Hid (∀ w', Ex w w' → Calls Tryz.prog 11 #[.agg #[.slice A t.length c]] w' (Ret w' (.bool (smallB t)))) := fun w' h => small_c t A c w' (hT.ex h) htl hbig
  obtain ⟨W1, hW1⟩ : ∃ W1, W1 = w.alloc (.cells #[.slice A t.length c] 24) := ⟨_, rfl⟩
  have hX1 : Ex w W1 := by rw [hW1]; exact (Ex.refl w).alloc _
  have hB1 : Blk W1 w.heap.size 24 [.slice A t.length c] := by rw [hW1]; exact Blk.new w _ _
  have HW1 := Lib.hid hW1
  have HX1 := Lib.hid hX1
  have HBT : Hid (∀ wx, Ex W1 wx → wx.cell? ⟨w.heap.size, 0, none⟩ = some (.slice A t.length c) ∧ w.heap.size < wx.heap.size) := fun wx h => ⟨(hB1.ex h).cell 0, (hB1.ex h).lt⟩
  have HCp := Lib.hid hcap
  clear hE hT hW1 hX1 hB1 hbig htl hcap
  go_enter Tryz.func9, Tryz.ntmps9
  go_upto_region 1 with fail
  rw [← HW1.out]
  go_wp2_with fail
  refine (HAw.out _ HX1.out).mono ?_
  rintro e9 w2 ⟨rfl, hx⟩
  have HX2 := Lib.hid hx
  clear hx HW1
  obtain ⟨x0, xl⟩ := HBT.out _ HX2.out
  go_wp2_with fail
  refine (HSc.out _ (HX1.out.trans HX2.out)).mono ?_
  rintro e9 w3 ⟨rfl, hx⟩
  have HX3 := Lib.hid (HX2.out.trans hx)
  clear hx x0 xl
  obtain ⟨x0, xl⟩ := HBT.out _ HX3.out
  cases hsm : smallB t with
  | false =>
    clear HSc
    go_wp2_with fail
    go_ret
    exact Ret.mk rfl (HX1.out.trans HX3.out)
  | true =>
    obtain ⟨hts, -, -, -⟩ := small_tsm hsm
    by_cases hlen : 100 < s.size
    · have d1 : decide (100 < (s.size : Int)) = true := decide_eq_true (by omega)
      clear HSc hsm hts hlen
      go_wp2_with fail
      go_ret
      exact Ret.mk rfl (HX1.out.trans HX3.out)
    have d1 : decide (100 < (s.size : Int)) = false := decide_eq_false (by omega)
    have HV := Lib.hid (fun w' (h : Ex w w') => rValid_c t A c w' (HT.out w' h) hts)
    have HPn : Hid (∀ w', Ex w w' → Calls Tryz.prog 18 #[.agg #[.slice A t.length c], .string s] w' (Ret w' (pnW (pnV t s.data.toList)))) := fun w' h => by
      have h1 := pname_c t A c s.data.toList w' (HE.out w' h) (HT.out w' h) hts HCp.out (by rw [← size_data]; omega)
      have h2 : bs s.data.toList = s := by rcases s with ⟨⟨l⟩⟩; rfl
      rw [h2] at h1
      exact h1
    have HRn : Hid (∀ w', Ex w w' → Calls Tryz.prog 30 #[.agg #[.slice A t.length c], .string s] w' (Ret w' (pnW (pnO t s.data.toList)))) := fun w' h => rpname_c t A c s w' (HT.out w' h) hts (by omega)
    unfold pnW at HPn HRn
    clear HSc hsm HAw hts hlen
    cases hv : validB t with
    | false =>
      have hp : pnV t s.data.toList = (0, 0, 1) := by unfold pnV; rw [if_neg (by rw [hv]; decide)]
      rw [hp] at HPn
      rw [hv] at HV
      clear hv hp HRn
      dsimp only at HPn
      go_wp2_with fail
      refine (HPn.out _ (HX1.out.trans HX3.out)).mono ?_
      rintro e9 w4 ⟨rfl, hx⟩
      have HX4 := Lib.hid ((HX3.out.trans hx).alloc (.cells #[.int .i64 0, .int .i64 0] 40))
      have hB := Blk.new w4 40 [.int .i64 0, .int .i64 0]
      have HB := Lib.hid hB
      clear hx x0 xl hB
      go_upto_region 6 with fail
      obtain ⟨g, hg⟩ : ∃ g, g = w4.heap.size := ⟨_, rfl⟩
      rw [← hg] at HB ⊢
      generalize w4.alloc (.cells #[.int .i64 0, .int .i64 0] 40) = W5 at *
      obtain ⟨x0, xl⟩ := HBT.out _ HX4.out
      clear hg
      go_wp2_with fail
      refine (HV.out _ (HX1.out.trans HX4.out)).mono ?_
      rintro e9 w6 ⟨rfl, hx⟩
      have HX6 := Lib.hid (HX4.out.trans hx)
      have y0 := (HB.out.ex hx).cell 0
      have y1 := (HB.out.ex hx).cell 1
      have yl := (HB.out.ex hx).lt
      clear hx x0 xl
      go_wp2_with fail
      go_ret
      exact Ret.mk rfl (HX1.out.trans HX6.out)
    | true =>
      have hp : pnV t s.data.toList = pnO t s.data.toList := by unfold pnV; rw [if_pos hv]
      rw [hp] at HPn
      rw [hv] at HV
      clear hv hp
      generalize pnO t s.data.toList = R at *
      obtain ⟨a, b, e⟩ := R
      dsimp only at HPn HRn
      go_wp2_with fail
      refine (HPn.out _ (HX1.out.trans HX3.out)).mono ?_
      rintro e9 w4 ⟨rfl, hx⟩
      have HX4 := Lib.hid ((HX3.out.trans hx).alloc (.cells #[.int .i64 a, .int .i64 b] 40))
      have hB := Blk.new w4 40 [.int .i64 a, .int .i64 b]
      have HB := Lib.hid hB
      clear hx x0 xl hB
      go_upto_region 6 with fail
      obtain ⟨g, hg⟩ : ∃ g, g = w4.heap.size := ⟨_, rfl⟩
      rw [← hg] at HB ⊢
      generalize w4.alloc (.cells #[.int .i64 a, .int .i64 b] 40) = W5 at *
      obtain ⟨x0, xl⟩ := HBT.out _ HX4.out
      clear hg
      go_wp2_with fail
      refine (HV.out _ (HX1.out.trans HX4.out)).mono ?_
      rintro e9 w6 ⟨rfl, hx⟩
      have HX6 := Lib.hid (HX4.out.trans hx)
      have HB6 := Lib.hid (HB.out.ex hx)
      clear hx x0 xl
      obtain ⟨x0, xl⟩ := HBT.out _ HX6.out
      go_wp2_with fail
      refine (HRn.out _ (HX1.out.trans HX6.out)).mono ?_
      rintro e9 w7 ⟨rfl, hx⟩
      have HX7 := Lib.hid ((HX6.out.trans hx).alloc (.cells #[.int .i64 a, .int .i64 b] 40))
      have hB7 := Blk.new w7 40 [.int .i64 a, .int .i64 b]
      have hC7 := (HB6.out.ex hx).alloc (.cells #[.int .i64 a, .int .i64 b] 40)
      clear hx x0 xl
      go_upto_region 9 with fail
      obtain ⟨g2, hg2⟩ : ∃ g, g = w7.heap.size := ⟨_, rfl⟩
      rw [← hg2] at hB7 ⊢
      generalize w7.alloc (.cells #[.int .i64 a, .int .i64 b] 40) = W8 at *
      have y0 := hB7.cell 0
      have y1 := hB7.cell 1
      have yl := hB7.lt
      have z0 := hC7.cell 0
      have z1 := hC7.cell 1
      have zl := hC7.lt
      clear hg2 hB7 hC7
      go_wp2_with fail
      go_ret
      exact Ret.mk rfl (HX1.out.trans HX7.out)
end Go.Proofs.YtpmponafjhnegaaGreatDoor
