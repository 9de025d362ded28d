/-
  The reference's list of all checkpoints, and comparing such lists.
  Conditions: as each theorem says.
-/
import Derived.Test.YtdenojfbdkdpiaaRd
import Derived.Test.YtdenojfbdkdpiaaQa
namespace Go.Proofs.Ytdenojfbdkdpiaa
open Go.RowKit Go.Shelf
set_option maxRecDepth 20000 in
set_option maxHeartbeats 3200000 in
theorem rCks_c (l : List (List Int)) (B : Option Addr) (lc : Nat) (w : World) (hL : LlC w B l) (hls : LSm l) (hsm : ∀ p j, p < l.length → j ≤ (l.getD p []).length → (ckU l p j).length ≤ 1000000) :
    Calls Try.prog 31 #[.slice B l.length lc] w (fun e w' => ∃ A c, e = .returned (.slice A (ckU l l.length 0).length c) ∧ OwnO w' w.heap.size 27 2 (.slice A (ckU l l.length 0).length c) (ckU l l.length 0).length (idCs (ckU l l.length 0)) ∧ Ex w w') := by
  have HL : Hid (∀ w', Ex w w' → LlC w' B l) := fun w' hx => hL.ex hx
  obtain ⟨i0, hi0, hz0, hz1, hz2⟩ := info_parts infoId
  have HRl : Hid (∀ (p : Nat) (r : List Int), l[p]? = some r → r.length ≤ 100000) := fun p r hr => hls.each r (List.mem_of_getElem? hr)
  have HSm := Lib.hid hsm
  have hll := hls.rows
  clear hL hls hsm
  go_enter Try.func31, Try.ntmps31
  go_wp2_with fail
  go_loopw [3, 4] (fun ov q wr => ∃ (p : Nat) (A2 : Option Addr) (c2 : Nat), q = .int .i64 p ∧ p ≤ l.length ∧ ov = .slice A2 (ckU l p 0).length c2 ∧ Hid (OwnO wr w.heap.size 27 2 (.slice A2 (ckU l p 0).length c2) (ckU l p 0).length (idCs (ckU l p 0)) ∧ Ex w wr)) (fun _ q _ => l.length - (intOf q).toNat)
  case atStart => exact ⟨0, none, 0, rfl, Nat.zero_le _, rfl, Lib.hid ⟨OwnO.nil _ _ _ _, Ex.refl _⟩⟩
  case round =>
    obtain ⟨p, A2, c2, rfl, hp, rfl, HH⟩ := hrel
    by_cases hpl : p < l.length
    · have m0 : (0 : Int) ≤ (p : Int) := by omega
      have m1 : (p : Int) < (l.length : Int) := by omega
      obtain ⟨r, hr⟩ := get_at hpl
      have hrl := HRl.out p r hr
      have hgd : l.getD p [] = r := by rw [List.getD_eq_getElem?_getD, hr]; rfl
      have HSr : Hid (∀ j, j ≤ r.length → (ckU l p j).length ≤ 1000000) := fun j hj => HSm.out p j hpl (by rw [hgd]; exact hj)
      have HNx : Hid (ckU l (p + 1) 0 = ckU l p r.length) := by
        rw [ckU_next, hgd]
        exact Lib.hid rfl
      obtain ⟨bb, oo, hBB, hbb, A7, c7, r0d, hc7, -⟩ := HL.out _ (Ex.refl w) p r hr
      subst hBB
      have HR0 : Hid (∀ w', Ex w w' → w'.cell? ⟨bb, oo + p, none⟩ = some (.slice A7 r.length c7)) := fun w' h => (h.below.cell hbb).trans r0d
      clear hr hgd r0d
      go_wp2_with fail
      go_loopw [3, 5] (fun ov q w3 => ∃ (j : Nat) (A3 : Option Addr) (c3 : Nat), q = .int .i64 j ∧ j ≤ r.length ∧ ov = .slice A3 (ckU l p j).length c3 ∧ Hid (OwnO w3 w.heap.size 27 2 (.slice A3 (ckU l p j).length c3) (ckU l p j).length (idCs (ckU l p j)) ∧ Ex w w3)) (fun _ q _ => r.length - (intOf q).toNat)
      case atStart => exact ⟨0, A2, c2, rfl, Nat.zero_le _, rfl, HH⟩
      case round =>
        clear HH
        obtain ⟨j, A3, c3, rfl, hj, rfl, HJ⟩ := hrel
        have r0 := HR0.out _ HJ.out.2
        by_cases hjl : j < r.length
        · have n0 : (0 : Int) ≤ (j : Int) := by omega
          have n1 : (j : Int) < (r.length : Int) := by omega
          have w1' : IntKind.i64.wrap ((j : Int) + 1) = (j : Int) + 1 := IntWalk.i64_in _ (by omega)
          have hul := HSr.out j hj
          have HN := Lib.hid (ckU_step l p j)
          have hbase := HJ.out.2.below.size
          have hXs : Ex wr (wr.alloc (.cells #[.int .i64 (p : Nat), .int .i64 ((j : Int) + 1)] 27)) := (Ex.refl _).alloc _
          have HOs := Lib.hid (HJ.out.1.ex hXs)
          have HXs := Lib.hid (HJ.out.2.trans hXs)
          clear hXs
          generalize ckU l p j = U at *
          generalize hU2 : ckU l p (j + 1) = U2 at *
          have HU2 := Lib.hid hU2
          clear hU2
          go_wp2_with (at_builtin; refine wpList_append_one _ rfl _ _ 41 rfl w.heap.size 27 i0 _ 2 16 Try.underlying41 hi0 hz0 hz1 hz2 rfl (.slice A3 U.length c3) U.length (idCs U) rfl HOs.out wr.heap.size [.int .i64 (p : Nat), .int .i64 ((j : Int) + 1)] rfl rfl ?c1 ?c2 ?c3 ?c4 ?c5 ?_)
          case c1 => exact news_new rfl (by simp)
          case c2 => exact one_ints (by simp)
          case c3 => omega
          case c4 => omega
          case c5 => simp; omega
          intro A4 c4 w6 ho hg hat hEx
          have HX6 := Lib.hid (hEx w HXs.out (Nat.le_refl _))
          have hl2 : U2.length = U.length + 1 := by rw [HN.out]; simp
          have HO6 : Hid (OwnO w6 w.heap.size 27 2 (.slice A4 U2.length c4) U2.length (idCs U2)) := by
            rw [hl2, HN.out, idCs_snoc]
            exact ho
          clear ho hg hat hEx
          go_wp2_with fail
          refine ⟨⟨j + 1, A4, c4, by go_num, by omega, by rw [HU2.out, hl2], Lib.hid ⟨by rw [HU2.out]; exact HO6.out, HX6.out⟩⟩, by simp [intOf]; omega⟩
        · obtain rfl : j = r.length := by omega
          have s1 : decide ((r.length : Int) < (r.length : Int)) = false := decide_eq_false (by omega)
          go_wp2_with fail
          refine ⟨⟨p + 1, A3, c3, by go_num, by omega, by rw [HNx.out], Lib.hid ⟨by rw [HNx.out]; exact HJ.out.1, HJ.out.2⟩⟩, by simp [intOf]; omega⟩
    · obtain rfl : p = l.length := by omega
      have s1 : decide ((l.length : Int) < (l.length : Int)) = false := decide_eq_false (by omega)
      go_wp2_with fail
      go_ret
      exact ⟨A2, c2, rfl, HH.out.1, HH.out.2⟩
end Go.Proofs.Ytdenojfbdkdpiaa
