/-
  The program's Useless, walked.
  Conditions: as each theorem says.
-/
import Derived.Test.YtdenojfbdkdpiaaYm
namespace Go.Proofs.Ytdenojfbdkdpiaa
open Go.RowKit Go.Shelf
/-- the names of the checkpoints ahead of (p, j) -/
def ckU (l : List (List Int)) (p j : Nat) : List (Nat × Nat) := ((List.range p).flatMap fun q => (List.range (l.getD q []).length).map fun i => (q, i + 1)) ++ (List.range j).map fun i => (p, i + 1)
theorem ckU_zero (l : List (List Int)) : ckU l 0 0 = [] := rfl
theorem ckU_step (l : List (List Int)) (p j : Nat) : ckU l p (j + 1) = ckU l p j ++ [(p, j + 1)] := by
  unfold ckU
  rw [List.range_succ, List.map_append, ← List.append_assoc]
  rfl
theorem ckU_next (l : List (List Int)) (p : Nat) : ckU l (p + 1) 0 = ckU l p (l.getD p []).length := by
  unfold ckU
  rw [List.range_succ, List.flatMap_append]
  simp
theorem mem_ckU {l : List (List Int)} {x : Nat × Nat} : x ∈ ckU l l.length 0 ↔ CkP l x := by
  unfold ckU CkP
  obtain ⟨a, b⟩ := x
  simp only [List.range_zero, List.map_nil, List.append_nil, List.mem_flatMap, List.mem_range, List.mem_map, Prod.mk.injEq]
  constructor
  · rintro ⟨q, hq, i, hi, rfl, rfl⟩
    exact ⟨hq, by omega, by omega⟩
  · rintro ⟨h1, h2, h3⟩
    exact ⟨a, h1, b - 1, by omega, rfl, by omega⟩
theorem ckU_le {l : List (List Int)} {K : Nat} (h : ∀ r, r ∈ l → r.length ≤ K) : ∀ p j, (ckU l p j).length ≤ p * K + j
  | 0, j => by unfold ckU; simp
  | p + 1, j => by
    have h0 := ckU_le h p (l.getD p []).length
    rw [← ckU_next] at h0
    have h1 : (l.getD p []).length ≤ K := by
      rw [List.getD_eq_getElem?_getD]
      cases hr : l[p]? with
      | none => simp
      | some r => exact h r (List.mem_of_getElem? hr)
    have h2 : (ckU l (p + 1) j).length = (ckU l (p + 1) 0).length + j := by unfold ckU; simp
    rw [h2, Nat.succ_mul]
    omega
/-- the checkpoints of a list that reach themselves -/
noncomputable def useL (l : List (List Int)) (M : List Msg) (L : List (Nat × Nat)) : List (Nat × Nat) := L.filter fun x => zzB l M x x
theorem useL_snoc (l : List (List Int)) (M : List Msg) (L : List (Nat × Nat)) (x : Nat × Nat) : useL l M (L ++ [x]) = useL l M L ++ (if zzB l M x x = true then [x] else []) := by
  unfold useL
  rw [List.filter_append]
  congr 1
  by_cases h : zzB l M x x = true
  · simp [h]
  · simp [h]
/-- what Useless hands back -/
def UseR (t : List Pr) (l : List (List Int)) (w : World) (e : Ending) (w' : World) : Prop :=
  (cpB t l = false ∧ e = .returned (.tuple #[.slice none 0 0, .int .i64 1]) ∧ Ex w w') ∨
  (cpB t l = true ∧ ∃ A c, e = .returned (.tuple #[.slice A (useL l (msgs t) (ckU l l.length 0)).length c, .int .i64 0]) ∧ OwnO w' w.heap.size 27 2 (.slice A (useL l (msgs t) (ckU l l.length 0)).length c) (useL l (msgs t) (ckU l l.length 0)).length (idCs (useL l (msgs t) (ckU l l.length 0))) ∧ Ex w w')
set_option maxRecDepth 100000 in
set_option maxHeartbeats 6400000 in
theorem pUseless_c (t : List Pr) (A : Option Addr) (c : Nat) (l : List (List Int)) (B : Option Addr) (lc : Nat) (w : World) (hT : TcC w A t) (hs : TSm t) (hcap : t.length ≤ c) (hL : LlC w B l) (hls : LSm l) (hsm : ∀ p j, p < l.length → j ≤ (l.getD p []).length → (ckU l p j).length ≤ 1000000) :
    Calls Try.prog 28 #[.agg #[.slice A t.length c], .slice B l.length lc] w (UseR t l w) := by
  have HV := Lib.hid (fun w' (h : Ex w w') => pCp_c t A c l B lc w' (hT.ex h) hs hcap (hL.ex h) hls)
  have HL : Hid (∀ w', Ex w w' → LlC w' B l) := fun w' hx => hL.ex hx
  obtain ⟨i0, hi0, hz0, hz1, hz2⟩ := info_parts infoId
  obtain ⟨W0, hW0⟩ : ∃ W0, W0 = w.alloc (.cells #[.slice A t.length c] 24) := ⟨_, rfl⟩
  have HX0 : Hid (Ex w W0) := by rw [hW0]; exact (Ex.refl w).alloc _
  have HB0 : Hid (∀ w', Ex W0 w' → Blk w' w.heap.size 24 [.slice A t.length c]) := fun w' hx => by
    have : Blk W0 w.heap.size 24 [.slice A t.length c] := by rw [hW0]; exact Blk.new w _ _
    exact this.ex hx
  have HW0 := Lib.hid hW0
  have x0 := (HB0.out _ (Ex.refl _)).cell 0
  have xl := (HB0.out _ (Ex.refl _)).lt
  unfold UseR
  cases hv : cpB t l with
  | false =>
    rw [hv] at HV
    clear hW0 hT hcap hL hs hls hsm
    go_enter Try.func28, Try.ntmps28
    go_wp2_with fail
    rw [← HW0.out]
    go_wp2_with fail
    refine (HV.out _ HX0.out).mono ?_
    rintro e9 w1 ⟨rfl, hx1⟩
    have HX1 := Lib.hid (HX0.out.trans hx1)
    clear hx1 x0 xl
    go_wp2_with fail
    exact bodyPost_ret (results_tt rfl rfl rfl) rfl (.inl ⟨by first | rfl | trivial, rfl, HX1.out⟩)
  | true =>
    rw [hv] at HV
    have hvv := cp_of hv
    have hP : Paired t := paired_of (fault_zero (of_decide_eq_true hvv.1)).2.2.2.1
    have hml : (msgs t).length ≤ 100000 := Nat.le_trans (rcv_len t.length 0 (.inr ⟨Nat.le_refl _, rfl⟩)) hs.events
    have HMs := Lib.hid (fun w' (h : Ex w w') => messages_c t A c w' (hT.ex h) hs hcap hvv.1)
    have hfit := msg_fit hP hvv.2
    have HZ := Lib.hid (fun (x : Nat × Nat) MA mc w' (h : Ex w w') (hM : Row w' MA (msgCs (msgs t))) (hx : CkP l x) => zigzag_c l B lc (msgs t) MA mc x x w' (hL.ex h) hls (cp_asc hvv.2) hM hml (fun m hm => msg_small hs hP hm) (fun m hm => ⟨(hfit.bound m hm).1, (hfit.bound m hm).2.1⟩) hx hx)
    have HRl : Hid (∀ (p : Nat) (r : List Int), l[p]? = some r → r.length ≤ 100000) := fun p r hr => hls.each r (List.mem_of_getElem? hr)
    have HSm : Hid (∀ p j, p < l.length → j ≤ (l.getD p []).length → (useL l (msgs t) (ckU l p j)).length ≤ 1000000) := fun p j h1 h2 => Nat.le_trans (List.length_filter_le _ _) (hsm p j h1 h2)
    have hll := hls.rows
    have HSn := Lib.hid (useL_snoc l (msgs t))
    unfold MsgsR at HMs
    generalize msgs t = M at *
    clear hW0 hT hcap hL hs hls hvv hP hfit hsm
    go_enter Try.func28, Try.ntmps28
    go_wp2_with fail
    rw [← HW0.out]
    go_wp2_with fail
    refine (HV.out _ HX0.out).mono ?_
    rintro e9 w1 ⟨rfl, hx1⟩
    have HX1 := Lib.hid hx1
    clear hx1 x0 xl
    have x0 := (HB0.out _ HX1.out).cell 0
    have xl := (HB0.out _ HX1.out).lt
    go_wp2_with fail
    refine (HMs.out _ (HX0.out.trans HX1.out)).mono ?_
    rintro e9 w2 ⟨MA, mc, rfl, ho2, hx2⟩
    have HX2 := Lib.hid (HX1.out.trans hx2)
    have HMr := Lib.hid ho2.row
    clear ho2 hx2 x0 xl
    go_wp2_with fail
    go_loopw [7, 20] (fun ov q wr => ∃ (p : Nat) (A2 : Option Addr) (c2 : Nat), q = .int .i64 p ∧ p ≤ l.length ∧ ov = .slice A2 (useL l M (ckU l p 0)).length c2 ∧ Hid (OwnO wr w2.heap.size 27 2 (.slice A2 (useL l M (ckU l p 0)).length c2) (useL l M (ckU l p 0)).length (idCs (useL l M (ckU l p 0))) ∧ Ex w2 wr)) (fun _ q _ => l.length - (intOf q).toNat)
    case atStart => exact ⟨0, none, 0, rfl, Nat.zero_le _, rfl, Lib.hid ⟨OwnO.nil _ _ _ _, Ex.refl _⟩⟩
    case round =>
      obtain ⟨p, A2, c2, rfl, hp, rfl, HH⟩ := hrel
      by_cases hpl : p < l.length
      · have m0 : (0 : Int) ≤ (p : Int) := by omega
        have m1 : (p : Int) < (l.length : Int) := by omega
        obtain ⟨r, hr⟩ := get_at hpl
        have hrl := HRl.out p r hr
        have HCk : Hid (∀ i, i < r.length → CkP l (p, i + 1)) := fun i hi => ⟨hpl, by simp, by
          show i + 1 ≤ (l.getD p []).length
          rw [List.getD_eq_getElem?_getD, hr]
          exact hi⟩
        have HNx : Hid (ckU l (p + 1) 0 = ckU l p r.length) := by
          rw [ckU_next, List.getD_eq_getElem?_getD, hr]
          exact Lib.hid rfl
        obtain ⟨bb, oo, hBB, hbb, A7, c7, r0, hc7, -⟩ := HL.out _ (HX0.out.trans (HX2.out.trans HH.out.2)) p r hr
        subst hBB
        clear hr
        go_wp2_with fail
        clear r0 hbb
        go_loopw [7, 27] (fun ov q w3 => ∃ (j : Nat) (A3 : Option Addr) (c3 : Nat), q = .int .i64 j ∧ j ≤ r.length ∧ ov = .slice A3 (useL l M (ckU l p j)).length c3 ∧ Hid (OwnO w3 w2.heap.size 27 2 (.slice A3 (useL l M (ckU l p j)).length c3) (useL l M (ckU l p j)).length (idCs (useL l M (ckU l p j))) ∧ Ex w2 w3)) (fun _ q _ => r.length - (intOf q).toNat)
        case atStart => exact ⟨0, A2, c2, rfl, Nat.zero_le _, rfl, HH⟩
        case round =>
          clear HH
          obtain ⟨j, A3, c3, rfl, hj, rfl, HJ⟩ := hrel
          by_cases hjl : j < r.length
          · have n0 : (0 : Int) ≤ (j : Int) := by omega
            have n1 : (j : Int) < (r.length : Int) := by omega
            have w1' : IntKind.i64.wrap ((j : Int) + 1) = (j : Int) + 1 := IntWalk.i64_in _ (by omega)
            have hul := HSm.out p j hpl (Nat.le_of_succ_le (HCk.out j hjl).2.2)
            have hXa : Ex wr (wr.alloc (.cells #[.int .i64 (p : Nat), .int .i64 ((j : Int) + 1)] 27)) := (Ex.refl _).alloc _
            have hBa : Blk (wr.alloc (.cells #[.int .i64 (p : Nat), .int .i64 ((j : Int) + 1)] 27)) wr.heap.size 27 [.int .i64 (p : Nat), .int .i64 ((j : Int) + 1)] := Blk.new wr _ _
            have HZ1 := Lib.hid (HZ.out (p, j + 1) MA mc _ (HX0.out.trans (HX2.out.trans (HJ.out.2.trans hXa))) (HMr.out.ex (HJ.out.2.trans hXa)) (HCk.out j hjl))
            unfold idV at HZ1
            have HU := Lib.hid (HSn.out (ckU l p j) (p, j + 1))
            have HXa := Lib.hid hXa
            have HBa := Lib.hid hBa
            have HSt := Lib.hid (ckU_step l p j)
            clear hXa hBa
            cases hz : zzB l M (p, j + 1) (p, j + 1) with
            | false =>
              rw [hz] at HZ1 HU
              have HN : Hid (useL l M (ckU l p (j + 1)) = useL l M (ckU l p j)) := by
                rw [HSt.out, HU.out]
                exact Lib.hid (by simp)
              clear hz HU
              go_wp2_with fail
              refine (HZ1.out).mono ?_
              rintro e9 w5 ⟨rfl, hx5⟩
              have HX5 := Lib.hid (HXa.out.trans hx5)
              clear hx5
              go_wp2_with fail
              refine ⟨⟨j + 1, A3, c3, by go_num, by omega, by rw [HN.out], Lib.hid ⟨by rw [HN.out]; exact HJ.out.1.ex HX5.out, HJ.out.2.trans HX5.out⟩⟩, by simp [intOf]; omega⟩
            | true =>
              rw [hz] at HZ1 HU
              have HN : Hid (useL l M (ckU l p (j + 1)) = useL l M (ckU l p j) ++ [(p, j + 1)]) := by
                rw [HSt.out, HU.out]
                exact Lib.hid (by simp)
              clear hz HU
              generalize useL l M (ckU l p j) = U at *
              generalize hU2 : useL l M (ckU l p (j + 1)) = U2 at *
              have HU2 := Lib.hid hU2
              clear hU2
              go_wp2_with fail
              refine (HZ1.out).mono ?_
              rintro e9 w5 ⟨rfl, hx5⟩
              have hb5 := HBa.out.ex hx5
              have q0 := hb5.cell 0
              have q1 := hb5.cell 1
              have ql := hb5.lt
              have hXs : Ex w5 (w5.alloc (.cells #[.int .i64 (p : Nat), .int .i64 ((j : Int) + 1)] 27)) := (Ex.refl _).alloc _
              have HOs := Lib.hid (HJ.out.1.ex (HXa.out.trans (hx5.trans hXs)))
              have HXs := Lib.hid (HJ.out.2.trans (HXa.out.trans (hx5.trans hXs)))
              have hbase := (HJ.out.2.trans (HXa.out.trans hx5)).below.size
              clear hx5 hb5 hXs
              go_wp2_with (at_builtin; refine wpList_append_one _ rfl _ _ 41 rfl w2.heap.size 27 i0 _ 2 16 Try.underlying41 hi0 hz0 hz1 hz2 rfl (.slice A3 U.length c3) U.length (idCs U) rfl HOs.out w5.heap.size [.int .i64 (p : Nat), .int .i64 ((j : Int) + 1)] rfl rfl ?c1 ?c2 ?c3 ?c4 ?c5 ?_)
              case c1 => exact news_new rfl (by simp)
              case c2 => exact one_ints (by simp)
              case c3 => omega
              case c4 => omega
              case c5 => simp; omega
              intro A4 c4 w6 ho hg hat hEx
              have HX6 := Lib.hid (hEx w2 HXs.out (Nat.le_refl _))
              have hl2 : U2.length = U.length + 1 := by rw [HN.out]; simp
              have HO6 : Hid (OwnO w6 w2.heap.size 27 2 (.slice A4 U2.length c4) U2.length (idCs U2)) := by
                rw [hl2, HN.out, idCs_snoc]
                exact ho
              clear ho hg hat hEx q0 q1 ql
              go_wp2_with fail
              refine ⟨⟨j + 1, A4, c4, by go_num, by omega, by rw [HU2.out, hl2], Lib.hid ⟨by rw [HU2.out]; exact HO6.out, HX6.out⟩⟩, by simp [intOf]; omega⟩
          · obtain rfl : j = r.length := by omega
            have s1 : decide ((r.length : Int) < (r.length : Int)) = false := decide_eq_false (by omega)
            go_wp2_with fail
            refine ⟨⟨p + 1, A3, c3, by go_num, by omega, by rw [HNx.out], Lib.hid ⟨by rw [HNx.out]; exact HJ.out.1, HJ.out.2⟩⟩, by simp [intOf]; omega⟩
      · obtain rfl : p = l.length := by omega
        have s1 : decide ((l.length : Int) < (l.length : Int)) = false := decide_eq_false (by omega)
        go_wp2_with fail
        exact bodyPost_ret (results_tt rfl rfl rfl) rfl (.inr ⟨by first | rfl | trivial, A2, c2, rfl, HH.out.1.mono (HX0.out.trans HX2.out).below.size, HX0.out.trans (HX2.out.trans HH.out.2)⟩)
end Go.Proofs.Ytdenojfbdkdpiaa
