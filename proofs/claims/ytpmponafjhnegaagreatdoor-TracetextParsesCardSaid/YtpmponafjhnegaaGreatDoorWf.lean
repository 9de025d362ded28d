/-
  SameEvent of the reference, walked. Same of the reference at two copies of one trace, walked.
  Conditions: as each theorem says.
-/
import Derived.Test.YtpmponafjhnegaaGreatDoorYc
import Derived.Deep.Cut
import Derived.BigQuiet
import Derived.Deep.CutBlock
import Derived.Deep.CutRange
import Derived.Deep.LoopGhost
import Derived.RegionTactic
import Derived.BigRegion
import Derived.ChangeAlike
namespace Go.Proofs.YtpmponafjhnegaaGreatDoor
section
open Go.RowKit
theorem asGuard : Tryz.prog.eqGuardType Tryz.prog.depth 102 = false := by kernel_rfl
theorem asHeld : Tryz.prog.stoodInHeld 102 = false := by kernel_rfl
theorem asStruct : Tryz.prog.underlying 102 = some (.struct (Tryz.prog.fieldsOf 102)) := by kernel_rfl
theorem eq_as (a b c d : Int) (w : World) : (Op.equalIn 10000 102 (.agg #[.int .i64 a, .int .i64 b]) (.agg #[.int .i64 c, .int .i64 d])).run Tryz.prog w = .ok (a == c && b == d) w := by
  rw [run_equalIn_struct _ _ _ _ _ asStruct asHeld]
  simp only [Program.fieldsOf, Tryz.underlying102]
  by_cases h1 : a = c <;> by_cases h2 : b = d <;> simp [Op.eqFields, go_sem, h1, h2]
theorem neq_as (a b c d : Int) (w : World) : (binOp .neq 102 (.agg #[.int .i64 a, .int .i64 b]) (.agg #[.int .i64 c, .int .i64 d])).run Tryz.prog w = .ok (.bool (!(a == c && b == d))) w := by
  rw [run_neq_struct, eq_as]
  rfl
attribute [go_sem] asGuard neq_as
theorem vrGuard : Tryz.prog.eqGuardType Tryz.prog.depth 71 = false := by kernel_rfl
theorem vrHeld : Tryz.prog.stoodInHeld 71 = false := by kernel_rfl
theorem vrStruct : Tryz.prog.underlying 71 = some (.struct (Tryz.prog.fieldsOf 71)) := by kernel_rfl
theorem eq_vr (a c : ByteArray) (b d : Int) (w : World) : (Op.equalIn 10000 71 (.agg #[.string a, .int .i64 b]) (.agg #[.string c, .int .i64 d])).run Tryz.prog w = .ok (a.toList == c.toList && b == d) w := by
  rw [run_equalIn_struct _ _ _ _ _ vrStruct vrHeld]
  simp only [Program.fieldsOf, Tryz.underlying71]
  by_cases h1 : a.toList = c.toList <;> by_cases h2 : b = d <;> simp [Op.eqFields, go_sem, h1, h2]
theorem neq_vr (a c : ByteArray) (b d : Int) (w : World) : (binOp .neq 71 (.agg #[.string a, .int .i64 b]) (.agg #[.string c, .int .i64 d])).run Tryz.prog w = .ok (.bool (!(a.toList == c.toList && b == d))) w := by
  rw [run_neq_struct, eq_vr]
  rfl
attribute [go_sem] vrGuard neq_vr
def sameE (a b : Ev) : Bool := decide (a.kind = b.kind) && decide (a.peer = b.peer) && decide (a.msg = b.msg) && decide (a.time = b.time) && decide (a.asg = b.asg)
theorem sameE_iff {a b : Ev} : sameE a b = true ↔ a = b := by
  unfold sameE
  simp only [Bool.and_eq_true, decide_eq_true_eq]
  constructor
  · rintro ⟨⟨⟨⟨h1, h2⟩, h3⟩, h4⟩, h5⟩
    cases a; cases b
    simp only at h1 h2 h3 h4 h5
    subst h1 h2 h3 h4 h5
    rfl
  · rintro rfl
    simp
set_option maxRecDepth 100000 in
set_option maxHeartbeats 3200000 in
theorem sameEv_c (a b : Ev) (A B : Option Addr) (ac bc : Nat) (w : World) (hA : Row w A (asgV a.asg)) (hB : Row w B (asgV b.asg)) (hl : a.asg.length ≤ 100000) (hm : b.asg.length ≤ 100000) :
    Calls Tryz.prog 19 #[.agg #[.int .i64 a.kind, .int .i64 a.peer, .int .i64 a.msg, .int .i64 a.time, .slice A a.asg.length ac], .agg #[.int .i64 b.kind, .int .i64 b.peer, .int .i64 b.msg, .int .i64 b.time, .slice B b.asg.length bc]] w (Ret w (.bool (sameE a b))) := by
  have HR : Hid (sameE a b = (decide (a.kind = b.kind) && decide (a.peer = b.peer) && decide (a.msg = b.msg) && decide (a.time = b.time) && decide (a.asg = b.asg))) := Lib.hid rfl
  have HA : Hid (∀ w', Ex w w' → Row w' A (asgV a.asg)) := fun w' hx => hA.ex hx
  have HB : Hid (∀ w', Ex w w' → Row w' B (asgV b.asg)) := fun w' hx => hB.ex hx
  generalize sameE a b = R at *
  obtain ⟨a1, a2, a3, a4, la⟩ := a
  obtain ⟨b1, b2, b3, b4, lb⟩ := b
  dsimp only at *
  clear hA hB
  by_cases h1 : a1 = b1
  case neg =>
    rw [decide_eq_false h1] at HR
    have t1 : (a1 != b1) = true := bne_iff_ne.2 h1
    have hR : R = false := HR.out
    subst hR
    clear h1
    go_enter Tryz.func19, Tryz.ntmps19
    go_wp2_with fail
    go_ret
    exact Ret.mk rfl (((Ex.refl w).alloc _).alloc _)
  rw [decide_eq_true h1] at HR
  have t1 : (a1 != b1) = false := by rw [h1]; exact bne_self_eq_false _
  by_cases h2 : a2 = b2
  case neg =>
    rw [decide_eq_false h2] at HR
    have t2 : (a2 != b2) = true := bne_iff_ne.2 h2
    have hR : R = false := HR.out
    subst hR
    clear h1 h2
    go_enter Tryz.func19, Tryz.ntmps19
    go_wp2_with fail
    go_ret
    exact Ret.mk rfl (((Ex.refl w).alloc _).alloc _)
  rw [decide_eq_true h2] at HR
  have t2 : (a2 != b2) = false := by rw [h2]; exact bne_self_eq_false _
  by_cases h3 : a3 = b3
  case neg =>
    rw [decide_eq_false h3] at HR
    have t3 : (a3 != b3) = true := bne_iff_ne.2 h3
    have hR : R = false := HR.out
    subst hR
    clear h1 h2 h3
    go_enter Tryz.func19, Tryz.ntmps19
    go_wp2_with fail
    go_ret
    exact Ret.mk rfl (((Ex.refl w).alloc _).alloc _)
  rw [decide_eq_true h3] at HR
  have t3 : (a3 != b3) = false := by rw [h3]; exact bne_self_eq_false _
  by_cases h4 : a4 = b4
  case neg =>
    rw [decide_eq_false h4] at HR
    have t4 : (a4 != b4) = true := bne_iff_ne.2 h4
    have hR : R = false := HR.out
    subst hR
    clear h1 h2 h3 h4
    go_enter Tryz.func19, Tryz.ntmps19
    go_wp2_with fail
    go_ret
    exact Ret.mk rfl (((Ex.refl w).alloc _).alloc _)
  rw [decide_eq_true h4] at HR
  have t4 : (a4 != b4) = false := by rw [h4]; exact bne_self_eq_false _
  by_cases h5 : la.length = lb.length
  case neg =>
    have t5 : ((la.length : Int) != (lb.length : Int)) = true := bne_iff_ne.2 (by omega)
    have hne : ¬ la = lb := fun e => h5 (by rw [e])
    rw [decide_eq_false hne] at HR
    have hR : R = false := HR.out
    subst hR
    clear h1 h2 h3 h4 h5 hne
    go_enter Tryz.func19, Tryz.ntmps19
    go_wp2_with fail
    go_ret
    exact Ret.mk rfl (((Ex.refl w).alloc _).alloc _)
  have t5 : ((la.length : Int) != (lb.length : Int)) = false := by rw [h5]; exact bne_self_eq_false _
  have HR' : Hid (R = decide (la = lb)) := HR.out
  have H5 := Lib.hid h5
  clear HR h1 h2 h3 h4 h5
  have HB2 := Lib.hid ((Blk.new w 38 [.int .i64 a1, .int .i64 a2, .int .i64 a3, .int .i64 a4, .slice A la.length ac]).alloc (.cells #[.int .i64 b1, .int .i64 b2, .int .i64 b3, .int .i64 b4, .slice B lb.length bc] 38))
  have hz : (w.alloc (.cells #[.int .i64 a1, .int .i64 a2, .int .i64 a3, .int .i64 a4, .slice A la.length ac] 38)).heap.size = w.heap.size + 1 := Array.size_push _
  have hb3 := Blk.new (w.alloc (.cells #[.int .i64 a1, .int .i64 a2, .int .i64 a3, .int .i64 a4, .slice A la.length ac] 38)) 38 [.int .i64 b1, .int .i64 b2, .int .i64 b3, .int .i64 b4, .slice B lb.length bc]
  rw [hz] at hb3
  have HB3 := Lib.hid hb3
  have HX := Lib.hid (((Ex.refl w).alloc (.cells #[.int .i64 a1, .int .i64 a2, .int .i64 a3, .int .i64 a4, .slice A la.length ac] 38)).alloc (.cells #[.int .i64 b1, .int .i64 b2, .int .i64 b3, .int .i64 b4, .slice B lb.length bc] 38))
  clear hz hb3
  go_enter Tryz.func19, Tryz.ntmps19
  go_upto_region 1 with fail
  generalize (w.alloc (.cells #[.int .i64 a1, .int .i64 a2, .int .i64 a3, .int .i64 a4, .slice A la.length ac] 38)).alloc (.cells #[.int .i64 b1, .int .i64 b2, .int .i64 b3, .int .i64 b4, .slice B lb.length bc] 38) = W2 at *
  have x0 := HB2.out.cell 0
  have x1 := HB2.out.cell 1
  have x2 := HB2.out.cell 2
  have x3 := HB2.out.cell 3
  have x4 := HB2.out.cell 4
  have y0 := HB3.out.cell 0
  have y1 := HB3.out.cell 1
  have y2 := HB3.out.cell 2
  have y3 := HB3.out.cell 3
  have y4 := HB3.out.cell 4
  have xl := HB2.out.lt
  have yl := HB3.out.lt
  go_wp2_with fail
  go_loopw [5] (fun q wr => ∃ k : Nat, q = .int .i64 k ∧ k ≤ la.length ∧ Hid ((∀ j < k, la[j]? = lb[j]?) ∧ Ex W2 wr)) (fun q _ => la.length - (intOf q).toNat)
  case atStart => exact ⟨0, rfl, Nat.zero_le _, Lib.hid ⟨fun j h => absurd h (Nat.not_lt_zero _), Ex.refl _⟩⟩
  case round =>
    obtain ⟨k, rfl, hk, HH⟩ := hrel
    obtain ⟨hpre, hw⟩ := HH.out
    have HPre := Lib.hid hpre
    have HX2 := Lib.hid hw
    clear x0 x1 x2 x3 x4 y0 y1 y2 y3 y4 xl yl
    have x4 := (HB2.out.ex hw).cell 4
    have y4 := (HB3.out.ex hw).cell 4
    have xl := (HB2.out.ex hw).lt
    have yl := (HB3.out.ex hw).lt
    have HX3 := Lib.hid (HX.out.trans hw)
    clear hpre HH hw
    by_cases hkl : k < la.length
    · have m0 : (0 : Int) ≤ (k : Int) := by omega
      have m1 : (k : Int) < (la.length : Int) := by omega
      have m2 : (k : Int) < (lb.length : Int) := by have := H5.out; omega
      obtain ⟨u, hu⟩ : ∃ u, la[k]? = some u := ⟨_, List.getElem?_eq_getElem hkl⟩
      obtain ⟨v, hv⟩ : ∃ v, lb[k]? = some v := ⟨_, List.getElem?_eq_getElem (by have := H5.out; omega)⟩
      obtain ⟨ba, oa, rfl, hba, p0, p1⟩ := (HA.out _ HX3.out).asg hu
      obtain ⟨bb, ob, rfl, hbb, q0, q1⟩ := (HB.out _ HX3.out).asg hv
      have hp1 : IntKind.i64.wrap ((k : Int) + 1) = (k : Int) + 1 := IntWalk.i64_in _ (by omega)
      obtain ⟨u1, u2⟩ := u
      obtain ⟨v1, v2⟩ := v
      dsimp only at *
      by_cases he : u1 = v1 ∧ u2 = v2
      · have HN : Hid (∀ j < k + 1, la[j]? = lb[j]?) := fun j hj => by
          rcases Nat.lt_or_ge j k with h | h
          · exact HPre.out j h
          · obtain rfl : j = k := by omega
            rw [hu, hv, he.1, he.2]
        obtain ⟨rfl, rfl⟩ := he
        clear hu hv
        have t1 : (u1 == u1 && u2 == u2) = true := by simp
        go_upto_region 6 with fail
        refine wp_region_ext (by kernel_rfl) (by kernel_rfl) ?_
        repeat (go_big_quiet_step (fail))
        refine wpQuiet_end (fun z2 => ?_)
        go_wp2_with fail
        exact ⟨⟨k + 1, by go_num, by omega, Lib.hid ⟨HN.out, HX2.out.ext z2⟩⟩, by simp [intOf]; omega⟩
      · have hR : R = false := by
          rw [HR'.out]
          refine decide_eq_false fun e => he ?_
          rw [e, hv] at hu
          cases hu
          exact ⟨rfl, rfl⟩
        subst hR
        clear hu hv
        by_cases h1 : u1 = v1
        · subst h1
          have q2 : ¬ u2 = v2 := fun h => he ⟨rfl, h⟩
          clear he
          go_upto_region 6 with fail
          refine wp_region_ext (by kernel_rfl) (by kernel_rfl) ?_
          repeat (go_big_quiet_step (fail))
          refine wpQuiet_end (fun z2 => ?_)
          go_wp2_with fail
          go_ret
          exact Ret.mk rfl (HX3.out.ext z2)
        · clear he
          go_upto_region 6 with fail
          refine wp_region_ext (by kernel_rfl) (by kernel_rfl) ?_
          repeat (go_big_quiet_step (fail))
          refine wpQuiet_end (fun z2 => ?_)
          go_wp2_with fail
          go_ret
          exact Ret.mk rfl (HX3.out.ext z2)
    · obtain rfl : k = la.length := by omega
      have m1 : decide ((la.length : Int) < (la.length : Int)) = false := decide_eq_false (by omega)
      have hR : R = true := by
        rw [HR'.out]
        refine decide_eq_true (List.ext_getElem? fun j => ?_)
        rcases Nat.lt_or_ge j la.length with h | h
        · exact HPre.out j h
        · rw [List.getElem?_eq_none h, List.getElem?_eq_none (by have := H5.out; omega)]
      subst hR
      go_wp2_with fail
      go_ret
      exact Ret.mk rfl HX3.out
end
section
open Go.RowKit
theorem two_new (W : World) (T : Nat) (a b : List Value) : Blk (((W.alloc (.cells a.toArray T)).alloc (.cells b.toArray T)).drew) W.heap.size T a ∧ Blk (((W.alloc (.cells a.toArray T)).alloc (.cells b.toArray T)).drew) (W.heap.size + 1) T b ∧ Ex W (((W.alloc (.cells a.toArray T)).alloc (.cells b.toArray T)).drew) := by
  have hz : (W.alloc (.cells a.toArray T)).heap.size = W.heap.size + 1 := Array.size_push _
  refine ⟨((Blk.new W T a).alloc _).drew, ?_, (((Ex.refl W).alloc _).alloc _).drew⟩
  have := (Blk.new (W.alloc (.cells a.toArray T)) T b).drew
  rw [hz] at this
  exact this
set_option maxRecDepth 100000 in
set_option maxHeartbeats 6400000 in
theorem same_c (t : List Pr) (A B : Option Addr) (ac bc : Nat) (w : World) (hA : TcC w A t) (hB : TcC w B t) (hs : TSm t) :
    Calls Tryz.prog 22 #[.agg #[.slice A t.length ac], .agg #[.slice B t.length bc]] w (Ret w (.bool true)) := by
  have HA : Hid (∀ w', Ex w w' → TcC w' A t) := fun w' hx => hA.ex hx
  have HB : Hid (∀ w', Ex w w' → TcC w' B t) := fun w' hx => hB.ex hx
  have HSm := Lib.hid hs
  have htl := hs.procs
  have HB2 := Lib.hid ((Blk.new w 24 [.slice A t.length ac]).alloc (.cells #[.slice B t.length bc] 24))
  have hz : (w.alloc (.cells #[.slice A t.length ac] 24)).heap.size = w.heap.size + 1 := Array.size_push _
  have hb3 := Blk.new (w.alloc (.cells #[.slice A t.length ac] 24)) 24 [.slice B t.length bc]
  rw [hz] at hb3
  have HB3 := Lib.hid hb3
  have HX := Lib.hid (((Ex.refl w).alloc (.cells #[.slice A t.length ac] 24)).alloc (.cells #[.slice B t.length bc] 24))
  have t0 : ((t.length : Int) != (t.length : Int)) = false := bne_self_eq_false _
  clear hz hb3 hA hB hs
  go_enter Tryz.func22, Tryz.ntmps22
  go_upto_region 1 with fail
  generalize (w.alloc (.cells #[.slice A t.length ac] 24)).alloc (.cells #[.slice B t.length bc] 24) = W2 at *
  have x0 := HB2.out.cell 0
  have y0 := HB3.out.cell 0
  have xl := HB2.out.lt
  have yl := HB3.out.lt
  go_wp2_with fail
  go_loopg [5] t.length (fun gg v wx => ∃ p : Nat, v = .int .i64 (p : Int) ∧ p ≤ t.length ∧ t.length ≤ p + gg ∧ Hid (Ex W2 wx))
  case atStart => exact ⟨0, rfl, Nat.zero_le _, by omega, Lib.hid (Ex.refl _)⟩
  case round =>
    obtain ⟨p, rfl, hp, hpg, HX2⟩ := hrel
    clear x0 y0 xl yl
    have x0 := (HB2.out.ex HX2.out).cell 0
    have y0 := (HB3.out.ex HX2.out).cell 0
    have xl := (HB2.out.ex HX2.out).lt
    have yl := (HB3.out.ex HX2.out).lt
    have HX3 := Lib.hid (HX.out.trans HX2.out)
    by_cases hpl : p < t.length
    · obtain ⟨n9, rfl⟩ : ∃ n9, gk = n9 + 1 := ⟨gk - 1, by omega⟩
      have m0 : (0 : Int) ≤ (p : Int) := by omega
      have m1 : (p : Int) < (t.length : Int) := by omega
      have hp1 : IntKind.i64.wrap ((p : Int) + 1) = (p : Int) + 1 := IntWalk.i64_in _ (by omega)
      obtain ⟨x, hx⟩ : ∃ x, t[p]? = some x := ⟨_, List.getElem?_eq_getElem hpl⟩
      obtain ⟨b1, o1, hA1, hbl1, V1, vc1, E1, ec1, g0, g1, g2, ⟨hV1, -, -⟩, hE1⟩ := HA.out _ HX3.out p x hx
      obtain ⟨b2, o2, hA2, hbl2, V2, vc2, E2, ec2, k0, k1, k2, ⟨hV2, -, -⟩, hE2⟩ := HB.out _ HX3.out p x hx
      subst hA1
      subst hA2
      obtain ⟨sm1, sm2, sm3, sm4, sm5⟩ := HSm.out.each x (List.mem_of_getElem? hx)
      have HV1 := Lib.hid hV1
      have HV2 := Lib.hid hV2
      have HE1 := Lib.hid hE1
      have HE2 := Lib.hid hE2
      have HS5 := Lib.hid sm5
      clear hV1 hV2 hE1 hE2 hx sm4 sm5
      obtain ⟨xn, xv, xe⟩ := x
      dsimp only at *
      go_upto_region 6 with fail
      go_cut [6, 7] from 17 to 93 (fun v6 v7 wx => ∃ g h : Nat, v6 = .pointer (some ⟨g, 0, none⟩) ∧ v7 = .pointer (some ⟨h, 0, none⟩) ∧ Hid (g ≠ h ∧ Blk wx g 35 [.string xn, .slice V1 xv.length vc1, .slice E1 xe.length ec1] ∧ Blk wx h 35 [.string xn, .slice V2 xv.length vc2, .slice E2 xe.length ec2] ∧ Ex wr wx))
      case first =>
        go_region
        all_goals
          try go_wp2_with fail
        all_goals
          go_meet
          case rel => first
            | exact ⟨_, _, rfl, rfl, Lib.hid ⟨by omega, (two_new wr 35 [.string xn, .slice V1 xv.length vc1, .slice E1 xe.length ec1] [.string xn, .slice V2 xv.length vc2, .slice E2 xe.length ec2]).1, (two_new wr 35 [.string xn, .slice V1 xv.length vc1, .slice E1 xe.length ec1] [.string xn, .slice V2 xv.length vc2, .slice E2 xe.length ec2]).2.1, (two_new wr 35 [.string xn, .slice V1 xv.length vc1, .slice E1 xe.length ec1] [.string xn, .slice V2 xv.length vc2, .slice E2 xe.length ec2]).2.2⟩⟩
            | exact ⟨_, _, rfl, rfl, Lib.hid ⟨by omega, (two_new wr 35 [.string xn, .slice V2 xv.length vc2, .slice E2 xe.length ec2] [.string xn, .slice V1 xv.length vc1, .slice E1 xe.length ec1]).2.1, (two_new wr 35 [.string xn, .slice V2 xv.length vc2, .slice E2 xe.length ec2] [.string xn, .slice V1 xv.length vc1, .slice E1 xe.length ec1]).1, (two_new wr 35 [.string xn, .slice V2 xv.length vc2, .slice E2 xe.length ec2] [.string xn, .slice V1 xv.length vc1, .slice E1 xe.length ec1]).2.2⟩⟩
      case rest =>
        obtain ⟨g, h, rfl, rfl, HC⟩ := hcut
        clear x0 y0 xl yl g0 g1 g2 k0 k1 k2 hbl1 hbl2
        have q0 := HC.out.2.1.cell 0
        have q1 := HC.out.2.1.cell 1
        have q2 := HC.out.2.1.cell 2
        have r0 := HC.out.2.2.1.cell 0
        have r1 := HC.out.2.2.1.cell 1
        have r2 := HC.out.2.2.1.cell 2
        have ql := HC.out.2.1.lt
        have rl := HC.out.2.2.1.lt
        have HXc := Lib.hid (HX3.out.trans HC.out.2.2.2)
        have HX2c := Lib.hid (HX2.out.trans HC.out.2.2.2)
        have t1 : (xn.toList != xn.toList) = false := bne_self_eq_false _
        have t2 : ((xv.length : Int) != (xv.length : Int)) = false := bne_self_eq_false _
        have t3 : ((xe.length : Int) != (xe.length : Int)) = false := bne_self_eq_false _
        go_wp2_with fail
        go_loopg [8] xv.length (fun gg v wx => ∃ i : Nat, v = .int .i64 (i : Int) ∧ i ≤ xv.length ∧ xv.length ≤ i + gg ∧ Hid (Ex wc wx))
        case atStart => exact ⟨0, rfl, Nat.zero_le _, by omega, Lib.hid (Ex.refl _)⟩
        case round =>
          obtain ⟨i, rfl, hi, hig, HXi⟩ := hrel
          clear q0 q1 q2 r0 r1 r2 ql rl
          have q1 := (HC.out.2.1.ex HXi.out).cell 1
          have r1 := (HC.out.2.2.1.ex HXi.out).cell 1
          have q2 := (HC.out.2.1.ex HXi.out).cell 2
          have r2 := (HC.out.2.2.1.ex HXi.out).cell 2
          have ql := (HC.out.2.1.ex HXi.out).lt
          have rl := (HC.out.2.2.1.ex HXi.out).lt
          by_cases hil : i < xv.length
          · obtain ⟨n8, rfl⟩ : ∃ n8, gk = n8 + 1 := ⟨gk - 1, by omega⟩
            have j0 : (0 : Int) ≤ (i : Int) := by omega
            have j1 : (i : Int) < (xv.length : Int) := by omega
            have hp2 : IntKind.i64.wrap ((i : Int) + 1) = (i : Int) + 1 := IntWalk.i64_in _ (by omega)
            obtain ⟨u, hu⟩ : ∃ u, xv[i]? = some u := ⟨_, List.getElem?_eq_getElem hil⟩
            obtain ⟨c1, d1, rfl, hc1, v0, v1⟩ := (HV1.out.ex (HC.out.2.2.2.trans HXi.out)).var hu
            obtain ⟨c2, d2, rfl, hc2, w0, w1⟩ := (HV2.out.ex (HC.out.2.2.2.trans HXi.out)).var hu
            obtain ⟨un, uv⟩ := u
            dsimp only at *
            clear hu
            go_upto_region 12 with fail
            refine wp_region_ext (by kernel_rfl) (by kernel_rfl) ?_
            repeat (go_big_quiet_step (fail))
            refine wpQuiet_end (fun z2 => ?_)
            go_wp2_with fail
            go_roundg n8
            case measure => omega
            case rel => exact ⟨i + 1, by go_num, by omega, by omega, Lib.hid (HXi.out.ext z2)⟩
          · obtain rfl : i = xv.length := by omega
            have j1 : decide ((xv.length : Int) < (xv.length : Int)) = false := decide_eq_false (by omega)
            have HCi := Lib.hid (HC.out.2.2.2.trans HXi.out)
            go_wp2_with fail
            go_loopg [9] xe.length (fun gg v wx => ∃ j : Nat, v = .int .i64 (j : Int) ∧ j ≤ xe.length ∧ xe.length ≤ j + gg ∧ Hid (Ex wr wx))
            case atStart => exact ⟨0, rfl, Nat.zero_le _, by omega, Lib.hid (Ex.refl _)⟩
            case round =>
              obtain ⟨j, rfl, hj, hjg, HXj⟩ := hrel
              clear q1 q2 r1 r2 ql rl
              have hxj := HXi.out.trans HXj.out
              have q2 := (HC.out.2.1.ex hxj).cell 2
              have r2 := (HC.out.2.2.1.ex hxj).cell 2
              have ql := (HC.out.2.1.ex hxj).lt
              have rl := (HC.out.2.2.1.ex hxj).lt
              have HCj := Lib.hid (HCi.out.trans HXj.out)
              have HXd := Lib.hid hxj
              clear hxj
              by_cases hjl : j < xe.length
              · obtain ⟨n7, rfl⟩ : ∃ n7, gk = n7 + 1 := ⟨gk - 1, by omega⟩
                have l0 : (0 : Int) ≤ (j : Int) := by omega
                have l1 : (j : Int) < (xe.length : Int) := by omega
                have hp3 : IntKind.i64.wrap ((j : Int) + 1) = (j : Int) + 1 := IntWalk.i64_in _ (by omega)
                obtain ⟨e, he⟩ : ∃ e, xe[j]? = some e := ⟨_, List.getElem?_eq_getElem hjl⟩
                obtain ⟨c1, d1, rfl, hc1, A1, a1, v0, v1, v2, v3, v4, hr1, -⟩ := (HE1.out.ex HCj.out) j e he
                obtain ⟨c2, d2, rfl, hc2, A2, a2, w0, w1, w2, w3, w4, hr2, -⟩ := (HE2.out.ex HCj.out) j e he
                have hse := HS5.out e (List.mem_of_getElem? he)
                have HSE := Lib.hid (fun w' (hx : Ex _ w') => sameEv_c e e A1 A2 a1 a2 w' (hr1.ex hx) (hr2.ex hx) hse hse)
                rw [sameE_iff.2 rfl] at HSE
                clear he hr1 hr2
                go_upto_region 17 with fail
                refine wp_region_ext (by kernel_rfl) (by kernel_rfl) ?_
                repeat (go_big_quiet_step ((go_at_call 19; exact quiet_ext (HSE.out _ ⟨_, rfl⟩))))
                refine wpQuiet_end (fun z2 => ?_)
                go_wp2_with fail
                go_roundg n7
                case measure => omega
                case rel => exact ⟨j + 1, by go_num, by omega, by omega, Lib.hid (HXj.out.ext z2)⟩
              · obtain rfl : j = xe.length := by omega
                have l1 : decide ((xe.length : Int) < (xe.length : Int)) = false := decide_eq_false (by omega)
                go_wp2_with fail
                go_roundg n9
                case measure => omega
                case rel => exact ⟨p + 1, by go_num, by omega, by omega, Lib.hid (HX2c.out.trans HXd.out)⟩
    · obtain rfl : p = t.length := by omega
      have m1 : decide ((t.length : Int) < (t.length : Int)) = false := decide_eq_false (by omega)
      go_wp2_with fail
      go_ret
      exact Ret.mk rfl HX3.out
end
end Go.Proofs.YtpmponafjhnegaaGreatDoor
