/-
  The reference's Known and Name, walked. The reference's Line, walked. The reference's Text, walked. The law Texts, walked.
  Conditions: as each theorem says.
-/
import Derived.Test.YtpmponafjhnegaaGreatDoorWc
import Derived.Test.YtpmponafjhnegaaGreatDoorXb
import Derived.Test.YtpmponafjhnegaaGreatDoorWq
import Derived.Test.YtpmponafjhnegaaGreatDoorWi
namespace Go.Proofs.YtpmponafjhnegaaGreatDoor
section
open Go.RowKit Nu
set_option maxRecDepth 100000 in
set_option maxHeartbeats 3200000 in
theorem known_c (t : List Pr) (A : Option Addr) (c : Nat) (p i : Int) (w : World) (hT : TcC w A t) (hs : TSm t) :
    Calls Tryz.prog 25 #[.agg #[.slice A t.length c], .agg #[.int .i64 p, .int .i64 i]] w (Ret w (.bool (knownB t p i))) := by
  have HT := Lib.hid hT
  have htl := hs.procs
  have HSm := Lib.hid hs
  obtain ⟨W1, hW1⟩ : ∃ W1, W1 = (w.alloc (.cells #[.slice A t.length c] 24)).alloc (.cells #[.int .i64 p, .int .i64 i] 40) := ⟨_, rfl⟩
  have hX1 : Ex w W1 := by rw [hW1]; exact ((Ex.refl w).alloc _).alloc _
  have hz1 : ∀ o : Obj, (w.alloc o).heap.size = w.heap.size + 1 := fun o => Array.size_push _
  have hB1 : Blk W1 w.heap.size 24 [.slice A t.length c] := by rw [hW1]; exact (Blk.new w _ _).alloc _
  have hB2 : Blk W1 (w.heap.size + 1) 40 [.int .i64 p, .int .i64 i] := by rw [hW1, ← hz1]; exact Blk.new _ _ _
  have HW1 := Lib.hid hW1
  have HX2 := Lib.hid hX1
  have y0 := hB1.cell 0
  have y1 := hB2.cell 0
  have y2 := hB2.cell 1
  have yl := hB1.lt
  have yk := hB2.lt
  have HR4 : Hid (knownB t p i = false → Value.bool (knownB t p i) = .bool false) := fun h => by rw [h]
  have HR3 : Hid (knownB t p i = true → Value.bool (knownB t p i) = .bool true) := fun h => by rw [h]
  generalize hkb : Value.bool (knownB t p i) = R at *
  clear hT hs hW1 hX1 hB1 hB2 hz1 hkb
  by_cases h1 : p < 0
  · have hR := HR4.out (by unfold knownB; rw [decide_eq_false (show ¬ 0 ≤ p by omega)]; rfl)
    subst hR
    have d1 : decide (0 ≤ p) = false := decide_eq_false (by omega)
    go_enter Tryz.func25, Tryz.ntmps25
    go_upto_region 1 with fail
    rw [← HW1.out]
    refine wp_region_ext (by kernel_rfl) (by kernel_rfl) ?_
    repeat (go_big_quiet_step (fail))
    refine wpQuiet_end (fun z2 => ?_)
    go_wp2_with fail
    go_ret
    exact Ret.mk rfl (HX2.out.ext z2)
  by_cases h2 : (t.length : Int) ≤ p
  · have hR := HR4.out (by unfold knownB; rw [decide_eq_false (show ¬ p < (t.length : Int) by omega)]; simp)
    subst hR
    have d1 : decide (0 ≤ p) = true := decide_eq_true (by omega)
    have d2 : decide (p < (t.length : Int)) = false := decide_eq_false (by omega)
    go_enter Tryz.func25, Tryz.ntmps25
    go_upto_region 1 with fail
    rw [← HW1.out]
    refine wp_region_ext (by kernel_rfl) (by kernel_rfl) ?_
    repeat (go_big_quiet_step (fail))
    refine wpQuiet_end (fun z2 => ?_)
    go_wp2_with fail
    go_ret
    exact Ret.mk rfl (HX2.out.ext z2)
  by_cases h3 : i < 1
  · have hR := HR4.out (by unfold knownB; rw [decide_eq_false (show ¬ 1 ≤ i by omega)]; simp)
    subst hR
    have d1 : decide (0 ≤ p) = true := decide_eq_true (by omega)
    have d2 : decide (p < (t.length : Int)) = true := decide_eq_true (by omega)
    have d3 : decide (1 ≤ i) = false := decide_eq_false (by omega)
    go_enter Tryz.func25, Tryz.ntmps25
    go_upto_region 1 with fail
    rw [← HW1.out]
    refine wp_region_ext (by kernel_rfl) (by kernel_rfl) ?_
    repeat (go_big_quiet_step (fail))
    refine wpQuiet_end (fun z2 => ?_)
    go_wp2_with fail
    go_ret
    exact Ret.mk rfl (HX2.out.ext z2)
  obtain ⟨q, rfl⟩ : ∃ q : Nat, p = (q : Int) := ⟨p.toNat, by omega⟩
  obtain ⟨x, hx⟩ : ∃ x, t[q]? = some x := ⟨_, List.getElem?_eq_getElem (show q < t.length by omega)⟩
  have hen : evN t (q : Int).toNat = x.evs.length := by rw [Int.toNat_natCast]; unfold evN; rw [hx]
  obtain ⟨b, o, hA, hbl, V, vc, E, ec, g0, g1, g2, -, -⟩ := HT.out.ex HX2.out q x hx
  subst hA
  have m0 : (0 : Int) ≤ (q : Int) := by omega
  have m1 : (q : Int) < (t.length : Int) := by omega
  have d3 : decide (1 ≤ i) = true := decide_eq_true (by omega)
  by_cases h4 : (x.evs.length : Int) < i
  · have d4 : decide (i ≤ (x.evs.length : Int)) = false := decide_eq_false (by omega)
    have hR := HR4.out (by unfold knownB; rw [hen, decide_eq_false (show ¬ i ≤ (x.evs.length : Int) by omega)]; simp)
    subst hR
    clear hx hen
    go_enter Tryz.func25, Tryz.ntmps25
    go_upto_region 1 with fail
    rw [← HW1.out]
    refine wp_region_ext (by kernel_rfl) (by kernel_rfl) ?_
    repeat (go_big_quiet_step (fail))
    refine wpQuiet_end (fun z2 => ?_)
    go_wp2_with fail
    go_ret
    exact Ret.mk rfl (HX2.out.ext z2)
  · have d4 : decide (i ≤ (x.evs.length : Int)) = true := decide_eq_true (by omega)
    have hR := HR3.out (by unfold knownB; rw [hen, decide_eq_true (show i ≤ (x.evs.length : Int) by omega), decide_eq_true m0, decide_eq_true m1, decide_eq_true (show 1 ≤ i by omega)]; rfl)
    subst hR
    clear hx hen
    go_enter Tryz.func25, Tryz.ntmps25
    go_upto_region 1 with fail
    rw [← HW1.out]
    refine wp_region_ext (by kernel_rfl) (by kernel_rfl) ?_
    repeat (go_big_quiet_step (fail))
    refine wpQuiet_end (fun z2 => ?_)
    go_wp2_with fail
    go_ret
    exact Ret.mk rfl (HX2.out.ext z2)
set_option maxRecDepth 100000 in
set_option maxHeartbeats 3200000 in
theorem rname_c (t : List Pr) (A : Option Addr) (c : Nat) (q : Nat) (x : Pr) (i : Int) (w : World) (hT : TcC w A t) (hs : TSm t) (hx : t[q]? = some x) (h1 : 1 ≤ i) (h2 : i ≤ (x.evs.length : Int)) :
    Calls Tryz.prog 27 #[.agg #[.slice A t.length c], .agg #[.int .i64 (q : Int), .int .i64 i]] w (Ret w (.string (bs (nameS t (q : Int) i)))) := by
  have htl := hs.procs
  have sm := hs.each x (List.mem_of_getElem? hx)
  have hln := Lib.itoa_length_le i (by omega) (by omega)
  have hnm : nmOf t (q : Int) = x.name.data.toList := by unfold nmOf; rw [Int.toNat_natCast, hx]; rfl
  have hS : bs (nameS t (q : Int) i) = x.name ++ (⟨#[46]⟩ : ByteArray) ++ bs (Lib.itoa i) := by
    have h1 : (x.name ++ (⟨#[46]⟩ : ByteArray) ++ bs (Lib.itoa i)).data.toList = nameS t (q : Int) i := by
      unfold nameS
      rw [hnm]
      simp
    rw [← h1]
  rw [hS]
  have HIt := Lib.hid (fun w' => rdecimal_c i w' (by omega) (by omega))
  have hbi : (bs (Lib.itoa i)).size = (Lib.itoa i).length := rfl
  have z1 : ¬ 9223372036854775807 < x.name.size + 1 := by omega
  have z2 : ¬ 9223372036854775807 < x.name.size + 1 + (Lib.itoa i).length := by omega
  obtain ⟨W1, hW1⟩ : ∃ W1, W1 = (w.alloc (.cells #[.slice A t.length c] 24)).alloc (.cells #[.int .i64 (q : Int), .int .i64 i] 40) := ⟨_, rfl⟩
  have hX1 : Ex w W1 := by rw [hW1]; exact ((Ex.refl w).alloc _).alloc _
  have hz1 : ∀ o : Obj, (w.alloc o).heap.size = w.heap.size + 1 := fun o => Array.size_push _
  have hB1 : Blk W1 w.heap.size 24 [.slice A t.length c] := by rw [hW1]; exact (Blk.new w _ _).alloc _
  have hB2 : Blk W1 (w.heap.size + 1) 40 [.int .i64 (q : Int), .int .i64 i] := by rw [hW1, ← hz1]; exact Blk.new _ _ _
  obtain ⟨b, o, hA, hbl, V, vc, E, ec, g0, -, -, -, -⟩ := hT.ex hX1 q x hx
  subst hA
  have m0 : (0 : Int) ≤ (q : Int) := by omega
  have m1 : (q : Int) < (t.length : Int) := by have := (List.getElem?_eq_some_iff.1 hx).1; omega
  have y0 := hB1.cell 0
  have y1 := hB2.cell 0
  have y2 := hB2.cell 1
  have yl := hB1.lt
  have yk := hB2.lt
  have HW1 := Lib.hid hW1
  have HX1 := Lib.hid hX1
  clear hT hs hx hnm hS hW1 hX1 hz1 hB1 hB2
  go_enter Tryz.func27, Tryz.ntmps27
  go_upto_region 1 with fail
  rw [← HW1.out]
  refine wp_region_ext (by kernel_rfl) (by kernel_rfl) ?_
  repeat (go_big_quiet_step ((go_at_call 66; exact quiet_ext (HIt.out _))))
  refine wpQuiet_end (fun z2 => ?_)
  go_wp2_with fail
  go_ret
  exact Ret.mk rfl (HX1.out.ext z2)
end
section
open Go.RowKit Nu
theorem bs_app (a : List UInt8) (n : ByteArray) : bs a ++ n = bs (a ++ n.data.toList) := by
  apply ByteArray.ext
  simp
set_option maxRecDepth 100000 in
set_option maxHeartbeats 6400000 in
theorem rline_c (t : List Pr) (A : Option Addr) (c p i : Nat) (x : Pr) (e : Ev) (w : World) (hT : TcC w A t) (hs : TSm t) (hx : t[p]? = some x) (he : x.evs[i]? = some e) (hf : (faultO t).2 = 0) :
    Calls Tryz.prog 26 #[.agg #[.slice A t.length c], .agg #[.int .i64 (p : Int), .int .i64 ((i : Int) + 1)]] w (Ret w (.string (bs (wEv t x.vars e)))) := by
  obtain ⟨hw, -, hpe⟩ := good_ev hf hx he
  have htl := hs.procs
  obtain ⟨sm1, sm2, sm3, sm4, sm5⟩ := hs.each x (List.mem_of_getElem? hx)
  have sm6 := sm5 e (List.mem_of_getElem? he)
  have hpl := (List.getElem?_eq_some_iff.1 hx).1
  have hil := (List.getElem?_eq_some_iff.1 he).1
  have hen : i < evN t p := by unfold evN; rw [hx]; exact hil
  have hev : evAt t p i = some e := by unfold evAt; rw [hx]; exact he
  have HAt : Hid (∀ w', Ex w w' → Calls Tryz.prog 67 #[.agg #[.slice A t.length c], .agg #[.int .i64 (p : Int), .int .i64 ((i : Int) + 1)]] w' (fun e9 w2 => ∃ B bc, e9 = .returned (evV e B bc) ∧ Row w2 B (asgV e.asg) ∧ Ex w' w2)) := fun w' h => (rAt_c t A c p i w' (hT.ex h) hs hen).mono (by
    rintro e9 w2 ⟨ev, B, bc, h1, h2, h3, h4⟩
    rw [show (p, i + 1).1 = p from rfl, show (p, i + 1).2 - 1 = i from by simp, hev] at h1
    cases h1
    exact ⟨B, bc, h2, h3, h4⟩)
  obtain ⟨W1, hW1⟩ : ∃ W1, W1 = (w.alloc (.cells #[.slice A t.length c] 24)).alloc (.cells #[.int .i64 (p : Int), .int .i64 ((i : Int) + 1)] 40) := ⟨_, rfl⟩
  have hX1 : Ex w W1 := by rw [hW1]; exact ((Ex.refl w).alloc _).alloc _
  have hz1 : ∀ o : Obj, (w.alloc o).heap.size = w.heap.size + 1 := fun o => Array.size_push _
  have hB1 : Blk W1 w.heap.size 24 [.slice A t.length c] := by rw [hW1]; exact (Blk.new w _ _).alloc _
  have hB2 : Blk W1 (w.heap.size + 1) 40 [.int .i64 (p : Int), .int .i64 ((i : Int) + 1)] := by rw [hW1, ← hz1]; exact Blk.new _ _ _
  obtain ⟨ba, oa, rfl, hba, V, vc, E, ec, g0, g1, g2, ⟨hV, -, -⟩, -⟩ := hT p x hx
  have HT := Lib.hid hT
  have HWk := Lib.hid hw
  have HPe := Lib.hid hpe
  have HSm := Lib.hid hs
  have HSv : Hid (∀ v, v ∈ x.vars → v.1.size ≤ 100000) := Lib.hid sm4
  have m0 : (0 : Int) ≤ (p : Int) := by omega
  have m1 : (p : Int) < (t.length : Int) := by omega
  have HRV : Hid (∀ wx, Ex w wx → Row wx V (varV x.vars)) := fun wx h => hV.ex h
  have HG1 : Hid (∀ wx, Ex w wx → wx.cell? ⟨ba, oa + p * 3 + 1, none⟩ = some (.slice V x.vars.length vc) ∧ ba < wx.heap.size) := fun wx h => ⟨(h.below.cell hba).trans g1, Nat.lt_of_lt_of_le hba h.below.size⟩
  have HW1 := Lib.hid hW1
  have HX1 := Lib.hid hX1
  have HB1 := Lib.hid hB1
  have HB2 := Lib.hid hB2
  have x0 := hB1.cell 0
  have x1 := hB2.cell 0
  have x2 := hB2.cell 1
  have xl := hB1.lt
  have xk := hB2.lt
  have HDc : Hid (∀ v wx, -1125899906842624 ≤ v → v ≤ 1125899906842624 → Calls Tryz.prog 66 #[.int .i64 v] wx (Ret wx (.string (bs (Lib.itoa v))))) := fun v wx h0 h1 => rdecimal_c v wx h0 h1
  have HLe : Hid (∀ v : Int, -1125899906842624 ≤ v → v ≤ 1125899906842624 → (Lib.itoa v).length ≤ 21) := fun v h0 h1 => Lib.itoa_length_le v (by omega) (by omega)
  clear hT hs hx he hf hw hpe hW1 hX1 hz1 hB1 hB2 hV hev hen sm4 sm5 g0 g1 g2 hba
  go_enter Tryz.func26, Tryz.ntmps26
  go_upto_region 1 with fail
  rw [← HW1.out]
  go_wp2_with fail
  refine (HAt.out _ HX1.out).mono ?_
  rintro e9 w2 ⟨B, bc, rfl, hrow, hx2⟩
  unfold evV
  obtain ⟨W3, hW3⟩ : ∃ W3, W3 = w2.alloc (.cells #[.int .i64 e.kind, .int .i64 e.peer, .int .i64 e.msg, .int .i64 e.time, .slice B e.asg.length bc] 38) := ⟨_, rfl⟩
  have hX3 : Ex w2 W3 := by rw [hW3]; exact (Ex.refl w2).alloc _
  have hb3 : Blk W3 w2.heap.size 38 [.int .i64 e.kind, .int .i64 e.peer, .int .i64 e.msg, .int .i64 e.time, .slice B e.asg.length bc] := by rw [hW3]; exact Blk.new w2 _ _
  have HW3 := Lib.hid hW3
  have HX2 := Lib.hid (HX1.out.trans hx2)
  have hXX := HX1.out.trans (hx2.trans hX3)
  have HXX := Lib.hid hXX
  have HE3 := Lib.hid hb3
  have HT3 := Lib.hid ((HB1.out.ex hx2).ex hX3)
  have HI3 := Lib.hid ((HB2.out.ex hx2).ex hX3)
  have HRA : Hid (∀ wx, Ex W3 wx → Row wx B (asgV e.asg)) := fun wx h => hrow.ex (hX3.trans h)
  clear x0 x1 x2 xl xk hrow hx2 hW3 hX3 hb3 hXX HB1 HB2 HW1
  go_upto_region 2 with fail
  rw [← HW3.out]
  have x0 := HE3.out.cell 0
  have xl := HE3.out.lt
  clear HW3
  go_upto_if 13 with fail
  go_cut [6] from 14 to 30 (fun v wx => v = .string (bs (wHead t e)) ∧ Hid (Ex W3 wx))
  case first =>
    rcases HWk.out.kind with hk | hk | hk
    · have c1 : (e.kind == 1) = true := by rw [hk]; rfl
      have c2 : (e.kind != 1) = false := by rw [hk]; rfl
      have hh : bs (wHead t e) = ⟨#[108, 111, 99, 97, 108]⟩ := by unfold wHead; rw [if_pos hk]; rfl
      clear hk
      go_wp2_with fail
      go_meet
      case rel => exact ⟨by rw [hh], Lib.hid (Ex.refl _)⟩
    · have c1 : (e.kind == 1) = false := by rw [hk]; rfl
      have c2 : (e.kind != 1) = true := by rw [hk]; rfl
      have c3 : (e.kind == 3) = false := by rw [hk]; rfl
      obtain ⟨h0, yq, hy⟩ := HPe.out (by rw [hk]; decide)
      obtain ⟨q, hq⟩ : ∃ q : Nat, e.peer = (q : Int) := ⟨e.peer.toNat, by omega⟩
      rw [hq, Int.toNat_natCast] at hy
      have hql := (List.getElem?_eq_some_iff.1 hy).1
      have hyn := (HSm.out.each yq (List.mem_of_getElem? hy)).1
      obtain ⟨b', o', hbo, hb', -, -, -, -, f0, -⟩ := HT.out q yq hy
      cases hbo
      have v3 := (HXX.out.below.cell hb').trans f0
      have v4 := Nat.lt_of_lt_of_le hb' HXX.out.below.size
      have hh : bs (wHead t e) = ((⟨#[115, 101, 110, 100, 32]⟩ : ByteArray) ++ yq.name) ++ ⟨#[32]⟩ ++ bs (Lib.itoa e.msg) := by
        unfold wHead nmOf
        rw [if_neg (by rw [hk]; decide), if_pos hk, hq, Int.toNat_natCast, hy]
        apply ByteArray.ext
        simp [wSend]
      have hm := HWk.out.msg
      have HD := Lib.hid (fun wx => HDc.out e.msg wx hm.1 hm.2)
      have hil := HLe.out e.msg hm.1 hm.2
      have hib : (bs (Lib.itoa e.msg)).size = (Lib.itoa e.msg).length := rfl
      have n0 : (0 : Int) ≤ (q : Int) := by omega
      have n1 : (q : Int) < (t.length : Int) := by omega
      have he5 := HE3.out
      rw [hq] at he5
      have v0 := HT3.out.cell 0
      have v1 := he5.cell 1
      have v2 := he5.cell 2
      have vl := HT3.out.lt
      have z1 : ¬ 9223372036854775807 < 5 + yq.name.size := by omega
      have z2 : ¬ 9223372036854775807 < 5 + yq.name.size + 1 := by omega
      have z3 : ¬ 9223372036854775807 < 5 + yq.name.size + 1 + (Lib.itoa e.msg).length := by omega
      clear hk hy hm h0 hq f0 he5 hb'
      go_upto_region 7 with fail
      refine wp_region_ext (by kernel_rfl) (by kernel_rfl) ?_
      repeat (go_big_quiet_step ((go_at_call 66; exact quiet_ext (HD.out _))))
      refine wpQuiet_end (fun z2 => ?_)
      try go_wp2_with fail
      go_meet
      case rel => exact ⟨by rw [hh], Lib.hid ((Ex.refl _).ext z2)⟩
    · have c1 : (e.kind == 1) = false := by rw [hk]; rfl
      have c2 : (e.kind != 1) = true := by rw [hk]; rfl
      have c3 : (e.kind == 3) = true := by rw [hk]; rfl
      obtain ⟨h0, yq, hy⟩ := HPe.out (by rw [hk]; decide)
      obtain ⟨q, hq⟩ : ∃ q : Nat, e.peer = (q : Int) := ⟨e.peer.toNat, by omega⟩
      rw [hq, Int.toNat_natCast] at hy
      have hql := (List.getElem?_eq_some_iff.1 hy).1
      have hyn := (HSm.out.each yq (List.mem_of_getElem? hy)).1
      obtain ⟨b', o', hbo, hb', -, -, -, -, f0, -⟩ := HT.out q yq hy
      cases hbo
      have v3 := (HXX.out.below.cell hb').trans f0
      have v4 := Nat.lt_of_lt_of_le hb' HXX.out.below.size
      have hh : bs (wHead t e) = ((⟨#[114, 101, 99, 101, 105, 118, 101, 32]⟩ : ByteArray) ++ yq.name) ++ ⟨#[32]⟩ ++ bs (Lib.itoa e.msg) := by
        unfold wHead nmOf
        rw [if_neg (by rw [hk]; decide), if_neg (by rw [hk]; decide), hq, Int.toNat_natCast, hy]
        apply ByteArray.ext
        simp [wReceive]
      have hm := HWk.out.msg
      have HD := Lib.hid (fun wx => HDc.out e.msg wx hm.1 hm.2)
      have hil := HLe.out e.msg hm.1 hm.2
      have hib : (bs (Lib.itoa e.msg)).size = (Lib.itoa e.msg).length := rfl
      have n0 : (0 : Int) ≤ (q : Int) := by omega
      have n1 : (q : Int) < (t.length : Int) := by omega
      have he5 := HE3.out
      rw [hq] at he5
      have v0 := HT3.out.cell 0
      have v1 := he5.cell 1
      have v2 := he5.cell 2
      have vl := HT3.out.lt
      have z1 : ¬ 9223372036854775807 < 8 + yq.name.size := by omega
      have z2 : ¬ 9223372036854775807 < 8 + yq.name.size + 1 := by omega
      have z3 : ¬ 9223372036854775807 < 8 + yq.name.size + 1 + (Lib.itoa e.msg).length := by omega
      clear hk hy hm h0 hq f0 he5 hb'
      go_upto_region 7 with fail
      refine wp_region_ext (by kernel_rfl) (by kernel_rfl) ?_
      repeat (go_big_quiet_step ((go_at_call 66; exact quiet_ext (HD.out _))))
      refine wpQuiet_end (fun z2 => ?_)
      try go_wp2_with fail
      go_meet
      case rel => exact ⟨by rw [hh], Lib.hid ((Ex.refl _).ext z2)⟩
  case rest =>
    obtain ⟨rfl, HC⟩ := hcut
    clear x0 xl
    have htm := HWk.out.time
    have hil2 := HLe.out e.time htm.1 htm.2
    have hib : (bs (Lib.itoa e.time)).size = (Lib.itoa e.time).length := rfl
    have hhl := wHead_len HWk.out
    have hhs : (bs (wHead t e)).size = (wHead t e).length := rfl
    have z1 : ¬ 9223372036854775807 < (wHead t e).length + 2 := by omega
    have z2 : ¬ 9223372036854775807 < (wHead t e).length + 2 + (Lib.itoa e.time).length := by omega
    have HD := Lib.hid (fun wx => HDc.out e.time wx htm.1 htm.2)
    have hpre : bs (wHead t e) ++ (⟨#[32, 64]⟩ : ByteArray) ++ bs (Lib.itoa e.time) = bs (wHead t e ++ 32 :: 64 :: Lib.itoa e.time) := by
      apply ByteArray.ext
      simp
    have hpl : (wHead t e ++ 32 :: 64 :: Lib.itoa e.time).length ≤ 200 := by simp only [List.length_append, List.length_cons]; omega
    have hev : wEv t x.vars e = (wHead t e ++ 32 :: 64 :: Lib.itoa e.time) ++ wAsgs x.vars e.asg := by unfold wEv; simp
    have HPre := Lib.hid hpre
    have HEv := Lib.hid hev
    have HAl : Hid (∀ k, (wAsgs x.vars (e.asg.take k)).length ≤ 39 * k) := fun k => by
      have h1 := wAsgs_len (vars := x.vars) (e.asg.take k) fun a ha => by
        obtain ⟨q1, q2, q3, q4, q5⟩ := HWk.out.asg a (List.mem_of_mem_take ha)
        exact ⟨q1, q4, q5⟩
      have h2 : (e.asg.take k).length ≤ k := by rw [List.length_take]; omega
      exact Nat.le_trans h1 (by omega)
    have HE3x : Hid (∀ wx, Ex W3 wx → Blk wx w2.heap.size 38 [.int .i64 e.kind, .int .i64 e.peer, .int .i64 e.msg, .int .i64 e.time, .slice B e.asg.length bc]) := fun wx h => HE3.out.ex h
    have HT3x : Hid (∀ wx, Ex W3 wx → Blk wx w.heap.size 24 [.slice (some ⟨ba, oa, none⟩) t.length c]) := fun wx h => HT3.out.ex h
    have HI3x : Hid (∀ wx, Ex W3 wx → Blk wx (w.heap.size + 1) 40 [.int .i64 (p : Int), .int .i64 ((i : Int) + 1)]) := fun wx h => HI3.out.ex h
    have x3 := (HE3x.out wc HC.out).cell 3
    have xl := (HE3x.out wc HC.out).lt
    clear htm hpre hev
    go_wp2_with fail
    refine (HD.out _).mono ?_
    rintro e9 w6 ⟨rfl, g1⟩
    have HX6 := Lib.hid (HC.out.trans g1)
    have x4 := (HE3x.out w6 HX6.out).cell 4
    clear g1 x3 xl HC
    have xl := (HE3x.out w6 HX6.out).lt
    go_upto_region 9 with fail
    rw [HPre.out]
    clear HPre z1 z2 hhl hhs hil2 hib HD
    generalize wHead t e ++ 32 :: 64 :: Lib.itoa e.time = PRE at *
    go_wp2_with fail
    go_loopg [6, 7] e.asg.length (fun gg S v wx => ∃ k : Nat, S = .string (bs (PRE ++ wAsgs x.vars (e.asg.take k))) ∧ v = .int .i64 (k : Int) ∧ k ≤ e.asg.length ∧ e.asg.length ≤ k + gg ∧ Hid (Ex W3 wx))
    case atStart => exact ⟨0, by simp [wAsgs], rfl, Nat.zero_le _, by omega, HX6⟩
    case round =>
      obtain ⟨k, rfl, rfl, hk, hkg, HJ⟩ := hrel
      clear x4 xl
      by_cases hkl : k < e.asg.length
      · obtain ⟨n8, rfl⟩ : ∃ n8, gk = n8 + 1 := ⟨gk - 1, by omega⟩
        obtain ⟨a, ha⟩ : ∃ a, e.asg[k]? = some a := ⟨_, List.getElem?_eq_getElem hkl⟩
        obtain ⟨-, hvi, ha0, ha1, ha2⟩ := HWk.out.asg a (List.mem_of_getElem? ha)
        obtain ⟨v, hv, -⟩ := vIdx_some hvi
        have hsn : wAsgs x.vars (e.asg.take (k + 1)) = wAsgs x.vars (e.asg.take k) ++ wAsg v.1 a.2 := by
          have h := wAsgs_snoc (vars := x.vars) ha
          rw [hv] at h
          exact h
        obtain ⟨q, hq⟩ : ∃ q : Nat, a.1 = (q : Int) := ⟨a.1.toNat, by omega⟩
        rw [hq, Int.toNat_natCast] at hv
        have hql := (List.getElem?_eq_some_iff.1 hv).1
        have hvs := HSv.out v (List.mem_of_getElem? hv)
        obtain ⟨b1, o1, rfl, hb1, p0, p1⟩ := (HRA.out wr HJ.out).asg ha
        obtain ⟨b2, o2, rfl, hb2, r0, r1⟩ := (HRV.out wr (HXX.out.trans HJ.out)).var hv
        rw [hq] at p0
        obtain ⟨g1, hba⟩ := HG1.out wr (HXX.out.trans HJ.out)
        have k0 : (0 : Int) ≤ (k : Int) := by omega
        have k1 : (k : Int) < (e.asg.length : Int) := by omega
        have i0 : (0 : Int) ≤ (q : Int) := by omega
        have i1 : (q : Int) < (x.vars.length : Int) := by omega
        have x0 := (HT3x.out wr HJ.out).cell 0
        have x1 := (HI3x.out wr HJ.out).cell 0
        have x4 := (HE3x.out wr HJ.out).cell 4
        have xl := (HT3x.out wr HJ.out).lt
        have xk := (HI3x.out wr HJ.out).lt
        have xj := (HE3x.out wr HJ.out).lt
        have hal := HAl.out k
        have hil3 := HLe.out a.2 ha1 ha2
        have HD := Lib.hid (fun wx => HDc.out a.2 wx ha1 ha2)
        have hib : (bs (Lib.itoa a.2)).size = (Lib.itoa a.2).length := rfl
        obtain ⟨L, hL⟩ : ∃ L, L = PRE ++ wAsgs x.vars (e.asg.take k) := ⟨_, rfl⟩
        have hLl : L.length ≤ 40000000 := by rw [hL, List.length_append]; omega
        have hLb : (bs L).size = L.length := rfl
        have hend : bs L ++ (⟨#[32]⟩ : ByteArray) ++ v.1 ++ (⟨#[61]⟩ : ByteArray) ++ bs (Lib.itoa a.2) = bs (PRE ++ wAsgs x.vars (e.asg.take (k + 1))) := by
          rw [hsn, ← List.append_assoc, ← hL]
          unfold wAsg
          apply ByteArray.ext
          simp
        have HEnd := Lib.hid hend
        rw [← hL]
        clear ha hvi ha0 ha1 ha2 hv hsn hq hend hL
        obtain ⟨a1, a2⟩ := a
        obtain ⟨vn, vv⟩ := v
        dsimp only at *
        have z1 : ¬ 9223372036854775807 < L.length + 1 := by omega
        have z2 : ¬ 9223372036854775807 < L.length + 1 + vn.size := by omega
        have z3 : ¬ 9223372036854775807 < L.length + 1 + vn.size + 1 := by omega
        have z4 : ¬ 9223372036854775807 < L.length + 1 + vn.size + 1 + (Lib.itoa a2).length := by omega
        go_upto_region 12 with fail
        refine wp_region_ext (by kernel_rfl) (by kernel_rfl) ?_
        repeat (go_big_quiet_step ((go_at_call 66; exact quiet_ext (HD.out _))))
        refine wpQuiet_end (fun z2 => ?_)
        try go_wp2_with fail
        go_roundg n8
        case measure => omega
        case rel => exact ⟨k + 1, by rw [HEnd.out], by go_num, by omega, by omega, Lib.hid (HJ.out.ext z2)⟩
      · obtain rfl : k = e.asg.length := by omega
        have m1 : decide ((e.asg.length : Int) < (e.asg.length : Int)) = false := decide_eq_false (by omega)
        rw [List.take_length]
        have x4 := (HE3x.out wr HJ.out).cell 4
        have xl := (HE3x.out wr HJ.out).lt
        go_wp2_with fail
        go_ret
        exact Ret.mk (by rw [HEv.out]; rfl) (HXX.out.trans HJ.out)
end
section
open Go.RowKit Nu
set_option maxRecDepth 100000 in
set_option maxHeartbeats 12800000 in
theorem rtext_c (t : List Pr) (A : Option Addr) (c : Nat) (w : World) (hT : TcC w A t) (hs : TSm t) (hf : (faultO t).2 = 0) :
    Calls Tryz.prog 24 #[.agg #[.slice A t.length c]] w (Ret w (.string (bs (wTr t)))) := by
  have htl := hs.procs
  have HT := Lib.hid hT
  have HSm := Lib.hid hs
  have HLn : Hid (∀ (p i : Nat) (x : Pr) (e : Ev) (wx : World), t[p]? = some x → x.evs[i]? = some e → Ex w wx → Calls Tryz.prog 26 #[.agg #[.slice A t.length c], .agg #[.int .i64 (p : Int), .int .i64 ((i : Int) + 1)]] wx (Ret wx (.string (bs (wEv t x.vars e))))) := fun p i x e wx hx he hl => rline_c t A c p i x e wx (hT.ex hl) hs hx he hf
  have HLT : Hid (∀ p, ((t.take p).flatMap (wF t)).length ≤ 800000000000) := fun p => wTr_len hf hs p
  have HPS : Hid (∀ x ∈ t, PrS t x) := prS_all hf hs
  obtain ⟨W1, hW1⟩ : ∃ W1, W1 = w.alloc (.cells #[.slice A t.length c] 24) := ⟨_, rfl⟩
  have hX1 : Ex w W1 := by rw [hW1]; exact (Ex.refl w).alloc _
  have hB1 : Blk W1 w.heap.size 24 [.slice A t.length c] := by rw [hW1]; exact Blk.new w _ _
  have HBT : Hid (∀ wx, Ex W1 wx → Blk wx w.heap.size 24 [.slice A t.length c]) := fun wx h => hB1.ex h
  have HXo : Hid (∀ wx, Ex W1 wx → Ex w wx) := fun wx h => hX1.trans h
  have HDc : Hid (∀ v wx, -1125899906842624 ≤ v → v ≤ 1125899906842624 → Calls Tryz.prog 66 #[.int .i64 v] wx (Ret wx (.string (bs (Lib.itoa v))))) := fun v wx h0 h1 => rdecimal_c v wx h0 h1
  have HLe : Hid (∀ v : Int, -1125899906842624 ≤ v → v ≤ 1125899906842624 → (Lib.itoa v).length ≤ 21) := fun v h0 h1 => Lib.itoa_length_le v (by omega) (by omega)
  have HEnd : Hid (wTr t = (t.take t.length).flatMap (wF t)) := by rw [List.take_length]; exact wTr_F t
  have HW1 := Lib.hid hW1
  have x0 := hB1.cell 0
  have xl := hB1.lt
  clear hT hs hf hW1 hX1 hB1
  go_enter Tryz.func24, Tryz.ntmps24
  go_upto_region 1 with fail
  rw [← HW1.out]
  clear HW1
  go_wp2_with fail
  go_loopg [3, 4] t.length (fun gg S v wx => ∃ p : Nat, S = .string (bs ((t.take p).flatMap (wF t))) ∧ v = .int .i64 (p : Int) ∧ p ≤ t.length ∧ t.length ≤ p + gg ∧ Hid (Ex W1 wx))
  case atStart => exact ⟨0, by simp, rfl, Nat.zero_le _, by omega, Lib.hid (Ex.refl _)⟩
  case round =>
    obtain ⟨p, rfl, rfl, hp, hpg, HH⟩ := hrel
    clear x0 xl
    by_cases hpl : p < t.length
    · obtain ⟨n9, rfl⟩ : ∃ n9, gk = n9 + 1 := ⟨gk - 1, by omega⟩
      obtain ⟨x, hx⟩ : ∃ x, t[p]? = some x := ⟨_, List.getElem?_eq_getElem hpl⟩
      obtain ⟨ba, oa, rfl, hba, V, vc, E, ec, g0, g1, g2, ⟨hV, -, -⟩, -⟩ := HT.out p x hx
      have hps := HPS.out x (List.mem_of_getElem? hx)
      have hsn := wF_snoc (t := t) hx
      have hlt := HLT.out p
      obtain ⟨sm1, sm2, sm3, -, -⟩ := HSm.out.each x (List.mem_of_getElem? hx)
      have HPs := Lib.hid hps
      have HSn := Lib.hid hsn
      have HXx := Lib.hid hx
      have HRV : Hid (∀ wx, Ex W1 wx → Row wx V (varV x.vars)) := fun wx h => hV.ex (HXo.out wx h)
      have HG : Hid (∀ wx, Ex W1 wx → wx.cell? ⟨ba, oa + p * 3, none⟩ = some (.string x.name) ∧ wx.cell? ⟨ba, oa + p * 3 + 1, none⟩ = some (.slice V x.vars.length vc) ∧ wx.cell? ⟨ba, oa + p * 3 + 2, none⟩ = some (.slice E x.evs.length ec) ∧ ba < wx.heap.size) := fun wx h => ⟨((HXo.out wx h).below.cell hba).trans g0, ((HXo.out wx h).below.cell hba).trans g1, ((HXo.out wx h).below.cell hba).trans g2, Nat.lt_of_lt_of_le hba (HXo.out wx h).below.size⟩
      have m0 : (0 : Int) ≤ (p : Int) := by omega
      have m1 : (p : Int) < (t.length : Int) := by omega
      have x0 := (HBT.out wr HH.out).cell 0
      have xl := (HBT.out wr HH.out).lt
      obtain ⟨y0, y1, y2, yb⟩ := HG.out wr HH.out
      obtain ⟨L, hL⟩ : ∃ L, L = (t.take p).flatMap (wF t) := ⟨_, rfl⟩
      rw [← hL] at hlt ⊢
      have HL := Lib.hid hL
      have hLb : (bs L).size = L.length := rfl
      have z1 : ¬ 9223372036854775807 < L.length + 8 := by omega
      have z2 : ¬ 9223372036854775807 < L.length + 8 + x.name.size := by omega
      have hst : bs L ++ (⟨#[112, 114, 111, 99, 101, 115, 115, 32]⟩ : ByteArray) ++ x.name = bs (L ++ (wProcess ++ 32 :: (x.name.data.toList ++ wVars (x.vars.take 0)))) := by
        apply ByteArray.ext
        simp [wProcess, wVars]
      have HSt := Lib.hid hst
      clear hx hV g0 g1 g2 hba hps hsn hL hst
      go_upto_region 6 with fail
      rw [HSt.out]
      clear HSt z1 z2 hLb
      go_wp2_with fail
      go_loopg [3, 5] x.vars.length (fun gg S v wx => ∃ k : Nat, S = .string (bs (L ++ (wProcess ++ 32 :: (x.name.data.toList ++ wVars (x.vars.take k))))) ∧ v = .int .i64 (k : Int) ∧ k ≤ x.vars.length ∧ x.vars.length ≤ k + gg ∧ Hid (Ex W1 wx))
      case atStart => exact ⟨0, rfl, rfl, Nat.zero_le _, by omega, HH⟩
      case round =>
        obtain ⟨k, rfl, rfl, hk, hkg, HJ⟩ := hrel
        clear x0 xl y0 y1 y2 yb
        have x0 := (HBT.out wr HJ.out).cell 0
        have xl := (HBT.out wr HJ.out).lt
        obtain ⟨y0, y1, y2, yb⟩ := HG.out wr HJ.out
        by_cases hkl : k < x.vars.length
        · obtain ⟨n8, rfl⟩ : ∃ n8, gk = n8 + 1 := ⟨gk - 1, by omega⟩
          obtain ⟨v, hv⟩ : ∃ v, x.vars[k]? = some v := ⟨_, List.getElem?_eq_getElem hkl⟩
          have hvs := HPs.out.pr.vars v (List.mem_of_getElem? hv)
          obtain ⟨bv, ov, rfl, hbv, v0, v1⟩ := (HRV.out wr HJ.out).var hv
          have hsv := wVars_snoc hv
          have hvl := nameB_size hvs.1
          have hwl := wVars_len (x.vars.take k) fun u hu => HPs.out.pr.vars u (List.mem_of_mem_take hu)
          have htk : (x.vars.take k).length ≤ 100000 := by rw [List.length_take]; omega
          have hnd : x.name.data.toList.length = x.name.size := by simp
          have hpr7 : wProcess.length = 7 := rfl
          have k0 : (0 : Int) ≤ (k : Int) := by omega
          have k1 : (k : Int) < (x.vars.length : Int) := by omega
          have hil3 := HLe.out v.2 hvs.2.1 hvs.2.2
          have HD := Lib.hid (fun wx => HDc.out v.2 wx hvs.2.1 hvs.2.2)
          have hib : (bs (Lib.itoa v.2)).size = (Lib.itoa v.2).length := rfl
          obtain ⟨M, hM⟩ : ∃ M, M = L ++ (wProcess ++ 32 :: (x.name.data.toList ++ wVars (x.vars.take k))) := ⟨_, rfl⟩
          have hMl : M.length ≤ 900000000000 := by rw [hM]; simp only [List.length_append, List.length_cons]; omega
          have hMb : (bs M).size = M.length := rfl
          have hend : bs M ++ (⟨#[32]⟩ : ByteArray) ++ v.1 ++ (⟨#[61]⟩ : ByteArray) ++ bs (Lib.itoa v.2) = bs (L ++ (wProcess ++ 32 :: (x.name.data.toList ++ wVars (x.vars.take (k + 1))))) := by
            rw [hsv, hM]
            unfold wAsg
            apply ByteArray.ext
            simp
          have HEd := Lib.hid hend
          rw [← hM]
          clear hv hvs hsv hend hM hwl htk hnd
          obtain ⟨vn, vv⟩ := v
          dsimp only at *
          have z1 : ¬ 9223372036854775807 < M.length + 1 := by omega
          have z2 : ¬ 9223372036854775807 < M.length + 1 + vn.size := by omega
          have z3 : ¬ 9223372036854775807 < M.length + 1 + vn.size + 1 := by omega
          have z4 : ¬ 9223372036854775807 < M.length + 1 + vn.size + 1 + (Lib.itoa vv).length := by omega
          go_upto_region 9 with fail
          refine wp_region_ext (by kernel_rfl) (by kernel_rfl) ?_
          repeat (go_big_quiet_step ((go_at_call 66; exact quiet_ext (HD.out _))))
          refine wpQuiet_end (fun z2 => ?_)
          try go_wp2_with fail
          go_roundg n8
          case measure => omega
          case rel => exact ⟨k + 1, by rw [HEd.out], by go_num, by omega, by omega, Lib.hid (HJ.out.ext z2)⟩
        · obtain rfl : k = x.vars.length := by omega
          have k1 : decide ((x.vars.length : Int) < (x.vars.length : Int)) = false := decide_eq_false (by omega)
          have hwl := wPr_len HPs.out.pr HPs.out.vars
          rw [List.take_length]
          have hwp : wProcess ++ 32 :: (x.name.data.toList ++ wVars x.vars) = wPr x := rfl
          rw [hwp]
          have hMb : (bs (L ++ wPr x)).size = L.length + (wPr x).length := by show (L ++ wPr x).length = _; simp
          have z1 : ¬ 9223372036854775807 < L.length + (wPr x).length + 1 := by omega
          have hst : bs (L ++ wPr x) ++ (⟨#[10]⟩ : ByteArray) = bs (L ++ (wPr x ++ 10 :: wEvs t x.vars (x.evs.take 0))) := by
            apply ByteArray.ext
            simp [wEvs]
          have HSt := Lib.hid hst
          clear hst hwp
          go_upto_region 11 with fail
          rw [HSt.out]
          clear HSt z1 hMb
          go_wp2_with fail
          go_loopg [3, 6] x.evs.length (fun gg S v wx => ∃ i : Nat, S = .string (bs (L ++ (wPr x ++ 10 :: wEvs t x.vars (x.evs.take i)))) ∧ v = .int .i64 (i : Int) ∧ i ≤ x.evs.length ∧ x.evs.length ≤ i + gg ∧ Hid (Ex W1 wx))
          case atStart => exact ⟨0, rfl, rfl, Nat.zero_le _, by omega, HJ⟩
          case round =>
            obtain ⟨i, rfl, rfl, hi, hig, HK⟩ := hrel
            clear x0 xl y0 y1 y2 yb
            have x0 := (HBT.out wr HK.out).cell 0
            have xl := (HBT.out wr HK.out).lt
            obtain ⟨y0, y1, y2, yb⟩ := HG.out wr HK.out
            by_cases hil : i < x.evs.length
            · obtain ⟨n7, rfl⟩ : ∃ n7, gk = n7 + 1 := ⟨gk - 1, by omega⟩
              obtain ⟨e, he⟩ : ∃ e, x.evs[i]? = some e := ⟨_, List.getElem?_eq_getElem hil⟩
              have hel := wEv_len (HPs.out.ev e (List.mem_of_getElem? he)).1 (HPs.out.ev e (List.mem_of_getElem? he)).2
              have hevl := wEvs_len (x.evs.take i) fun u hu => HPs.out.ev u (List.mem_of_mem_take hu)
              have htk : (x.evs.take i).length ≤ 100000 := by rw [List.length_take]; omega
              have hse := wEvs_snoc (t := t) (vars := x.vars) he
              have HL1 := Lib.hid (fun wx hl => HLn.out p i x e wx HXx.out he hl)
              have q1 : IntKind.i64.wrap ((i : Int) + 1) = (i : Int) + 1 := IntWalk.i64_in _ (by omega)
              have i0 : (0 : Int) ≤ (i : Int) := by omega
              have i1 : (i : Int) < (x.evs.length : Int) := by omega
              obtain ⟨M, hM⟩ : ∃ M, M = L ++ (wPr x ++ 10 :: wEvs t x.vars (x.evs.take i)) := ⟨_, rfl⟩
              have hMl : M.length ≤ 1900000000000 := by rw [hM]; simp only [List.length_append, List.length_cons]; omega
              have hMb : (bs M).size = M.length := rfl
              have heb : (bs (wEv t x.vars e)).size = (wEv t x.vars e).length := rfl
              have hend : bs M ++ (⟨#[32, 32]⟩ : ByteArray) ++ bs (wEv t x.vars e) ++ (⟨#[10]⟩ : ByteArray) = bs (L ++ (wPr x ++ 10 :: wEvs t x.vars (x.evs.take (i + 1)))) := by
                rw [hse, hM]
                apply ByteArray.ext
                simp
              have HEd := Lib.hid hend
              rw [← hM]
              clear he hse hend hM hevl htk
              generalize wEv t x.vars e = LE at *
              have z1 : ¬ 9223372036854775807 < M.length + 2 := by omega
              have z2 : ¬ 9223372036854775807 < M.length + 2 + LE.length := by omega
              have z3 : ¬ 9223372036854775807 < M.length + 2 + LE.length + 1 := by omega
              go_wp2_with fail
              refine (HL1.out _ (HXo.out _ HK.out)).mono ?_
              rintro e9 w8 ⟨rfl, g1⟩
              have H8 := Lib.hid (HK.out.trans g1)
              clear g1 x0 xl y0 y1 y2 yb
              go_wp2_with fail
              go_roundg n7
              case measure => omega
              case rel => exact ⟨i + 1, by rw [HEd.out], by go_num, by omega, by omega, H8⟩
            · obtain rfl : i = x.evs.length := by omega
              have i1 : decide ((x.evs.length : Int) < (x.evs.length : Int)) = false := decide_eq_false (by omega)
              rw [List.take_length]
              have hfin : L ++ (wPr x ++ 10 :: wEvs t x.vars x.evs) = (t.take (p + 1)).flatMap (wF t) := by rw [HSn.out, HL.out]; rfl
              have HFin := Lib.hid hfin
              clear hfin
              go_wp2_with fail
              go_roundg n9
              case measure => omega
              case rel => exact ⟨p + 1, by rw [HFin.out], by go_num, by omega, by omega, HK⟩
    · obtain rfl : p = t.length := by omega
      have m1 : decide ((t.length : Int) < (t.length : Int)) = false := decide_eq_false (by omega)
      have x0 := (HBT.out wr HH.out).cell 0
      have xl := (HBT.out wr HH.out).lt
      go_wp2_with fail
      go_ret
      exact Ret.mk (by rw [HEnd.out]; rfl) (HXo.out _ HH.out)
end
section
open Go.RowKit Nu
theorem textV_bad {t : List Pr} (h : validB t = false) : textV t = .tuple #[.string ⟨#[]⟩, .int .i64 1] := by
  unfold textV
  rw [if_neg (by rw [h]; decide)]
theorem textV_long {t : List Pr} (h : validB t = true) (hl : 16384 < (wTr t).length) : textV t = .tuple #[.string ⟨#[]⟩, .int .i64 5] := by
  unfold textV
  rw [if_pos h, if_pos hl]
theorem textV_short {t : List Pr} (h : validB t = true) (hl : ¬ 16384 < (wTr t).length) : textV t = .tuple #[.string (bs (wTr t)), .int .i64 0] := by
  unfold textV
  rw [if_pos h, if_neg hl]
theorem lineV_of {t : List Pr} {p i n : Int} (h : checkE t p i = n) (hn : n ≠ 0) : lineV t p i = .tuple #[.string ⟨#[]⟩, .int .i64 n] := by
  unfold lineV
  rw [if_neg (by rw [h]; exact hn), h]
theorem nameV_of {t : List Pr} {p i n : Int} (h : checkE t p i = n) (hn : n ≠ 0) : nameV t p i = .tuple #[.string ⟨#[]⟩, .int .i64 n] := by
  unfold nameV
  rw [if_neg (by rw [h]; exact hn), h]
theorem lineV_ok {t : List Pr} {p i : Int} (h : checkE t p i = 0) : lineV t p i = .tuple #[.string (bs (lnOf t p i)), .int .i64 0] := by
  unfold lineV
  rw [if_pos h]
theorem nameV_ok {t : List Pr} {p i : Int} (h : checkE t p i = 0) : nameV t p i = .tuple #[.string (bs (nameS t p i)), .int .i64 0] := by
  unfold nameV
  rw [if_pos h]
set_option maxRecDepth 100000 in
set_option maxHeartbeats 12800000 in
theorem texts_law (t : List Pr) (A : Option Addr) (c : Nat) (p i : Int) (w : World) (hE : Env w) (hT : TcC w A t) (hcap : t.length ≤ c) (htl : t.length ≤ 281474976710656) (hbig : ∀ x, x ∈ t → x.evs.length ≤ 281474976710656) :
    Calls Tryz.prog 6 #[.agg #[.slice A t.length c], .agg #[.int .i64 p, .int .i64 i]] w (Ret w (.bool true)) := by
  have HE : Hid (∀ w', Ex w w' → Env w') := fun w' h => hE.ex h
  have HT : Hid (∀ w', Ex w w' → TcC w' A t) := fun w' h => hT.ex h
  have HAw : Hid (∀ w', Ex w w' → Calls Tryz.prog 10 #[] w' (Ret w' (.bool true))) := fun w' h => awake_c w' (hE.ex h)
  have HSc : Hid (∀ w', Ex w w' → Calls Tryz.prog 11 #[.agg #[.slice A t.length c]] w' (Ret w' (.bool (smallB t)))) := fun w' h => small_c t A c w' (hT.ex h) htl hbig
  obtain ⟨W1, hW1⟩ : ∃ W1, W1 = (w.alloc (.cells #[.slice A t.length c] 24)).alloc (.cells #[.int .i64 p, .int .i64 i] 40) := ⟨_, rfl⟩
  have hX1 : Ex w W1 := by rw [hW1]; exact ((Ex.refl w).alloc _).alloc _
  have hz1 : ∀ o : Obj, (w.alloc o).heap.size = w.heap.size + 1 := fun o => Array.size_push _
  have hB1 : Blk W1 w.heap.size 24 [.slice A t.length c] := by rw [hW1]; exact (Blk.new w _ _).alloc _
  have hB2 : Blk W1 (w.heap.size + 1) 40 [.int .i64 p, .int .i64 i] := by rw [hW1, ← hz1]; exact Blk.new _ _ _
  have HW1 := Lib.hid hW1
  have HX1 := Lib.hid hX1
  have HBT : Hid (∀ wx, Ex W1 wx → wx.cell? ⟨w.heap.size, 0, none⟩ = some (.slice A t.length c) ∧ wx.cell? ⟨w.heap.size + 1, 0, none⟩ = some (.int .i64 p) ∧ wx.cell? ⟨w.heap.size + 1, 1, none⟩ = some (.int .i64 i) ∧ w.heap.size < wx.heap.size ∧ w.heap.size + 1 < wx.heap.size) := fun wx h => ⟨(hB1.ex h).cell 0, (hB2.ex h).cell 0, (hB2.ex h).cell 1, (hB1.ex h).lt, (hB2.ex h).lt⟩
  have HCp := Lib.hid hcap
  clear hE hT hW1 hX1 hB1 hB2 hz1 hbig htl hcap
  go_enter Tryz.func6, Tryz.ntmps6
  go_upto_region 1 with fail
  rw [← HW1.out]
  go_wp2_with fail
  refine (HAw.out _ HX1.out).mono ?_
  rintro e9 w2 ⟨rfl, hx⟩
  have HX2 := Lib.hid hx
  clear hx HW1
  obtain ⟨x0, x1, x2, xl, xk⟩ := HBT.out _ HX2.out
  go_wp2_with fail
  refine (HSc.out _ (HX1.out.trans HX2.out)).mono ?_
  rintro e9 w3 ⟨rfl, hx⟩
  have HX3 := Lib.hid (HX2.out.trans hx)
  clear hx x0 x1 x2 xl xk
  obtain ⟨x0, x1, x2, xl, xk⟩ := HBT.out _ HX3.out
  cases hsm : smallB t with
  | false =>
    clear HSc
    go_wp2_with fail
    go_ret
    exact Ret.mk rfl (HX1.out.trans HX3.out)
  | true =>
    obtain ⟨hts, -, -, -⟩ := small_tsm hsm
    have HV := Lib.hid (fun w' (h : Ex w w') => rValid_c t A c w' (HT.out w' h) hts)
    have HTx : Hid (∀ w', Ex w w' → Calls Tryz.prog 13 #[.agg #[.slice A t.length c]] w' (Ret w' (textV t))) := fun w' h => text_c t A c w' (HE.out w' h) (HT.out w' h) hts HCp.out
    have HLx : Hid (∀ w', Ex w w' → Calls Tryz.prog 15 #[.agg #[.slice A t.length c], .agg #[.int .i64 p, .int .i64 i]] w' (Ret w' (lineV t p i))) := fun w' h => line2_c t A c p i w' (HE.out w' h) (HT.out w' h) hts HCp.out
    have HNx : Hid (∀ w', Ex w w' → Calls Tryz.prog 16 #[.agg #[.slice A t.length c], .agg #[.int .i64 p, .int .i64 i]] w' (Ret w' (nameV t p i))) := fun w' h => name2_c t A c p i w' (HE.out w' h) (HT.out w' h) hts HCp.out
    have HK : Hid (∀ w', Ex w w' → Calls Tryz.prog 25 #[.agg #[.slice A t.length c], .agg #[.int .i64 p, .int .i64 i]] w' (Ret w' (.bool (knownB t p i)))) := fun w' h => known_c t A c p i w' (HT.out w' h) hts
    have HTs := Lib.hid hts
    clear HSc hsm HAw hts
    cases hv : validB t with
    | false =>
      have hck : checkE t p i = 1 := by unfold checkE; rw [if_neg (by rw [hv]; decide)]
      rw [hv] at HV
      rw [textV_bad hv] at HTx
      rw [lineV_of hck (by decide)] at HLx
      rw [nameV_of hck (by decide)] at HNx
      clear hv hck HK
      go_wp2_with fail
      refine (HTx.out _ (HX1.out.trans HX3.out)).mono ?_
      rintro e9 w4 ⟨rfl, hx⟩
      have HX4 := Lib.hid (HX3.out.trans hx)
      clear hx x0 x1 x2 xl xk
      obtain ⟨x0, x1, x2, xl, xk⟩ := HBT.out _ HX4.out
      go_wp2_with fail
      refine (HLx.out _ (HX1.out.trans HX4.out)).mono ?_
      rintro e9 w5 ⟨rfl, hx⟩
      have HX5 := Lib.hid (HX4.out.trans hx)
      clear hx x0 x1 x2 xl xk
      obtain ⟨x0, x1, x2, xl, xk⟩ := HBT.out _ HX5.out
      go_wp2_with fail
      refine (HNx.out _ (HX1.out.trans HX5.out)).mono ?_
      rintro e9 w6 ⟨rfl, hx⟩
      have HX6 := Lib.hid (HX5.out.trans hx)
      clear hx x0 x1 x2 xl xk
      obtain ⟨x0, x1, x2, xl, xk⟩ := HBT.out _ HX6.out
      go_wp2_with fail
      refine (HV.out _ (HX1.out.trans HX6.out)).mono ?_
      rintro e9 w7 ⟨rfl, hx⟩
      have HX7 := Lib.hid (HX6.out.trans hx)
      clear hx x0 x1 x2 xl xk
      obtain ⟨x0, x1, x2, xl, xk⟩ := HBT.out _ HX7.out
      go_wp2_with fail
      go_ret
      exact Ret.mk rfl (HX1.out.trans HX7.out)
    | true =>
      have hf : (faultO t).2 = 0 := by unfold validB at hv; exact of_decide_eq_true hv
      have HRt := Lib.hid (fun w' (h : Ex w w') => rtext_c t A c w' (HT.out w' h) HTs.out hf)
      rw [hv] at HV
      have hszT : (bs (wTr t)).size = (wTr t).length := rfl
      cases hk : knownB t p i with
      | false =>
        have hck : checkE t p i = 2 := by unfold checkE; rw [if_pos hv, if_neg (by rw [hk]; decide)]
        rw [lineV_of hck (by decide)] at HLx
        rw [nameV_of hck (by decide)] at HNx
        rw [hk] at HK
        clear hk hck hf
        by_cases hl : 16384 < (wTr t).length
        · rw [textV_long hv hl] at HTx
          have d1 : decide (16384 < ((wTr t).length : Int)) = true := decide_eq_true (by omega)
          clear hv hl
          generalize wTr t = WT at *
          go_wp2_with fail
          refine (HTx.out _ (HX1.out.trans HX3.out)).mono ?_
          rintro e9 w4 ⟨rfl, hx⟩
          have HX4 := Lib.hid (HX3.out.trans hx)
          clear hx x0 x1 x2 xl xk
          obtain ⟨x0, x1, x2, xl, xk⟩ := HBT.out _ HX4.out
          go_wp2_with fail
          refine (HLx.out _ (HX1.out.trans HX4.out)).mono ?_
          rintro e9 w5 ⟨rfl, hx⟩
          have HX5 := Lib.hid (HX4.out.trans hx)
          clear hx x0 x1 x2 xl xk
          obtain ⟨x0, x1, x2, xl, xk⟩ := HBT.out _ HX5.out
          go_wp2_with fail
          refine (HNx.out _ (HX1.out.trans HX5.out)).mono ?_
          rintro e9 w6 ⟨rfl, hx⟩
          have HX6 := Lib.hid (HX5.out.trans hx)
          clear hx x0 x1 x2 xl xk
          obtain ⟨x0, x1, x2, xl, xk⟩ := HBT.out _ HX6.out
          go_wp2_with fail
          refine (HV.out _ (HX1.out.trans HX6.out)).mono ?_
          rintro e9 w7 ⟨rfl, hx⟩
          have HX7 := Lib.hid (HX6.out.trans hx)
          clear hx x0 x1 x2 xl xk
          obtain ⟨x0, x1, x2, xl, xk⟩ := HBT.out _ HX7.out
          go_wp2_with fail
          refine (HRt.out _ (HX1.out.trans HX7.out)).mono ?_
          rintro e9 w8 ⟨rfl, hx⟩
          have HX8 := Lib.hid (HX7.out.trans hx)
          clear hx x0 x1 x2 xl xk
          obtain ⟨x0, x1, x2, xl, xk⟩ := HBT.out _ HX8.out
          go_wp2_with fail
          refine (HK.out _ (HX1.out.trans HX8.out)).mono ?_
          rintro e9 w9 ⟨rfl, hx⟩
          have HX9 := Lib.hid (HX8.out.trans hx)
          clear hx x0 x1 x2 xl xk
          obtain ⟨x0, x1, x2, xl, xk⟩ := HBT.out _ HX9.out
          go_wp2_with fail
          go_ret
          exact Ret.mk rfl (HX1.out.trans HX9.out)
        · rw [textV_short hv hl] at HTx
          have d1 : decide (16384 < ((wTr t).length : Int)) = false := decide_eq_false (by omega)
          clear hv hl
          generalize wTr t = WT at *
          go_wp2_with fail
          refine (HTx.out _ (HX1.out.trans HX3.out)).mono ?_
          rintro e9 w4 ⟨rfl, hx⟩
          have HX4 := Lib.hid (HX3.out.trans hx)
          clear hx x0 x1 x2 xl xk
          obtain ⟨x0, x1, x2, xl, xk⟩ := HBT.out _ HX4.out
          go_wp2_with fail
          refine (HLx.out _ (HX1.out.trans HX4.out)).mono ?_
          rintro e9 w5 ⟨rfl, hx⟩
          have HX5 := Lib.hid (HX4.out.trans hx)
          clear hx x0 x1 x2 xl xk
          obtain ⟨x0, x1, x2, xl, xk⟩ := HBT.out _ HX5.out
          go_wp2_with fail
          refine (HNx.out _ (HX1.out.trans HX5.out)).mono ?_
          rintro e9 w6 ⟨rfl, hx⟩
          have HX6 := Lib.hid (HX5.out.trans hx)
          clear hx x0 x1 x2 xl xk
          obtain ⟨x0, x1, x2, xl, xk⟩ := HBT.out _ HX6.out
          go_wp2_with fail
          refine (HV.out _ (HX1.out.trans HX6.out)).mono ?_
          rintro e9 w7 ⟨rfl, hx⟩
          have HX7 := Lib.hid (HX6.out.trans hx)
          clear hx x0 x1 x2 xl xk
          obtain ⟨x0, x1, x2, xl, xk⟩ := HBT.out _ HX7.out
          go_wp2_with fail
          refine (HRt.out _ (HX1.out.trans HX7.out)).mono ?_
          rintro e9 w8 ⟨rfl, hx⟩
          have HX8 := Lib.hid (HX7.out.trans hx)
          clear hx x0 x1 x2 xl xk
          obtain ⟨x0, x1, x2, xl, xk⟩ := HBT.out _ HX8.out
          go_wp2_with fail
          refine (HK.out _ (HX1.out.trans HX8.out)).mono ?_
          rintro e9 w9 ⟨rfl, hx⟩
          have HX9 := Lib.hid (HX8.out.trans hx)
          clear hx x0 x1 x2 xl xk
          obtain ⟨x0, x1, x2, xl, xk⟩ := HBT.out _ HX9.out
          go_wp2_with fail
          go_ret
          exact Ret.mk rfl (HX1.out.trans HX9.out)
      | true =>
        have hck : checkE t p i = 0 := by unfold checkE; rw [if_pos hv, if_pos hk]
        rw [lineV_ok hck] at HLx
        rw [nameV_ok hck] at HNx
        rw [hk] at HK
        obtain ⟨-, q, x, rfl, hx, h1, h2⟩ := check_ok hck
        obtain ⟨j, rfl⟩ : ∃ j : Nat, i = (j : Int) + 1 := ⟨i.toNat - 1, by omega⟩
        obtain ⟨e, he⟩ : ∃ e, x.evs[j]? = some e := ⟨_, List.getElem?_eq_getElem (by omega)⟩
        have hS : lnOf t (q : Int) ((j : Int) + 1) = wEv t x.vars e := by
          have e1 : ((j : Int) + 1).toNat - 1 = j := by omega
          unfold lnOf
          rw [Int.toNat_natCast, hx, e1]
          show ((x.evs[j]?).map (wEv t x.vars)).getD [] = _
          rw [he]
          rfl
        rw [hS] at HLx
        have HRl := Lib.hid (fun w' (h : Ex w w') => rline_c t A c q j x e w' (HT.out w' h) HTs.out hx he hf)
        have HRn := Lib.hid (fun w' (h : Ex w w') => rname_c t A c q x ((j : Int) + 1) w' (HT.out w' h) HTs.out hx h1 h2)
        clear hk hck hf hx h1 h2 he hS
        generalize bs (wEv t x.vars e) = LS at *
        generalize bs (nameS t (q : Int) ((j : Int) + 1)) = NS at *
        by_cases hl : 16384 < (wTr t).length
        · rw [textV_long hv hl] at HTx
          have d1 : decide (16384 < ((wTr t).length : Int)) = true := decide_eq_true (by omega)
          clear hv hl
          generalize wTr t = WT at *
          go_wp2_with fail
          refine (HTx.out _ (HX1.out.trans HX3.out)).mono ?_
          rintro e9 w4 ⟨rfl, hx⟩
          have HX4 := Lib.hid (HX3.out.trans hx)
          clear hx x0 x1 x2 xl xk
          obtain ⟨x0, x1, x2, xl, xk⟩ := HBT.out _ HX4.out
          go_wp2_with fail
          refine (HLx.out _ (HX1.out.trans HX4.out)).mono ?_
          rintro e9 w5 ⟨rfl, hx⟩
          have HX5 := Lib.hid (HX4.out.trans hx)
          clear hx x0 x1 x2 xl xk
          obtain ⟨x0, x1, x2, xl, xk⟩ := HBT.out _ HX5.out
          go_wp2_with fail
          refine (HNx.out _ (HX1.out.trans HX5.out)).mono ?_
          rintro e9 w6 ⟨rfl, hx⟩
          have HX6 := Lib.hid (HX5.out.trans hx)
          clear hx x0 x1 x2 xl xk
          obtain ⟨x0, x1, x2, xl, xk⟩ := HBT.out _ HX6.out
          go_wp2_with fail
          refine (HV.out _ (HX1.out.trans HX6.out)).mono ?_
          rintro e9 w7 ⟨rfl, hx⟩
          have HX7 := Lib.hid (HX6.out.trans hx)
          clear hx x0 x1 x2 xl xk
          obtain ⟨x0, x1, x2, xl, xk⟩ := HBT.out _ HX7.out
          go_wp2_with fail
          refine (HRt.out _ (HX1.out.trans HX7.out)).mono ?_
          rintro e9 w8 ⟨rfl, hx⟩
          have HX8 := Lib.hid (HX7.out.trans hx)
          clear hx x0 x1 x2 xl xk
          obtain ⟨x0, x1, x2, xl, xk⟩ := HBT.out _ HX8.out
          go_wp2_with fail
          refine (HK.out _ (HX1.out.trans HX8.out)).mono ?_
          rintro e9 w9 ⟨rfl, hx⟩
          have HX9 := Lib.hid (HX8.out.trans hx)
          clear hx x0 x1 x2 xl xk
          obtain ⟨x0, x1, x2, xl, xk⟩ := HBT.out _ HX9.out
          go_wp2_with fail
          refine (HRl.out _ (HX1.out.trans HX9.out)).mono ?_
          rintro e9 w10 ⟨rfl, hx⟩
          have HX10 := Lib.hid (HX9.out.trans hx)
          clear hx x0 x1 x2 xl xk
          obtain ⟨x0, x1, x2, xl, xk⟩ := HBT.out _ HX10.out
          go_wp2_with fail
          refine (HRn.out _ (HX1.out.trans HX10.out)).mono ?_
          rintro e9 w11 ⟨rfl, hx⟩
          have HX11 := Lib.hid (HX10.out.trans hx)
          clear hx x0 x1 x2 xl xk
          obtain ⟨x0, x1, x2, xl, xk⟩ := HBT.out _ HX11.out
          go_wp2_with fail
          go_ret
          exact Ret.mk rfl (HX1.out.trans HX11.out)
        · rw [textV_short hv hl] at HTx
          have d1 : decide (16384 < ((wTr t).length : Int)) = false := decide_eq_false (by omega)
          clear hv hl
          generalize wTr t = WT at *
          go_wp2_with fail
          refine (HTx.out _ (HX1.out.trans HX3.out)).mono ?_
          rintro e9 w4 ⟨rfl, hx⟩
          have HX4 := Lib.hid (HX3.out.trans hx)
          clear hx x0 x1 x2 xl xk
          obtain ⟨x0, x1, x2, xl, xk⟩ := HBT.out _ HX4.out
          go_wp2_with fail
          refine (HLx.out _ (HX1.out.trans HX4.out)).mono ?_
          rintro e9 w5 ⟨rfl, hx⟩
          have HX5 := Lib.hid (HX4.out.trans hx)
          clear hx x0 x1 x2 xl xk
          obtain ⟨x0, x1, x2, xl, xk⟩ := HBT.out _ HX5.out
          go_wp2_with fail
          refine (HNx.out _ (HX1.out.trans HX5.out)).mono ?_
          rintro e9 w6 ⟨rfl, hx⟩
          have HX6 := Lib.hid (HX5.out.trans hx)
          clear hx x0 x1 x2 xl xk
          obtain ⟨x0, x1, x2, xl, xk⟩ := HBT.out _ HX6.out
          go_wp2_with fail
          refine (HV.out _ (HX1.out.trans HX6.out)).mono ?_
          rintro e9 w7 ⟨rfl, hx⟩
          have HX7 := Lib.hid (HX6.out.trans hx)
          clear hx x0 x1 x2 xl xk
          obtain ⟨x0, x1, x2, xl, xk⟩ := HBT.out _ HX7.out
          go_wp2_with fail
          refine (HRt.out _ (HX1.out.trans HX7.out)).mono ?_
          rintro e9 w8 ⟨rfl, hx⟩
          have HX8 := Lib.hid (HX7.out.trans hx)
          clear hx x0 x1 x2 xl xk
          obtain ⟨x0, x1, x2, xl, xk⟩ := HBT.out _ HX8.out
          go_wp2_with fail
          refine (HK.out _ (HX1.out.trans HX8.out)).mono ?_
          rintro e9 w9 ⟨rfl, hx⟩
          have HX9 := Lib.hid (HX8.out.trans hx)
          clear hx x0 x1 x2 xl xk
          obtain ⟨x0, x1, x2, xl, xk⟩ := HBT.out _ HX9.out
          go_wp2_with fail
          refine (HRl.out _ (HX1.out.trans HX9.out)).mono ?_
          rintro e9 w10 ⟨rfl, hx⟩
          have HX10 := Lib.hid (HX9.out.trans hx)
          clear hx x0 x1 x2 xl xk
          obtain ⟨x0, x1, x2, xl, xk⟩ := HBT.out _ HX10.out
          go_wp2_with fail
          refine (HRn.out _ (HX1.out.trans HX10.out)).mono ?_
          rintro e9 w11 ⟨rfl, hx⟩
          have HX11 := Lib.hid (HX10.out.trans hx)
          clear hx x0 x1 x2 xl xk
          obtain ⟨x0, x1, x2, xl, xk⟩ := HBT.out _ HX11.out
          go_wp2_with fail
          go_ret
          exact Ret.mk rfl (HX1.out.trans HX11.out)
end
end Go.Proofs.YtpmponafjhnegaaGreatDoor
