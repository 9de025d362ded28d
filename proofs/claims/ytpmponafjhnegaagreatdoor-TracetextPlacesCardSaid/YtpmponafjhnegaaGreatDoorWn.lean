/-
  The law Places, walked.
  Conditions: as each theorem says; the world's tables are as laid (Env).
-/
import Derived.Test.YtpmponafjhnegaaGreatDoorWl
import Derived.Deep.RegionWith
import Derived.Laws.IdiomStrings
namespace Go.Proofs.YtpmponafjhnegaaGreatDoor
open Go.RowKit Nu
theorem byte_cell (W : World) (g : Nat) (n : Nat) (hn : n < 256) (hc : W.cell? ⟨g, 0, none⟩ = some (.int .u8 (n : Int))) :
    Sem.run Tryz.prog (convert 56 9 (.slice (some ⟨g, 0, none⟩) 1 1)) W = .ok (.string ⟨#[UInt8.ofNat n]⟩) W := by
  have h := run_convert_bytes_back (P := Tryz.prog) W 56 9 5 ⟨g, 0, none⟩ 1 [UInt8.ofNat n] Tryz.underlying56 Tryz.underlying5 Tryz.underlying9 (fun j hj => by
    have : j = 0 := by simp at hj; omega
    subst this
    show W.cell? ⟨g, 0, none⟩ = _
    rw [hc]
    simp only [List.getElem_cons_zero, UInt8.toNat_ofNat']
    rw [Nat.mod_eq_of_lt (by omega)])
  exact h
theorem byte_new (W : World) (g n : Nat) (hn : n < 10) (hg : g = W.heap.size) :
    Sem.run Tryz.prog (convert 56 9 (.slice (some ⟨g, 0, none⟩) 1 1)) (W.alloc (.cells #[.int .u8 (n : Int)] 5)) = .ok (.string ⟨#[UInt8.ofNat n]⟩) (W.alloc (.cells #[.int .u8 (n : Int)] 5)) := by
  have h := Blk.new W 5 [.int .u8 (n : Int)]
  subst hg
  exact byte_cell _ _ n (by omega) (h.cell 0)
theorem byte_drew (W : World) (g n : Nat) (hn : n < 10) (hg : g = W.heap.size) :
    Sem.run Tryz.prog (convert 56 9 (.slice (some ⟨g, 0, none⟩) 1 1)) (W.alloc (.cells #[.int .u8 (n : Int)] 5)).drew = .ok (.string ⟨#[UInt8.ofNat n]⟩) (W.alloc (.cells #[.int .u8 (n : Int)] 5)).drew := by
  have h := (Blk.new W 5 [.int .u8 (n : Int)]).drew
  subst hg
  exact byte_cell _ _ n (by omega) (h.cell 0)
attribute [local go_sem] byte_new byte_drew
theorem bs_cat (a b : List UInt8) : bs a ++ bs b = bs (a ++ b) := by
  apply ByteArray.ext
  simp
theorem bs_ext (l : List UInt8) (i j : Nat) : (bs l).extract i j = bs ((l.drop i).take (j - i)) := by
  apply ByteArray.ext
  simp
theorem wTr_pos {t : List Pr} (h : (faultO t).2 = 0) : 0 < (wTr t).length := by
  have h1 := wTr_count h
  have h2 := (fault_zero h).1
  have h3 := List.count_le_length (a := (10 : UInt8)) (l := wTr t)
  omega
set_option maxRecDepth 100000 in
set_option maxHeartbeats 12800000 in
theorem places_law (t : List Pr) (A : Option Addr) (c a b : Nat) (w : World) (hE : Env w) (hT : TcC w A t) (hcap : t.length ≤ c) (htl : t.length ≤ 281474976710656) (hbig : ∀ x, x ∈ t → x.evs.length ≤ 281474976710656) (ha : a < 65536) (hb : b < 256) :
    Calls Tryz.prog 5 #[.agg #[.slice A t.length c], .int .u16 (a : Int), .int .u8 (b : Int)] w (Ret w (.bool true)) := by
  have HE : Hid (∀ w', Ex w w' → Env w') := fun w' h => hE.ex h
  have HT : Hid (∀ w', Ex w w' → TcC w' A t) := fun w' h => hT.ex h
  have HAw : Hid (∀ w', Ex w w' → Calls Tryz.prog 10 #[] w' (Ret w' (.bool true))) := fun w' h => awake_c w' (hE.ex h)
  have HSc : Hid (∀ w', Ex w w' → Calls Tryz.prog 11 #[.agg #[.slice A t.length c]] w' (Ret w' (.bool (smallB t)))) := fun w' h => small_c t A c w' (hT.ex h) htl hbig
  obtain ⟨W1, hW1⟩ : ∃ W1, W1 = w.alloc (.cells #[.slice A t.length c] 24) := ⟨_, rfl⟩
  have hX1 : Ex w W1 := by rw [hW1]; exact (Ex.refl w).alloc _
  have hB1 : Blk W1 w.heap.size 24 [.slice A t.length c] := by rw [hW1]; exact Blk.new w _ _
  have HW1 := Lib.hid hW1
  have HX1 := Lib.hid hX1
  have HB1 := Lib.hid hB1
  have HCp := Lib.hid hcap
  clear hE hT hW1 hX1 hB1 hbig htl hcap
  go_enter Tryz.func5, Tryz.ntmps5
  go_upto_region 1 with fail
  rw [← HW1.out]
  go_wp2_with fail
  refine (HAw.out _ HX1.out).mono ?_
  rintro e9 w2 ⟨rfl, hx⟩
  have HX2 := Lib.hid (HX1.out.trans hx)
  have x0 := (HB1.out.ex hx).cell 0
  have xl := (HB1.out.ex hx).lt
  have HB2 := Lib.hid (HB1.out.ex hx)
  clear hx
  go_wp2_with fail
  refine (HSc.out _ HX2.out).mono ?_
  rintro e9 w3 ⟨rfl, hx⟩
  have HX3 := Lib.hid (HX2.out.trans hx)
  have HB3 := Lib.hid (HB2.out.ex hx)
  clear hx x0 xl
  have x0 := HB3.out.cell 0
  have xl := HB3.out.lt
  cases hsm : smallB t with
  | false =>
    clear HSc
    go_wp2_with fail
    go_ret
    exact Ret.mk rfl HX3.out
  | true =>
    obtain ⟨hts, -, -, -⟩ := small_tsm hsm
    have HTx : Hid (∀ w', Ex w w' → Calls Tryz.prog 13 #[.agg #[.slice A t.length c]] w' (Ret w' (textV t))) := fun w' h => text_c t A c w' (HE.out w' h) (HT.out w' h) hts HCp.out
    clear HSc hsm HAw hts
    go_wp2_with fail
    refine (HTx.out _ HX3.out).mono ?_
    rintro e9 w4 ⟨rfl, hx⟩
    have HX4 := Lib.hid (HX3.out.trans hx)
    clear hx x0 xl HTx
    obtain ⟨TV, hTV⟩ : ∃ TV, TV = textV t := ⟨_, rfl⟩
    rw [← hTV]
    by_cases hok : (faultO t).2 = 0 ∧ (wTr t).length ≤ 16384
    · have hV := hTV.trans (textV_ok hok.1 hok.2)
      subst hV
      have hps := wTr_pos hok.1
      have hbz : (bs (wTr t)).size = (wTr t).length := rfl
      have c0 : ((((wTr t).length : Nat) : Int) == 0) = false := beq_eq_false_iff_ne.2 (by omega)
      by_cases h3 : 3000 < (wTr t).length
      · have b0 : decide ((3000 : Int) < ((wTr t).length : Int)) = true := decide_eq_true (by omega)
        clear h3 hTV hok
        go_wp2_with fail
        go_ret
        exact Ret.mk rfl HX4.out
      have b0 : decide ((3000 : Int) < ((wTr t).length : Int)) = false := decide_eq_false (by omega)
      have HBad : Hid (∀ (pre post : List UInt8) (d cc : UInt8), wTr t = pre ++ d :: post → d ≠ 10 → cc.toNat < 10 → ∃ k, parseT (pre ++ cc :: post) = .error (3, 1 + pre.count 10, k) ∧ 1 ≤ k ∧ k ≤ pre.length + 1) := fun pre post d cc h1 h2 h3 => parse_bad hok.1 h1 hok.2 h2 h3
      have HL3 : Hid ((wTr t).length ≤ 3000) := Lib.hid (by omega)
      clear h3 hTV hok
      generalize wTr t = l at *
      obtain ⟨k, hk⟩ : ∃ k, k = a % l.length := ⟨_, rfl⟩
      have hkl : k < l.length := by rw [hk]; exact Nat.mod_lt _ hps
      have hal : (a : Int).tmod (l.length : Int) = (k : Int) := by rw [Int.tmod_eq_emod_of_nonneg (by omega), hk]; omega
      obtain ⟨m, hm⟩ : ∃ m, m = b % 10 := ⟨_, rfl⟩
      have hml : m < 10 := by omega
      have hbl : (b : Int).tmod 10 = (m : Int) := by rw [Int.tmod_eq_emod_of_nonneg (by omega), hm]; omega
      have f1 : IntKind.i64.wrap (a : Int) = (a : Int) := IntWalk.i64_in _ (by omega)
      have f2 : IntKind.i64.wrap (k : Int) = (k : Int) := IntWalk.i64_in _ (by have := HL3.out; omega)
      have f3 : IntKind.u8.wrap (m : Int) = (m : Int) := by rw [IntKind.wrap_u8]; omega
      clear hk hm
      obtain ⟨d, hd⟩ : ∃ d, l[k]? = some d := ⟨_, List.getElem?_eq_getElem hkl⟩
      obtain ⟨pre, post, hl, hpk⟩ := at_split hd
      have k0 : (0 : Int) ≤ (k : Int) := by omega
      have k1 : (k : Int) < (l.length : Int) := by omega
      have HD := Lib.hid (And.intro hd (And.intro hl hpk))
      clear hd hl hpk
      have hx10 : (bs l)[k]'hkl = d := by
        have h2 := HD.out.1
        rw [List.getElem?_eq_getElem hkl] at h2
        have h3 : (bs l)[k]'hkl = l[k] := by simp [ByteArray.getElem_eq_getElem_data]
        rw [h3]
        exact Option.some.inj h2
      by_cases hd10 : d = 10
      · have t10 : ((((bs l)[k]'hkl).toNat : Int) == 10) = true := by rw [hx10, hd10]; rfl
        clear hx10 hd10
        go_upto_region 10 with fail
        go_wp2_with fail
        go_ret
        exact Ret.mk rfl HX4.out
      · have t10 : ((((bs l)[k]'hkl).toNat : Int) == 10) = false := by
          rw [hx10]
          refine beq_eq_false_iff_ne.2 fun e => hd10 ?_
          have : d.toNat = 10 := by omega
          exact UInt8.toNat_inj.1 this
        clear hx10
        go_upto_region 10 with fail
        have hpl : pre.length + post.length + 1 = l.length := by rw [HD.out.2.1]; simp; omega
        have e1 : (bs l).extract 0 k = bs pre := by
          rw [bs_ext, HD.out.2.1, ← HD.out.2.2]
          simp
        have e2 : (bs l).extract (k + 1) l.length = bs post := by
          have h1 : l.drop (k + 1) = post := by
            rw [HD.out.2.1, ← HD.out.2.2]
            simp [List.drop_append]
          rw [bs_ext, h1, List.take_of_length_le (by have := HD.out.2.2; omega)]
        obtain ⟨kk, hpe, hk1, hk2⟩ := HBad.out pre post d (UInt8.ofNat m) HD.out.2.1 hd10 (by rw [UInt8.toNat_ofNat']; omega)
        have f4 : IntKind.i64.wrap ((k : Int) + 1) = ((k + 1 : Nat) : Int) := IntWalk.i64_in _ (by have := HL3.out; omega)
        have k2 : k ≤ l.length := by omega
        have k3 : k + 1 ≤ l.length := by omega
        have k4 : (0 : Int) ≤ ((k + 1 : Nat) : Int) := by omega
        have k5 : ((k + 1 : Nat) : Int) ≤ (l.length : Int) := by omega
        have k6 : (k : Int) ≤ (l.length : Int) := by omega
        have HPe := Lib.hid hpe
        clear hd10 hpe
        have z1 : ¬ 9223372036854775807 < pre.length + 1 := by have := HL3.out; omega
        have z2 : ¬ 9223372036854775807 < pre.length + 1 + post.length := by have := HL3.out; omega
        have hcat : bs pre ++ (⟨#[UInt8.ofNat m]⟩ : ByteArray) ++ bs post = bs (pre ++ UInt8.ofNat m :: post) := by
          have h1 : (⟨#[UInt8.ofNat m]⟩ : ByteArray) = bs [UInt8.ofNat m] := rfl
          rw [h1, bs_cat, bs_cat]
          simp
        have HPc : Hid (∀ w', Ex w w' → Calls Tryz.prog 20 #[.string (bs pre ++ (⟨#[UInt8.ofNat m]⟩ : ByteArray) ++ bs post)] w' (ParseR (pre ++ UInt8.ofNat m :: post) w')) := fun w' h => by
          rw [hcat]
          exact parse_c _ w' (HE.out w' h) (by simp; have := HL3.out; omega)
        have HCt := Lib.hid (fun w' => count_c pre w')
        have hcl := List.count_le_length (a := (10 : UInt8)) (l := pre)
        have hpk := HD.out.2.2
        clear hcat
        go_upto_region 12 with fail
        go_cut [11] from 55 to 66 (fun v wx => v = .string (bs pre ++ (⟨#[UInt8.ofNat m]⟩ : ByteArray) ++ bs post) ∧ Hid (Ex w wx))
        case first =>
          go_region
          all_goals
            try go_wp2_with fail
            go_meet
            case rel => exact ⟨rfl, Lib.hid (HX4.out.trans (by repeat (first | exact Ex.refl _ | apply Ex.drew | apply Ex.alloc)))⟩
        case rest =>
          obtain ⟨rfl, HXc⟩ := hcut
          go_wp2_with fail
          refine (HPc.out _ HXc.out).mono ?_
          rintro e9 v1 ⟨hx, hm2⟩
          have HXv := Lib.hid (HXc.out.trans hx)
          rw [HPe.out] at hm2
          dsimp only at hm2
          subst hm2
          unfold errV
          have hB6 := Blk.new (v1.alloc (.cells #[.slice none 0 0] 24)) 48 [.int .i64 (1 + ((pre.count 10 : Nat) : Int)), .int .i64 (kk : Int)]
          have hz : (v1.alloc (.cells #[.slice none 0 0] 24)).heap.size = v1.heap.size + 1 := Array.size_push _
          rw [hz] at hB6
          have HX6 : Hid (Ex v1 ((v1.alloc (.cells #[.slice none 0 0] 24)).alloc (.cells #[.int .i64 (1 + ((pre.count 10 : Nat) : Int)), .int .i64 (kk : Int)] 48))) := ((Ex.refl v1).alloc _).alloc _
          have HB6 := Lib.hid hB6
          clear hx hB6 hz
          go_upto_region 14 with fail
          generalize (v1.alloc (.cells #[.slice none 0 0] 24)).alloc (.cells #[.int .i64 (1 + ((pre.count 10 : Nat) : Int)), .int .i64 (kk : Int)] 48) = W6 at *
          have y0 := HB6.out.cell 0
          have y1 := HB6.out.cell 1
          have yl := HB6.out.lt
          have q1 : IntKind.i64.wrap (1 + ((pre.count 10 : Nat) : Int)) = 1 + ((pre.count 10 : Nat) : Int) := IntWalk.i64_in _ (by have := HL3.out; omega)
          have q2 : (1 : Int) ≤ (kk : Int) := by omega
          have q3 : (kk : Int) ≤ ((k + 1 : Nat) : Int) := by omega
          refine wp_region_ext (by kernel_rfl) (by kernel_rfl) ?_
          repeat (go_big_quiet_step ((go_at_call 23; exact quiet_ext (HCt.out _))))
          refine wpQuiet_end (fun z2 => ?_)
          go_wp2_with fail
          go_ret
          exact Ret.mk (congrArg Value.bool (decide_eq_true (by omega))) ((HXv.out.trans HX6.out).ext z2)
    · obtain ⟨e, he, hV0⟩ := textV_not hok
      have hV := hTV.trans hV0
      subst hV
      have b1 : (e == 0) = false := beq_eq_false_iff_ne.2 he
      have b2 : (e != 0) = true := bne_iff_ne.2 he
      clear hTV hV0 hok he
      go_wp2_with fail
      go_ret
      exact Ret.mk rfl HX4.out
end Go.Proofs.YtpmponafjhnegaaGreatDoor
