/-
  Text, walked. check and Name, walked.
  Conditions: as each theorem says.
-/
import Derived.Test.YtpmponafjhnegaaGreatDoorWb
import Derived.Test.YtpmponafjhnegaaGreatDoorWs
namespace Go.Proofs.YtpmponafjhnegaaGreatDoor
section
open Go.RowKit Nu
theorem wVars_len : ∀ l : List (ByteArray × Int), (∀ v ∈ l, nameB v.1 = true ∧ -1125899906842624 ≤ v.2 ∧ v.2 ≤ 1125899906842624) → (wVars l).length ≤ 39 * l.length
  | [], _ => by simp [wVars]
  | a :: l, h => by
    have h1 := wVars_len l fun b hb => h b (List.mem_cons_of_mem _ hb)
    obtain ⟨h2, h3, h4⟩ := h a (by simp)
    have h5 := nameB_size h2
    have h6 := Lib.itoa_length_le a.2 (by omega) (by omega)
    have h7 : wVars (a :: l) = wAsg a.1 a.2 ++ wVars l := rfl
    have h8 : (wAsg a.1 a.2).length = a.1.size + (Lib.itoa a.2).length + 2 := by
      unfold wAsg
      simp only [List.length_cons, List.length_append, Array.length_toList]
      have : a.1.data.size = a.1.size := rfl
      omega
    rw [h7, List.length_append, h8, List.length_cons]
    omega
theorem wEv_len {t : List Pr} {vars : List (ByteArray × Int)} {e : Ev} (h : EvW t vars e) (ha : e.asg.length ≤ 100000) : (wEv t vars e).length ≤ 3950000 := by
  have h1 := wHead_len h
  have h2 := Lib.itoa_length_le e.time (by have := h.time; omega) (by have := h.time; omega)
  have h3 := wAsgs_len (vars := vars) e.asg fun a ha => ⟨(h.asg a ha).1, (h.asg a ha).2.2.2.1, (h.asg a ha).2.2.2.2⟩
  unfold wEv
  simp only [List.length_append, List.length_cons]
  omega
theorem wEvs_len {t : List Pr} {vars : List (ByteArray × Int)} : ∀ l : List Ev, (∀ e ∈ l, EvW t vars e ∧ e.asg.length ≤ 100000) → (wEvs t vars l).length ≤ 4000000 * l.length
  | [], _ => by simp [wEvs]
  | e :: l, h => by
    have h1 := wEvs_len l fun b hb => h b (List.mem_cons_of_mem _ hb)
    have h2 := wEv_len (h e (by simp)).1 (h e (by simp)).2
    have h7 : wEvs t vars (e :: l) = (32 :: 32 :: (wEv t vars e ++ [10])) ++ wEvs t vars l := rfl
    rw [h7]
    simp only [List.length_append, List.length_cons, List.length_nil]
    omega
def wF (t : List Pr) (x : Pr) : List UInt8 := wPr x ++ 10 :: wEvs t x.vars x.evs
theorem wTr_F (t : List Pr) : wTr t = t.flatMap (wF t) := rfl
/-- what Text needs of a process -/
structure PrS (t : List Pr) (x : Pr) : Prop where
  pr : PrW x
  ev : ∀ e ∈ x.evs, EvW t x.vars e ∧ e.asg.length ≤ 100000
  vars : x.vars.length ≤ 100000
theorem wPr_len {x : Pr} (h : PrW x) (hv : x.vars.length ≤ 100000) : (wPr x).length ≤ 3950000 := by
  have h1 := nameB_size h.nm
  have h2 := wVars_len x.vars h.vars
  have h3 : x.name.data.size = x.name.size := rfl
  have h4 : wProcess.length = 7 := rfl
  unfold wPr
  simp only [List.length_append, List.length_cons, Array.length_toList]
  omega
theorem wF_len {t : List Pr} : ∀ l : List Pr, (∀ x ∈ l, PrS t x) → (l.flatMap (wF t)).length ≤ 4000000 * (l.length + sumN l)
  | [], _ => by simp
  | x :: l, h => by
    have h1 := wF_len l fun b hb => h b (List.mem_cons_of_mem _ hb)
    obtain ⟨h2, h3, h4⟩ := h x (by simp)
    have h5 := wPr_len h2 h4
    have h6 := wEvs_len x.evs h3
    rw [List.flatMap_cons, List.length_append]
    unfold wF at h1 ⊢
    have h8 : sumN (x :: l) = x.evs.length + sumN l := rfl
    rw [h8]
    simp only [List.length_append, List.length_cons]
    omega
theorem prS_all {t : List Pr} (hf : (faultO t).2 = 0) (hs : TSm t) : ∀ x ∈ t, PrS t x := fun x hx => by
  obtain ⟨h1, h2⟩ := good_all hf x hx
  obtain ⟨s1, s2, s3, s4, s5⟩ := hs.each x hx
  exact ⟨h1, fun e he => ⟨h2 e he, s5 e he⟩, s2⟩
theorem wTr_len {t : List Pr} (hf : (faultO t).2 = 0) (hs : TSm t) (p : Nat) : ((t.take p).flatMap (wF t)).length ≤ 800000000000 := by
  have h1 := wF_len (t := t) (t.take p) fun x hx => prS_all hf hs x (List.mem_of_mem_take hx)
  have h2 := sumN_take' t p
  have h3 : (t.take p).length ≤ t.length := by rw [List.length_take]; omega
  have h4 := hs.procs
  have h5 := hs.events
  omega
theorem wVars_snoc {l : List (ByteArray × Int)} {k : Nat} {v : ByteArray × Int} (h : l[k]? = some v) : wVars (l.take (k + 1)) = wVars (l.take k) ++ wAsg v.1 v.2 := by
  rw [List.take_add_one, h]
  unfold wVars
  simp
theorem wEvs_snoc {t : List Pr} {vars : List (ByteArray × Int)} {l : List Ev} {k : Nat} {e : Ev} (h : l[k]? = some e) : wEvs t vars (l.take (k + 1)) = wEvs t vars (l.take k) ++ 32 :: 32 :: (wEv t vars e ++ [10]) := by
  rw [List.take_add_one, h]
  unfold wEvs
  simp
theorem wF_snoc {t : List Pr} {p : Nat} {x : Pr} (h : t[p]? = some x) : (t.take (p + 1)).flatMap (wF t) = (t.take p).flatMap (wF t) ++ wF t x := by
  rw [List.take_add_one, h]
  simp
noncomputable def textV (t : List Pr) : Value := if validB t = true then (if 16384 < (wTr t).length then .tuple #[.string ⟨#[]⟩, .int .i64 5] else .tuple #[.string (bs (wTr t)), .int .i64 0]) else .tuple #[.string ⟨#[]⟩, .int .i64 1]
set_option maxRecDepth 100000 in
set_option maxHeartbeats 12800000 in
theorem text_c (t : List Pr) (A : Option Addr) (c : Nat) (w : World) (hE : Env w) (hT : TcC w A t) (hs : TSm t) (hcap : t.length ≤ c) :
    Calls Tryz.prog 13 #[.agg #[.slice A t.length c]] w (Ret w (textV t)) := by
  have HE : Hid (∀ w', Ex w w' → Env w') := fun w' h => hE.ex h
  have HT := Lib.hid hT
  have HSm := Lib.hid hs
  have htl := hs.procs
  have HV := Lib.hid (fun w' (h : Ex w w') => pValid_c t A c w' (hT.ex h) hs hcap)
  obtain ⟨W1, hW1⟩ : ∃ W1, W1 = w.alloc (.cells #[.slice A t.length c] 24) := ⟨_, rfl⟩
  have hX1 : Ex w W1 := by rw [hW1]; exact (Ex.refl w).alloc _
  have hB1 : Blk W1 w.heap.size 24 [.slice A t.length c] := by rw [hW1]; exact Blk.new w _ _
  have x0 := hB1.cell 0
  have xl := hB1.lt
  have HW1 := Lib.hid hW1
  have HX1 := Lib.hid hX1
  have HB1 := Lib.hid hB1
  have HR0 : Hid (validB t = false → textV t = .tuple #[.string ⟨#[]⟩, .int .i64 1]) := fun h => by unfold textV; rw [if_neg (by rw [h]; decide)]
  have HR1 : Hid (validB t = true → 16384 < (wTr t).length → textV t = .tuple #[.string ⟨#[]⟩, .int .i64 5]) := fun h h2 => by unfold textV; rw [if_pos h, if_pos h2]
  have HR2 : Hid (validB t = true → ¬ 16384 < (wTr t).length → textV t = .tuple #[.string (bs (wTr t)), .int .i64 0]) := fun h h2 => by unfold textV; rw [if_pos h, if_neg h2]
  generalize textV t = TV at *
  clear hE hT hs hcap hW1 hX1 hB1
  cases hv : validB t with
  | false =>
    rw [hv] at HV
    have hR := HR0.out hv
    subst hR
    clear hv HR0 HR1 HR2
    go_enter Tryz.func13, Tryz.ntmps13
    go_upto_region 1 with fail
    rw [← HW1.out]
    go_wp2_with fail
    refine (HV.out _ HX1.out).mono ?_
    rintro e9 w2 ⟨rfl, hx⟩
    have HX2 := Lib.hid (HX1.out.trans hx)
    clear hx
    go_wp2_with fail
    go_ret2
    exact Ret.mk rfl HX2.out
  | true =>
    have hf : (faultO t).2 = 0 := by unfold validB at hv; exact of_decide_eq_true hv
    have HF := Lib.hid hf
    rw [hv] at HV
    have HR3 := Lib.hid (HR1.out hv)
    have HR4 := Lib.hid (HR2.out hv)
    clear hv hf HR0 HR1 HR2
    go_enter Tryz.func13, Tryz.ntmps13
    go_upto_region 1 with fail
    rw [← HW1.out]
    go_wp2_with fail
    refine (HV.out _ HX1.out).mono ?_
    rintro e9 w2 ⟨rfl, hx⟩
    have hB2 := HB1.out.ex hx
    have hX2 := HX1.out.trans hx
    clear x0 xl hx
    have hb3 := BdO.new w2 w2.heap.size (Nat.le_refl _)
    have hX3 : Ex w2 (w2.alloc (.cells #[.pointer none, .slice none 0 0] 78)) := (Ex.refl w2).alloc _
    go_upto_region 4 with fail
    obtain ⟨b, hb⟩ : ∃ b, b = w2.heap.size := ⟨_, rfl⟩
    have hwb : w.heap.size < b := by rw [hb]; exact hB2.lt
    rw [← hb] at hb3 ⊢
    clear hb
    generalize w2.alloc (.cells #[.pointer none, .slice none 0 0] 78) = W3 at *
    have hBT := hB2.ex hX3
    have hXw : Ex w W3 := hX2.trans hX3
    have HXo : Hid (∀ wx, Below b W3 wx → Ex w wx) := fun wx h => Ex.of (hXw.below.trans (h.mono (Nat.le_of_lt hwb)))
    have HBT : Hid (∀ wx, Below b W3 wx → Blk wx w.heap.size 24 [.slice A t.length c]) := fun wx h => blk_below h hBT hwb
    have HBl : Hid (∀ wx, Below b W3 wx → b ≤ wx.heap.size) := fun wx hl => Nat.le_trans (Nat.le_of_lt hb3.lt.1) hl.size
    have HWs : Hid (∀ wx l s, BdO wx b b l → Below b W3 wx → l.length + s.size ≤ 140737488355328 → Calls Tryz.prog 37 #[.pointer (some ⟨b, 0, none⟩), .string s] wx (fun e w' => e = .returned (.tuple #[.int .i64 s.size, .nilIface]) ∧ BdO w' b b (l ++ s.data.toList) ∧ Below b W3 w' ∧ KeepB b wx w')) := fun wx l s hb hl hs => (wstrK_c b b l s wx hb hs (Nat.le_of_lt hb.lt.1)).mono fun _ _ ⟨g1, g2, g3, g4⟩ => ⟨g1, g2, hl.trans g3, g4⟩
    have HAs : Hid (∀ wx l n v, BdO wx b b l → Below b W3 wx → -1125899906842624 ≤ v → v ≤ 1125899906842624 → l.length + n.size ≤ 100000000000000 → Calls Tryz.prog 38 #[.pointer (some ⟨b, 0, none⟩), .string n, .int .i64 v] wx (fun e w' => e = .returned (.tuple #[]) ∧ BdO w' b b (l ++ wAsg n v) ∧ Below b W3 w' ∧ KeepB b wx w')) := fun wx l n v hb hl h0 h1 hlen => (asgdK_c b b l n v wx (HE.out wx (HXo.out wx hl)) hb (Nat.le_of_lt hb.lt.1) h0 h1 hlen).mono fun _ _ ⟨g1, g2, g3, g4⟩ => ⟨g1, g2, hl.trans g3, g4⟩
    have HLn : Hid (∀ (p i : Nat) (x : Pr) (e : Ev) (wx : World), t[p]? = some x → x.evs[i]? = some e → Below b W3 wx → Calls Tryz.prog 39 #[.agg #[.slice A t.length c], .agg #[.int .i64 (p : Int), .int .i64 ((i : Int) + 1)]] wx (Ret wx (.string (bs (wEv t x.vars e))))) := fun p i x e wx hx he hl => line_c t A c p i x e wx (HE.out wx (HXo.out wx hl)) (HT.out.ex (HXo.out wx hl)) HSm.out hx he HF.out
    have HLT : Hid (∀ p, ((t.take p).flatMap (wF t)).length ≤ 800000000000) := fun p => wTr_len HF.out HSm.out p
    have HPS : Hid (∀ x ∈ t, PrS t x) := prS_all HF.out HSm.out
    have HB3 := Lib.hid hb3
    have x0 := hBT.cell 0
    have xl := hBT.lt
    have HN : Hid (∀ g, b < g → g ≠ b) := fun g h => by omega
    clear hBT hXw hB2 hX2 hX3 hb3 HW1 HX1 HB1 HV
    go_wp2_with fail
    go_loopg [16] t.length (fun gg v wx => ∃ p : Nat, v = .int .i64 (p : Int) ∧ p ≤ t.length ∧ t.length ≤ p + gg ∧ Hid (BdO wx b b ((t.take p).flatMap (wF t)) ∧ Below b W3 wx))
    case atStart => exact ⟨0, rfl, Nat.zero_le _, by omega, Lib.hid ⟨HB3.out, Below.refl _ _⟩⟩
    case round =>
      obtain ⟨p, rfl, hp, hpg, HH⟩ := hrel
      clear x0 xl
      by_cases hpl : p < t.length
      · obtain ⟨n9, rfl⟩ : ∃ n9, gk = n9 + 1 := ⟨gk - 1, by omega⟩
        obtain ⟨x, hx⟩ : ∃ x, t[p]? = some x := ⟨_, List.getElem?_eq_getElem hpl⟩
        obtain ⟨ba, oa, rfl, hba, V, vc, E, ec, g0, g1, g2, ⟨hV, -, -⟩, hEv⟩ := HT.out p x hx
        have hps := HPS.out x (List.mem_of_getElem? hx)
        have hsn := wF_snoc (t := t) hx
        have hlt := HLT.out p
        obtain ⟨sm1, sm2, sm3, -, -⟩ := HSm.out.each x (List.mem_of_getElem? hx)
        have x0 := (HBT.out wr HH.out.2).cell 0
        have xl := (HBT.out wr HH.out.2).lt
        have r0 := ((HXo.out wr HH.out.2).below.cell hba).trans g0
        have r1 := ((HXo.out wr HH.out.2).below.cell hba).trans g1
        have r2 := ((HXo.out wr HH.out.2).below.cell hba).trans g2
        have hba2 := Nat.lt_of_lt_of_le hba (HXo.out wr HH.out.2).below.size
        have m0 : (0 : Int) ≤ (p : Int) := by omega
        have m1 : (p : Int) < (t.length : Int) := by omega
        have HXx := Lib.hid hx
        have HRV : Hid (∀ wx, Below b W3 wx → Row wx V (varV x.vars)) := fun wx h => hV.ex (HXo.out wx h)
        have HSn := Lib.hid hsn
        have HPs := Lib.hid hps
        have hB6 := Blk.new wr 35 [.string x.name, .slice V x.vars.length vc, .slice E x.evs.length ec]
        have hX6 : Ex wr (wr.alloc (.cells #[.string x.name, .slice V x.vars.length vc, .slice E x.evs.length ec] 35)) := (Ex.refl wr).alloc _
        have HD6 := Lib.hid (HH.out.1.kept hX6)
        have HL6 := Lib.hid (HH.out.2.trans (hX6.below.mono (HBl.out wr HH.out.2)))
        have hgb : wr.heap.size ≠ b := by have := HH.out.1.lt.1; omega
        clear hx hV hEv g0 g1 g2 hps hsn hX6 hba
        go_upto_region 7 with fail
        obtain ⟨g, hg⟩ : ∃ g, g = wr.heap.size := ⟨_, rfl⟩
        rw [← hg] at hB6 hgb ⊢
        clear x0 xl r0 r1 r2 hba2 hg
        generalize wr.alloc (.cells #[.string x.name, .slice V x.vars.length vc, .slice E x.evs.length ec] 35) = W6 at *
        have HB6 := Lib.hid hB6
        have HGb := Lib.hid hgb
        have y0 := hB6.cell 0
        have yl := hB6.lt
        have hsa : (⟨#[112, 114, 111, 99, 101, 115, 115, 32]⟩ : ByteArray).size = 8 := rfl
        have hsb : (⟨#[10]⟩ : ByteArray).size = 1 := rfl
        clear hB6 hgb
        go_wp2_with fail
        refine (HWs.out _ _ _ HD6.out HL6.out (by simp only [ByteArray.size_append]; omega)).mono ?_
        rintro e9 w7 ⟨rfl, g1, g2, g3⟩
        have hw7 : (t.take p).flatMap (wF t) ++ ((⟨#[112, 114, 111, 99, 101, 115, 115, 32]⟩ : ByteArray) ++ x.name).data.toList = (t.take p).flatMap (wF t) ++ (wProcess ++ 32 :: (x.name.data.toList ++ wVars (x.vars.take 0))) := by simp [wProcess, wVars]
        rw [hw7] at g1
        have hB7 := g3 _ _ _ HB6.out (by decide) HGb.out
        have H7 := Lib.hid (And.intro g1 (And.intro g2 hB7))
        have y1 := hB7.cell 1
        have yl := hB7.lt
        clear g1 g2 g3 hw7 hB7 y0 HB6 HD6 HL6
        go_wp2_with fail
        go_loopg [28] x.vars.length (fun gg v wx => ∃ k : Nat, v = .int .i64 (k : Int) ∧ k ≤ x.vars.length ∧ x.vars.length ≤ k + gg ∧ Hid (BdO wx b b ((t.take p).flatMap (wF t) ++ (wProcess ++ 32 :: (x.name.data.toList ++ wVars (x.vars.take k)))) ∧ Below b W3 wx ∧ Blk wx g 35 [.string x.name, .slice V x.vars.length vc, .slice E x.evs.length ec]))
        case atStart => exact ⟨0, rfl, Nat.zero_le _, by omega, H7⟩
        case round =>
          obtain ⟨k, rfl, hk, hkg, HJ⟩ := hrel
          clear y1 yl H7
          by_cases hkl : k < x.vars.length
          · obtain ⟨n8, rfl⟩ : ∃ n8, gk = n8 + 1 := ⟨gk - 1, by omega⟩
            obtain ⟨v, hv⟩ : ∃ v, x.vars[k]? = some v := ⟨_, List.getElem?_eq_getElem hkl⟩
            have hvs := HPs.out.pr.vars v (List.mem_of_getElem? hv)
            obtain ⟨bv, ov, rfl, hbv, v0, v1⟩ := (HRV.out wr HJ.out.2.1).var hv
            have hsv := wVars_snoc hv
            have hvl := nameB_size hvs.1
            have hwl := wVars_len (x.vars.take k) fun u hu => HPs.out.pr.vars u (List.mem_of_mem_take hu)
            have htk : (x.vars.take k).length ≤ 100000 := by rw [List.length_take]; omega
            have hpn := nameB_size HPs.out.pr.nm
            have hnd : x.name.data.toList.length = x.name.size := by simp
            have hpr7 : wProcess.length = 7 := rfl
            have HVs := Lib.hid hvs.2
            have HSv := Lib.hid hsv
            have y1 := HJ.out.2.2.cell 1
            have yl := HJ.out.2.2.lt
            have k0 : (0 : Int) ≤ (k : Int) := by omega
            have k1 : (k : Int) < (x.vars.length : Int) := by omega
            clear hv hvs hsv
            obtain ⟨vn, vv⟩ := v
            dsimp only at *
            go_wp2_with fail
            refine (HAs.out _ _ _ _ (HJ.out.1.kept ((Ex.refl _).alloc _)) (HJ.out.2.1.alloc (HBl.out _ HJ.out.2.1) _) HVs.out.1 HVs.out.2 (by simp only [List.length_append, List.length_cons]; omega)).mono ?_
            rintro e9 w8 ⟨rfl, g1, g2, g3⟩
            have hw8 : (t.take p).flatMap (wF t) ++ (wProcess ++ 32 :: (x.name.data.toList ++ wVars (x.vars.take k))) ++ wAsg vn vv = (t.take p).flatMap (wF t) ++ (wProcess ++ 32 :: (x.name.data.toList ++ wVars (x.vars.take (k + 1)))) := by rw [HSv.out]; simp only [List.append_assoc, List.cons_append]
            rw [hw8] at g1
            have hB8 := g3 _ _ _ (Blk.ex HJ.out.2.2 ((Ex.refl _).alloc _)) (by decide) HGb.out
            have H8 := Lib.hid (And.intro g1 (And.intro g2 hB8))
            clear g1 g2 g3 hw8 hB8
            go_wp2_with fail
            go_roundg n8
            case measure => omega
            case rel => exact ⟨k + 1, by go_num, by omega, by omega, H8⟩
          · obtain rfl : k = x.vars.length := by omega
            have k1 : decide ((x.vars.length : Int) < (x.vars.length : Int)) = false := decide_eq_false (by omega)
            have hwl := wPr_len HPs.out.pr HPs.out.vars
            have hJ1 := HJ.out.1
            rw [List.take_length] at hJ1
            have hwp : wProcess ++ 32 :: (x.name.data.toList ++ wVars x.vars) = wPr x := rfl
            rw [hwp] at hJ1
            have HJ1 := Lib.hid (And.intro hJ1 HJ.out.2)
            clear hJ1 hwp HJ
            go_wp2_with fail
            refine (HWs.out _ _ _ HJ1.out.1 HJ1.out.2.1 (by simp only [List.length_append]; omega)).mono ?_
            rintro e9 w8 ⟨rfl, g1, g2, g3⟩
            have hw8 : (t.take p).flatMap (wF t) ++ wPr x ++ (⟨#[10]⟩ : ByteArray).data.toList = (t.take p).flatMap (wF t) ++ (wPr x ++ 10 :: wEvs t x.vars (x.evs.take 0)) := by simp [wEvs]
            rw [hw8] at g1
            have hB8 := g3 _ _ _ HJ1.out.2.2 (by decide) HGb.out
            have H8 := Lib.hid (And.intro g1 (And.intro g2 hB8))
            have y2 := hB8.cell 2
            have yl := hB8.lt
            clear g1 g2 g3 hw8 hB8 HJ1
            go_wp2_with fail
            go_loopg [42] x.evs.length (fun gg v wx => ∃ i : Nat, v = .int .i64 (i : Int) ∧ i ≤ x.evs.length ∧ x.evs.length ≤ i + gg ∧ Hid (BdO wx b b ((t.take p).flatMap (wF t) ++ (wPr x ++ 10 :: wEvs t x.vars (x.evs.take i))) ∧ Below b W3 wx))
            case atStart => exact ⟨0, rfl, Nat.zero_le _, by omega, Lib.hid ⟨H8.out.1, H8.out.2.1⟩⟩
            case round =>
              obtain ⟨i, rfl, hi, hig, HK⟩ := hrel
              clear y2 yl H8
              by_cases hil : i < x.evs.length
              · obtain ⟨n7, rfl⟩ : ∃ n7, gk = n7 + 1 := ⟨gk - 1, by omega⟩
                obtain ⟨e, he⟩ : ∃ e, x.evs[i]? = some e := ⟨_, List.getElem?_eq_getElem hil⟩
                have hee := HPs.out.ev e (List.mem_of_getElem? he)
                have hsl := wEvs_snoc (t := t) (vars := x.vars) he
                have hel := wEv_len hee.1 hee.2
                have hesl := wEvs_len (t := t) (vars := x.vars) (x.evs.take i) fun u hu => HPs.out.ev u (List.mem_of_mem_take hu)
                have htk : (x.evs.take i).length ≤ 100000 := by rw [List.length_take]; omega
                have HSl := Lib.hid hsl
                have HLl := Lib.hid (HLn.out p i x e wr HXx.out he HK.out.2)
                have x0 := (HBT.out wr HK.out.2).cell 0
                have xl := (HBT.out wr HK.out.2).lt
                have j1 : IntKind.i64.wrap ((i : Int) + 1) = (i : Int) + 1 := IntWalk.i64_in _ (by omega)
                have i1 : (i : Int) < (x.evs.length : Int) := by omega
                have hbe : (bs (wEv t x.vars e)).size = (wEv t x.vars e).length := rfl
                have hsc : (⟨#[32, 32]⟩ : ByteArray).size = 2 := rfl
                have z1 : ¬ 9223372036854775807 < 2 + (wEv t x.vars e).length := by omega
                have z2 : ¬ 9223372036854775807 < 2 + (wEv t x.vars e).length + 1 := by omega
                clear he hee hsl
                go_wp2_with fail
                refine (HLl.out).mono ?_
                rintro e9 w9 ⟨rfl, hx9⟩
                have HK9 := Lib.hid (And.intro (HK.out.1.kept hx9) (HK.out.2.trans (hx9.below.mono (HBl.out _ HK.out.2))))
                clear hx9 x0 xl
                go_wp2_with fail
                refine (HWs.out _ _ _ HK9.out.1 HK9.out.2 (by simp only [List.length_append, List.length_cons, ByteArray.size_append]; omega)).mono ?_
                rintro e9 w10 ⟨rfl, g1, g2, -⟩
                have hw10 : (t.take p).flatMap (wF t) ++ (wPr x ++ 10 :: wEvs t x.vars (x.evs.take i)) ++ ((⟨#[32, 32]⟩ : ByteArray) ++ bs (wEv t x.vars e) ++ (⟨#[10]⟩ : ByteArray)).data.toList = (t.take p).flatMap (wF t) ++ (wPr x ++ 10 :: wEvs t x.vars (x.evs.take (i + 1))) := by rw [HSl.out]; simp
                rw [hw10] at g1
                have HK10 := Lib.hid (And.intro g1 g2)
                clear g1 g2 hw10
                go_wp2_with fail
                go_roundg n7
                case measure => omega
                case rel => exact ⟨i + 1, by go_num, by omega, by omega, HK10⟩
              · obtain rfl : i = x.evs.length := by omega
                have i1 : decide ((x.evs.length : Int) < (x.evs.length : Int)) = false := decide_eq_false (by omega)
                have h9 := HK.out.1
                rw [List.take_length] at h9
                have hF : wPr x ++ 10 :: wEvs t x.vars x.evs = wF t x := rfl
                rw [hF, ← HSn.out] at h9
                have HK9 := Lib.hid (And.intro h9 HK.out.2)
                clear h9 hF
                go_wp2_with fail
                go_roundg n9
                case measure => omega
                case rel => exact ⟨p + 1, by go_num, by omega, by omega, HK9⟩
      · obtain rfl : p = t.length := by omega
        have m1 : decide ((t.length : Int) < (t.length : Int)) = false := decide_eq_false (by omega)
        have h9 := HH.out.1
        have hlt := HLT.out t.length
        rw [List.take_length, ← wTr_F] at h9 hlt
        have HH9 := Lib.hid (And.intro h9 HH.out.2)
        have hbl := Lib.byteCells_length (wTr t)
        clear h9
        go_wp2_with fail
        refine (Tryz.Builder_Len_f b b (Lib.byteCells (wTr t)) _ (Lib.IsBuilderF.of HH9.out.1)).mono ?_
        rintro e9 w8 ⟨rfl, rfl⟩
        rw [hbl]
        by_cases hbig : 16384 < (wTr t).length
        · have b1 : decide ((16384 : Int) < ((wTr t).length : Int)) = true := decide_eq_true (by omega)
          have hR := HR3.out hbig
          subst hR
          clear hbig hbl HR3 HR4
          go_wp2_with fail
          go_ret2
          exact Ret.mk rfl (HXo.out _ HH9.out.2)
        · have b1 : decide ((16384 : Int) < ((wTr t).length : Int)) = false := decide_eq_false (by omega)
          have hR := HR4.out hbig
          subst hR
          clear hbig hbl HR3 HR4
          go_wp2_with fail
          refine (Tryz.Builder_String_any_f b b (wTr t) _ (Lib.IsBuilderF.of HH9.out.1) (HBl.out _ HH9.out.2)).mono ?_
          rintro e9 w9 ⟨rfl, -, g2⟩
          have HX9 := Lib.hid (HXo.out _ (HH9.out.2.trans g2))
          clear g2
          go_wp2_with fail
          go_ret2
          exact Ret.mk rfl HX9.out
end
section
open Go.RowKit Nu
def knownB (t : List Pr) (p i : Int) : Bool := decide (0 ≤ p) && (decide (p < (t.length : Int)) && (decide (1 ≤ i) && decide (i ≤ (evN t p.toNat : Int))))
noncomputable def checkE (t : List Pr) (p i : Int) : Int := if validB t = true then (if knownB t p i = true then 0 else 2) else 1
set_option maxRecDepth 100000 in
set_option maxHeartbeats 3200000 in
theorem check_c (t : List Pr) (A : Option Addr) (c : Nat) (p i : Int) (w : World) (hT : TcC w A t) (hs : TSm t) (hcap : t.length ≤ c) :
    Calls Tryz.prog 43 #[.agg #[.slice A t.length c], .agg #[.int .i64 p, .int .i64 i]] w (Ret w (.int .i64 (checkE t p i))) := by
  have HT := Lib.hid hT
  have htl := hs.procs
  have HV := Lib.hid (fun w' (h : Ex w w') => pValid_c t A c w' (hT.ex h) hs hcap)
  have HSm := Lib.hid hs
  obtain ⟨W1, hW1⟩ : ∃ W1, W1 = (w.alloc (.cells #[.slice A t.length c] 24)).alloc (.cells #[.int .i64 p, .int .i64 i] 40) := ⟨_, rfl⟩
  have hX1 : Ex w W1 := by rw [hW1]; exact ((Ex.refl w).alloc _).alloc _
  have hz1 : ∀ o : Obj, (w.alloc o).heap.size = w.heap.size + 1 := fun o => Array.size_push _
  have hB1 : Blk W1 w.heap.size 24 [.slice A t.length c] := by rw [hW1]; exact (Blk.new w _ _).alloc _
  have hB2 : Blk W1 (w.heap.size + 1) 40 [.int .i64 p, .int .i64 i] := by rw [hW1, ← hz1]; exact Blk.new _ _ _
  have HW1 := Lib.hid hW1
  have HX1 := Lib.hid hX1
  have HB1 := Lib.hid hB1
  have HB2 := Lib.hid hB2
  have x0 := hB1.cell 0
  have xl := hB1.lt
  have HR0 : Hid (validB t = false → checkE t p i = 1) := fun h => by unfold checkE; rw [if_neg (by rw [h]; decide)]
  have HR1 : Hid (validB t = true → knownB t p i = true → checkE t p i = 0) := fun h h2 => by unfold checkE; rw [if_pos h, if_pos h2]
  have HR2 : Hid (validB t = true → knownB t p i = false → checkE t p i = 2) := fun h h2 => by unfold checkE; rw [if_pos h, if_neg (by rw [h2]; decide)]
  generalize checkE t p i = R at *
  clear hT hs hcap hW1 hX1 hB1 hB2 hz1
  go_enter Tryz.func43, Tryz.ntmps43
  go_upto_region 1 with fail
  rw [← HW1.out]
  go_wp2_with fail
  refine (HV.out _ HX1.out).mono ?_
  rintro e9 w2 ⟨rfl, hx⟩
  have HX2 := Lib.hid (HX1.out.trans hx)
  have y0 := (HB1.out.ex hx).cell 0
  have y1 := (HB2.out.ex hx).cell 0
  have y2 := (HB2.out.ex hx).cell 1
  have yl := (HB1.out.ex hx).lt
  have yk := (HB2.out.ex hx).lt
  clear hx x0 xl HV
  cases hv : validB t with
  | false =>
    have hR := HR0.out hv
    subst hR
    clear hv HR0 HR1 HR2
    go_wp2_with fail
    go_ret
    exact Ret.mk rfl HX2.out
  | true =>
    have HR3 := Lib.hid (HR1.out hv)
    have HR4 := Lib.hid (HR2.out hv)
    clear hv HR0 HR1 HR2
    go_upto_region 3 with fail
    by_cases h1 : p < 0
    · have hR := HR4.out (by unfold knownB; rw [decide_eq_false (show ¬ 0 ≤ p by omega)]; rfl)
      subst hR
      refine wp_region_ext (by kernel_rfl) (by kernel_rfl) ?_
      repeat (go_big_quiet_step (fail))
      refine wpQuiet_end (fun z2 => ?_)
      go_wp2_with fail
      go_ret
      exact Ret.mk rfl (HX2.out.ext z2)
    by_cases h2 : (t.length : Int) ≤ p
    · have hR := HR4.out (by unfold knownB; rw [decide_eq_false (show ¬ p < (t.length : Int) by omega)]; simp)
      subst hR
      refine wp_region_ext (by kernel_rfl) (by kernel_rfl) ?_
      repeat (go_big_quiet_step (fail))
      refine wpQuiet_end (fun z2 => ?_)
      go_wp2_with fail
      go_ret
      exact Ret.mk rfl (HX2.out.ext z2)
    by_cases h3 : i < 1
    · have hR := HR4.out (by unfold knownB; rw [decide_eq_false (show ¬ 1 ≤ i by omega)]; simp)
      subst hR
      refine wp_region_ext (by kernel_rfl) (by kernel_rfl) ?_
      repeat (go_big_quiet_step (fail))
      refine wpQuiet_end (fun z2 => ?_)
      go_wp2_with fail
      go_ret
      exact Ret.mk rfl (HX2.out.ext z2)
    obtain ⟨q, rfl⟩ : ∃ q : Nat, p = (q : Int) := ⟨p.toNat, by omega⟩
    obtain ⟨x, hx⟩ : ∃ x, t[q]? = some x := ⟨_, List.getElem?_eq_getElem (show q < t.length by omega)⟩
    have hen : evN t (q : Int).toNat = x.evs.length := by rw [Int.toNat_natCast]; unfold evN; rw [hx]
    obtain ⟨b, o, hA, hbl, V, vc, E, ec, g0, g1, g2, -, -⟩ := HT.out.ex HX2.out q x hx
    subst hA
    have m0 : (0 : Int) ≤ (q : Int) := by omega
    have m1 : (q : Int) < (t.length : Int) := by omega
    by_cases h4 : (x.evs.length : Int) < i
    · have hR := HR4.out (by unfold knownB; rw [hen, decide_eq_false (show ¬ i ≤ (x.evs.length : Int) by omega)]; simp)
      subst hR
      clear hx hen
      refine wp_region_ext (by kernel_rfl) (by kernel_rfl) ?_
      repeat (go_big_quiet_step (fail))
      refine wpQuiet_end (fun z2 => ?_)
      go_wp2_with fail
      go_ret
      exact Ret.mk rfl (HX2.out.ext z2)
    · have hR := HR3.out (by unfold knownB; rw [hen, decide_eq_true (show i ≤ (x.evs.length : Int) by omega), decide_eq_true m0, decide_eq_true m1, decide_eq_true (show 1 ≤ i by omega)]; rfl)
      subst hR
      clear hx hen
      refine wp_region_ext (by kernel_rfl) (by kernel_rfl) ?_
      repeat (go_big_quiet_step (fail))
      refine wpQuiet_end (fun z2 => ?_)
      go_wp2_with fail
      go_ret
      exact Ret.mk rfl (HX2.out.ext z2)
def nameS (t : List Pr) (p i : Int) : List UInt8 := nmOf t p ++ 46 :: Lib.itoa i
noncomputable def nameV (t : List Pr) (p i : Int) : Value := if checkE t p i = 0 then .tuple #[.string (bs (nameS t p i)), .int .i64 0] else .tuple #[.string ⟨#[]⟩, .int .i64 (checkE t p i)]
theorem check_ok {t : List Pr} {p i : Int} (h : checkE t p i = 0) : validB t = true ∧ ∃ q x, p = ((q : Nat) : Int) ∧ t[q]? = some x ∧ 1 ≤ i ∧ i ≤ (x.evs.length : Int) := by
  unfold checkE at h
  split at h
  · rename_i hv
    split at h
    · rename_i hk
      unfold knownB at hk
      simp only [Bool.and_eq_true, decide_eq_true_eq] at hk
      obtain ⟨h1, h2, h3, h4⟩ := hk
      obtain ⟨q, rfl⟩ : ∃ q : Nat, p = (q : Int) := ⟨p.toNat, by omega⟩
      obtain ⟨x, hx⟩ : ∃ x, t[q]? = some x := ⟨_, List.getElem?_eq_getElem (show q < t.length by omega)⟩
      refine ⟨hv, q, x, rfl, hx, h3, ?_⟩
      rw [Int.toNat_natCast] at h4
      unfold evN at h4
      rw [hx] at h4
      exact h4
    · cases h
  · cases h
set_option maxRecDepth 100000 in
set_option maxHeartbeats 3200000 in
theorem name2_c (t : List Pr) (A : Option Addr) (c : Nat) (p i : Int) (w : World) (hE : Env w) (hT : TcC w A t) (hs : TSm t) (hcap : t.length ≤ c) :
    Calls Tryz.prog 16 #[.agg #[.slice A t.length c], .agg #[.int .i64 p, .int .i64 i]] w (Ret w (nameV t p i)) := by
  have HE : Hid (∀ w', Ex w w' → Env w') := fun w' h => hE.ex h
  have HT := Lib.hid hT
  have htl := hs.procs
  have HC := Lib.hid (fun w' (h : Ex w w') => check_c t A c p i w' (hT.ex h) hs hcap)
  have HSm := Lib.hid hs
  obtain ⟨W1, hW1⟩ : ∃ W1, W1 = (w.alloc (.cells #[.slice A t.length c] 24)).alloc (.cells #[.int .i64 p, .int .i64 i] 40) := ⟨_, rfl⟩
  have hX1 : Ex w W1 := by rw [hW1]; exact ((Ex.refl w).alloc _).alloc _
  have hz1 : ∀ o : Obj, (w.alloc o).heap.size = w.heap.size + 1 := fun o => Array.size_push _
  have hB1 : Blk W1 w.heap.size 24 [.slice A t.length c] := by rw [hW1]; exact (Blk.new w _ _).alloc _
  have hB2 : Blk W1 (w.heap.size + 1) 40 [.int .i64 p, .int .i64 i] := by rw [hW1, ← hz1]; exact Blk.new _ _ _
  have HW1 := Lib.hid hW1
  have HX1 := Lib.hid hX1
  have HB1 := Lib.hid hB1
  have HB2 := Lib.hid hB2
  have x0 := hB1.cell 0
  have x1 := hB2.cell 0
  have x2 := hB2.cell 1
  have xl := hB1.lt
  have xk := hB2.lt
  have HR0 : Hid (checkE t p i = 0 → nameV t p i = .tuple #[.string (bs (nameS t p i)), .int .i64 0]) := fun h => by unfold nameV; rw [if_pos h]
  have HR1 : Hid (checkE t p i ≠ 0 → nameV t p i = .tuple #[.string ⟨#[]⟩, .int .i64 (checkE t p i)]) := fun h => by unfold nameV; rw [if_neg h]
  generalize nameV t p i = R at *
  clear hE hT hs hcap hW1 hX1 hB1 hB2 hz1
  by_cases hc : checkE t p i = 0
  · obtain ⟨hv, q, x, rfl, hx, h1, h2⟩ := check_ok hc
    rw [hc] at HC
    have hR := HR0.out hc
    have sm := HSm.out.each x (List.mem_of_getElem? hx)
    have hln := Lib.itoa_length_le i (by omega) (by omega)
    have hnm : nmOf t (q : Int) = x.name.data.toList := by unfold nmOf; rw [Int.toNat_natCast, hx]; rfl
    have hS : bs (nameS t (q : Int) i) = x.name ++ (⟨#[46]⟩ : ByteArray) ++ bs (Lib.itoa i) := by
      have h1 : (x.name ++ (⟨#[46]⟩ : ByteArray) ++ bs (Lib.itoa i)).data.toList = nameS t (q : Int) i := by
        unfold nameS
        rw [hnm]
        simp
      rw [← h1]
    rw [hS] at hR
    subst hR
    have HIt := Lib.hid (fun w' (h : Ex w w') => itoa_c i w' (HE.out w' h) (by omega) (by omega))
    have hbi : (bs (Lib.itoa i)).size = (Lib.itoa i).length := rfl
    have z1 : ¬ 9223372036854775807 < x.name.size + 1 := by omega
    have z2 : ¬ 9223372036854775807 < x.name.size + 1 + (Lib.itoa i).length := by omega
    obtain ⟨b, o, hA, hbl, V, vc, E, ec, g0, -, -, -, -⟩ := HT.out q x hx
    subst hA
    have m0 : (0 : Int) ≤ (q : Int) := by omega
    have m1 : (q : Int) < (t.length : Int) := by have := (List.getElem?_eq_some_iff.1 hx).1; omega
    have HG0 : Hid (∀ w', Ex w w' → w'.cell? ⟨b, o + q * 3, none⟩ = some (.string x.name)) := fun w' h => (h.below.cell hbl).trans g0
    clear hc hx hv hS hnm HR0 HR1 g0 hbl
    go_enter Tryz.func16, Tryz.ntmps16
    go_upto_region 1 with fail
    rw [← HW1.out]
    go_wp2_with fail
    refine (HC.out _ HX1.out).mono ?_
    rintro e9 w2 ⟨rfl, hx⟩
    have HX2 := Lib.hid (HX1.out.trans hx)
    have HY2 := Lib.hid hx
    have y0 := (HB1.out.ex hx).cell 0
    have y1 := (HB2.out.ex hx).cell 0
    have y2 := (HB2.out.ex hx).cell 1
    have y3 := HG0.out w2 HX2.out
    clear hx x0 x1 x2 xl xk
    go_upto_region 4 with fail
    go_region_held3 (fun (w' : World) => w'.cell? ⟨w.heap.size, 0, none⟩ = some (.slice (some ⟨b, o, none⟩) t.length c) ∧ w'.cell? ⟨w.heap.size + 1, 0, none⟩ = some (.int .i64 (q : Int)) ∧ w'.cell? ⟨w.heap.size + 1, 1, none⟩ = some (.int .i64 i) ∧ w'.cell? ⟨b, o + q * 3, none⟩ = some (.string x.name))
      (first | exact ⟨y0, y1, y2, y3⟩ | exact ⟨d0, d1, d2, d3⟩ | go_keep)
      (first
        | (go_at_call 44; refine (HIt.out _ (by first | exact HX2.out | exact HX2.out.drew | exact HX2.out.drew.drew)).mono ?_; rintro e9 w3 ⟨rfl, hx3⟩; have HX3 := Lib.hid (Ex.trans (by first | exact Ex.refl w2 | exact (Ex.refl w2).drew | exact (Ex.refl w2).drew.drew) hx3); have d0 := (HB1.out.ex (HY2.out.trans HX3.out)).cell 0; have d1 := (HB2.out.ex (HY2.out.trans HX3.out)).cell 0; have d2 := (HB2.out.ex (HY2.out.trans HX3.out)).cell 1; have d3 := HG0.out w3 (HX2.out.trans HX3.out); clear hx3))
    try go_wp2_with fail
    go_ret2
    exact Ret.mk rfl (by first | exact HX2.out.trans HX3.out | exact (HX2.out.trans HX3.out).drew)
  · have hR := HR1.out hc
    subst hR
    have c0 : (checkE t p i != 0) = true := bne_iff_ne.2 hc
    have c1 : (checkE t p i == 0) = false := beq_eq_false_iff_ne.2 hc
    generalize checkE t p i = ce at *
    clear hc HR0 HR1
    go_enter Tryz.func16, Tryz.ntmps16
    go_upto_region 1 with fail
    rw [← HW1.out]
    go_wp2_with fail
    refine (HC.out _ HX1.out).mono ?_
    rintro e9 w2 ⟨rfl, hx⟩
    have HX2 := Lib.hid (HX1.out.trans hx)
    clear hx x0 x1 x2 xl xk
    go_wp2_with fail
    go_ret2
    exact Ret.mk rfl HX2.out
end
end Go.Proofs.YtpmponafjhnegaaGreatDoor
