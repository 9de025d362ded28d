/-
  Plain laws for Parts: the lines of a text, the event of a line, the event of a name. The law Parts, walked.
  Conditions: as each theorem says.
-/
import Derived.Test.YtpmponafjhnegaaGreatDoorWq
import Derived.Test.YtpmponafjhnegaaGreatDoorWl
namespace Go.Proofs.YtpmponafjhnegaaGreatDoor
section
open Nu
theorem trLn_at {t : List Pr} : ∀ {l : List Pr} {p : Nat} {x : Pr} {i : Nat} {e : Ev}, l[p]? = some x → x.evs[i]? = some e → (trLn t l)[p + sumN (l.take p) + 1 + i]? = some (evLn t x.vars e)
  | [], p, x, i, e, h, _ => by simp at h
  | y :: l, 0, x, i, e, h, he => by
    cases h
    have h1 : trLn t (y :: l) = prLn t y ++ trLn t l := rfl
    have hi := (List.getElem?_eq_some_iff.1 he).1
    have hlen : (prLn t y).length = y.evs.length + 1 := by unfold prLn; simp
    have h0 : 0 + sumN (List.take 0 (y :: l)) + 1 + i = i + 1 := by simp [sumN]; omega
    rw [h1, h0, List.getElem?_append_left (by omega)]
    unfold prLn
    rw [List.getElem?_cons_succ, List.getElem?_map, he]
    rfl
  | y :: l, p + 1, x, i, e, h, he => by
    have ih := trLn_at (t := t) (l := l) (p := p) (x := x) (i := i) (e := e) (by simpa using h) he
    have h1 : trLn t (y :: l) = prLn t y ++ trLn t l := rfl
    have hlen : (prLn t y).length = y.evs.length + 1 := by unfold prLn; simp
    have h2 : sumN (List.take (p + 1) (y :: l)) = y.evs.length + sumN (l.take p) := by rw [List.take_succ_cons]; rfl
    rw [h1, h2, List.getElem?_append_right (by omega), hlen]
    rw [show p + 1 + (y.evs.length + sumN (l.take p)) + 1 + i - (y.evs.length + 1) = p + sumN (l.take p) + 1 + i by omega]
    exact ih
theorem line_len {ls : List (List UInt8)} : ∀ {l : List UInt8}, l ∈ ls → l.length ≤ (ls.flatMap fun l => l ++ [10]).length := fun {l} h => by
  induction ls with
  | nil => exact absurd h List.not_mem_nil
  | cons y ls ih =>
    rw [List.flatMap_cons, List.length_append, List.length_append]
    rcases List.mem_cons.1 h with rfl | h
    · omega
    · have := ih h
      omega
theorem check_at {t : List Pr} (hf : (faultO t).2 = 0) {p i : Nat} {x : Pr} {e : Ev} (hx : t[p]? = some x) (he : x.evs[i]? = some e) : checkE t (p : Int) ((i : Int) + 1) = 0 := by
  have hi := (List.getElem?_eq_some_iff.1 he).1
  have hp := (List.getElem?_eq_some_iff.1 hx).1
  unfold checkE
  rw [if_pos (by unfold validB; exact decide_eq_true hf), if_pos]
  unfold knownB
  have hen : evN t (p : Int).toNat = x.evs.length := by rw [Int.toNat_natCast]; unfold evN; rw [hx]
  rw [hen]
  simp only [Bool.and_eq_true, decide_eq_true_eq]
  omega
theorem lineV_at {t : List Pr} (hf : (faultO t).2 = 0) {p i : Nat} {x : Pr} {e : Ev} (hx : t[p]? = some x) (he : x.evs[i]? = some e) : lineV t (p : Int) ((i : Int) + 1) = .tuple #[.string (bs (wEv t x.vars e)), .int .i64 0] := by
  have h1 : lnOf t (p : Int) ((i : Int) + 1) = wEv t x.vars e := by
    have e1 : ((i : Int) + 1).toNat - 1 = i := by omega
    unfold lnOf
    rw [Int.toNat_natCast, hx, e1]
    show ((x.evs[i]?).map (wEv t x.vars)).getD [] = _
    rw [he]
    rfl
  unfold lineV
  rw [if_pos (check_at hf hx he), h1]
theorem nameV_at {t : List Pr} (hf : (faultO t).2 = 0) {p i : Nat} {x : Pr} {e : Ev} (hx : t[p]? = some x) (he : x.evs[i]? = some e) : nameV t (p : Int) ((i : Int) + 1) = .tuple #[.string (bs (x.name.data.toList ++ 46 :: Lib.itoa ((i : Int) + 1))), .int .i64 0] := by
  have h1 : nameS t (p : Int) ((i : Int) + 1) = x.name.data.toList ++ 46 :: Lib.itoa ((i : Int) + 1) := by
    unfold nameS nmOf
    rw [Int.toNat_natCast, hx]
    rfl
  unfold nameV
  rw [if_pos (check_at hf hx he), h1]
theorem wEv_short {t : List Pr} (hl : (wTr t).length ≤ 16384) {p i : Nat} {x : Pr} {e : Ev} (hx : t[p]? = some x) (he : x.evs[i]? = some e) : (wEv t x.vars e).length ≤ 16384 := by
  have h1 := List.mem_of_getElem? (trLn_at (t := t) hx he)
  have h2 := line_len h1
  rw [← wTr_lines] at h2
  unfold evLn at h2
  simp only [List.length_cons] at h2
  omega
theorem pev_at {t : List Pr} (hf : (faultO t).2 = 0) (hl : (wTr t).length ≤ 16384) {p i : Nat} {x : Pr} {e : Ev} (hx : t[p]? = some x) (he : x.evs[i]? = some e) : pevV t (p : Int) (wEv t x.vars e) = (e, 0) := by
  have hp := (List.getElem?_eq_some_iff.1 hx).1
  obtain ⟨hw, h1, h2⟩ := good_ev hf hx he
  have hr := resE_w hf hx he 1
  unfold pevV
  rw [if_pos (by unfold validB; exact decide_eq_true hf), if_neg (by omega), if_neg (by have := wEv_short hl hx he; omega), Int.toNat_natCast, hx]
  show pevO t x (wEv t x.vars e) = _
  unfold pevO
  rw [evL_w hw 1]
  dsimp only
  unfold reW resE at hr
  by_cases hk : e.kind = 1
  · have hS : esOf t e 1 = ⟨4, 1, bs [], 0, 0, e.time, e.asg⟩ := by unfold esOf; rw [if_pos hk]
    rw [hS, if_pos rfl]
    obtain ⟨k1, k2⟩ := h1 hk
    obtain ⟨ek, ep, em, et, ea⟩ := e
    dsimp only at hk k1 k2
    subst hk k1 k2
    rfl
  · have hS : esOf t e 1 = ⟨4, e.kind, bs (nmOf t e.peer), 1 + (kw e.kind).length + 1, e.msg, e.time, e.asg⟩ := by unfold esOf; rw [if_neg hk]
    have hnm := name_pos (hw.nm hk)
    rw [hS, if_neg hk]
    obtain ⟨k1, y, hy⟩ := h2 hk
    have hn : bs (nmOf t e.peer) = y.name := by unfold nmOf; rw [hy]; exact str_data rfl
    have hix : pIdx y.name (t.map (·.name)) = some e.peer.toNat := by
      have hyl := (List.getElem?_eq_some_iff.1 hy).1
      refine pIdx_of (by rw [List.getElem?_map, hy]; rfl) fun j u hj hu => ?_
      rw [List.getElem?_map] at hu
      cases hq : t[j]? with
      | none => rw [hq] at hu; cases hu
      | some z =>
        rw [hq] at hu
        cases hu
        exact (good_head (fault_zero hf).2.1 hy).2.1 j z hj hq
    rw [hn, hix]
    obtain ⟨ek, ep, em, et, ea⟩ := e
    dsimp only at *
    show ((⟨ek, ((ep.toNat : Nat) : Int), em, et, ea⟩ : Ev), (0 : Int)) = _
    rw [Int.toNat_of_nonneg k1]
theorem pn_at {t : List Pr} (hf : (faultO t).2 = 0) {p i : Nat} {x : Pr} {e : Ev} (hx : t[p]? = some x) (he : x.evs[i]? = some e) : pnV t (x.name.data.toList ++ 46 :: Lib.itoa ((i : Int) + 1)) = ((p : Int), (i : Int) + 1, 0) := by
  have hi := (List.getElem?_eq_some_iff.1 he).1
  have hts := valid_tsm hf
  have hsz := (hts.each x (List.mem_of_getElem? hx)).2.2.1
  obtain ⟨hPr, hd, -⟩ := good_head (fault_zero hf).2.1 hx
  have hcut : cutG 46 (x.name.data.toList ++ 46 :: Lib.itoa ((i : Int) + 1)) = (x.name.data.toList, Lib.itoa ((i : Int) + 1), true) := by
    unfold cutG
    rw [cutC_app _ (name_no hPr.nm (.inl (by decide)))]
  obtain ⟨g1, g2⟩ := par_itoa ((i : Int) + 1) (by omega)
  have hpre : Lib.hasPrefix (Lib.itoa ((i : Int) + 1)) [45] = false := by
    have hnn : ∀ n : Nat, 1 ≤ n → (45 : UInt8) ∉ Lib.itoa (n : Int) := fun n _ => by
      rw [Lib.itoa_nonneg]
      intro hm
      have := List.all_eq_true.1 (dec_dig n) 45 hm
      revert this
      decide
    have h1 := hnn (i + 1) (by omega)
    have h2 : (((i + 1 : Nat) : Int)) = (i : Int) + 1 := rfl
    rw [h2] at h1
    unfold Lib.hasPrefix
    cases hq : Lib.itoa ((i : Int) + 1) with
    | nil => rfl
    | cons u v =>
      rw [hq] at h1
      simp only [List.mem_cons, not_or] at h1
      simp only [List.isPrefixOf, Bool.and_true]
      exact beq_eq_false_iff_ne.2 h1.1
  have hix : pIdx (bs x.name.data.toList) (t.map (·.name)) = some p := by
    have hn : bs x.name.data.toList = x.name := str_data rfl
    rw [hn]
    refine pIdx_of (by rw [List.getElem?_map, hx]; rfl) fun j u hj hu => ?_
    rw [List.getElem?_map] at hu
    cases hq : t[j]? with
    | none => rw [hq] at hu; cases hu
    | some z =>
      rw [hq] at hu
      cases hu
      exact hd j z hj hq
  have hnb : nameB (bs x.name.data.toList) = true := by
    have hn : bs x.name.data.toList = x.name := str_data rfl
    rw [hn]
    exact hPr.nm
  have hen : evN t p = x.evs.length := by unfold evN; rw [hx]
  unfold pnV
  rw [if_pos (by unfold validB; exact decide_eq_true hf)]
  unfold pnO
  rw [hcut]
  dsimp only
  rw [if_neg (by rw [hnb, g2, hpre]; simp), hix]
  dsimp only
  rw [if_neg (by rw [g1, g2, hen]; omega), g1]
end
section
open Go.RowKit Nu
theorem strV_at {ls : List (List UInt8)} {k : Nat} {l : List UInt8} (h : ls[k]? = some l) : (strV ls)[k]? = some (.string (bs l)) := by
  unfold strV
  rw [List.getElem?_map, h]
  rfl
theorem bs_cat9 (a b : List UInt8) : bs a ++ bs b = bs (a ++ b) := by
  apply ByteArray.ext
  simp
set_option maxRecDepth 100000 in
set_option maxHeartbeats 12800000 in
theorem parts_law (t : List Pr) (A : Option Addr) (c : Nat) (w : World) (hE : Env w) (hT : TcC w A t) (hcap : t.length ≤ c) (htl : t.length ≤ 281474976710656) (hbig : ∀ x, x ∈ t → x.evs.length ≤ 281474976710656) :
    Calls Tryz.prog 3 #[.agg #[.slice A t.length c]] w (Ret w (.bool true)) := by
  have HE : Hid (∀ w', Ex w w' → Env w') := fun w' h => hE.ex h
  have HT : Hid (∀ w', Ex w w' → TcC w' A t) := fun w' h => hT.ex h
  have HAw : Hid (∀ w', Ex w w' → Calls Tryz.prog 10 #[] w' (Ret w' (.bool true))) := fun w' h => awake_c w' (hE.ex h)
  have HSc : Hid (∀ w', Ex w w' → Calls Tryz.prog 11 #[.agg #[.slice A t.length c]] w' (Ret w' (.bool (smallB t)))) := fun w' h => small_c t A c w' (hT.ex h) htl hbig
  obtain ⟨W1, hW1⟩ : ∃ W1, W1 = w.alloc (.cells #[.slice A t.length c] 24) := ⟨_, rfl⟩
  have hX1 : Ex w W1 := by rw [hW1]; exact (Ex.refl w).alloc _
  have hB1 : Blk W1 w.heap.size 24 [.slice A t.length c] := by rw [hW1]; exact Blk.new w _ _
  have HW1 := Lib.hid hW1
  have HX1 := Lib.hid hX1
  have HB1 := Lib.hid hB1
  have HCp := Lib.hid hcap
  clear hE hT hW1 hX1 hB1 hbig htl hcap
  go_enter Tryz.func3, Tryz.ntmps3
  go_upto_region 1 with fail
  rw [← HW1.out]
  go_wp2_with fail
  refine (HAw.out _ HX1.out).mono ?_
  rintro e9 w2 ⟨rfl, hx⟩
  have HX2 := Lib.hid (HX1.out.trans hx)
  have x0 := (HB1.out.ex hx).cell 0
  have xl := (HB1.out.ex hx).lt
  have HB2 := Lib.hid (HB1.out.ex hx)
  clear hx
  go_wp2_with fail
  refine (HSc.out _ HX2.out).mono ?_
  rintro e9 w3 ⟨rfl, hx⟩
  have HX3 := Lib.hid (HX2.out.trans hx)
  have HB3 := Lib.hid (HB2.out.ex hx)
  clear hx x0 xl
  have x0 := HB3.out.cell 0
  have xl := HB3.out.lt
  cases hsm : smallB t with
  | false =>
    clear HSc
    go_wp2_with fail
    go_ret
    exact Ret.mk rfl HX3.out
  | true =>
    obtain ⟨hts, hsum, hlen, hsmx⟩ := small_tsm hsm
    have HSz : Hid (∀ y ∈ t, y.vars.length ≤ 12) := fun y hy => (hsmx y hy).1
    have HSn : Hid (∀ y ∈ t, y.name.size ≤ 30) := fun y hy => (hsmx y hy).2.1
    clear hsmx
    have HV := Lib.hid (fun w' (h : Ex w w') => rValid_c t A c w' (HT.out w' h) hts)
    have HTx : Hid (∀ w', Ex w w' → Calls Tryz.prog 13 #[.agg #[.slice A t.length c]] w' (Ret w' (textV t))) := fun w' h => text_c t A c w' (HE.out w' h) (HT.out w' h) hts HCp.out
    have HTs := Lib.hid hts
    have HNum := Lib.hid (And.intro hsum hlen)
    clear HSc hsm HAw hts hsum hlen
    go_wp2_with fail
    refine (HV.out _ HX3.out).mono ?_
    rintro e9 w4 ⟨rfl, hx⟩
    have HX4 := Lib.hid (HX3.out.trans hx)
    have HB4 := Lib.hid (HB3.out.ex hx)
    clear hx x0 xl HV
    have x0 := HB4.out.cell 0
    have xl := HB4.out.lt
    cases hv : validB t with
    | false =>
      clear HTx
      go_wp2_with fail
      go_ret
      exact Ret.mk rfl HX4.out
    | true =>
      have hf : (faultO t).2 = 0 := by unfold validB at hv; exact of_decide_eq_true hv
      go_wp2_with fail
      refine (HTx.out _ HX4.out).mono ?_
      rintro e9 w5 ⟨rfl, hx⟩
      have HX5 := Lib.hid (HX4.out.trans hx)
      have HB5 := Lib.hid (HB4.out.ex hx)
      clear hx x0 xl HTx
      obtain ⟨TV, hTV⟩ : ∃ TV, TV = textV t := ⟨_, rfl⟩
      rw [← hTV]
      by_cases hl : (wTr t).length ≤ 16384
      case neg =>
        have hV : TV = .tuple #[.string ⟨#[]⟩, .int .i64 5] := by
          rw [hTV]
          unfold textV
          rw [if_pos hv, if_pos (by omega)]
        subst hV
        clear hTV hv hf hl
        go_wp2_with fail
        go_ret
        exact Ret.mk rfl HX5.out
      have hV := hTV.trans (textV_ok hf hl)
      subst hV
      have HSp := Lib.hid (fun w' (h : Ex w w') => split_c 10 (wTr t) w' (HE.out w' h) (by omega))
      have hsplit := spl_tr hf
      have hN : (spl 10 (wTr t)).length = t.length + sumN t + 1 := by rw [hsplit, List.length_append, trLn_len2]; rfl
      have HAt : Hid (∀ (p i : Nat) (x : Pr) (e : Ev), t[p]? = some x → x.evs[i]? = some e → (strV (spl 10 (wTr t)))[p + sumN (t.take p) + 1 + i]? = some (.string (bs (evLn t x.vars e)))) := fun p i x e hx he => by
        refine strV_at ?_
        rw [hsplit, List.getElem?_append_left (List.getElem?_eq_some_iff.1 (trLn_at hx he)).1]
        exact trLn_at hx he
      rw [hN] at HSp
      have HF := Lib.hid (And.intro hf hl)
      generalize strV (spl 10 (wTr t)) = SV at *
      clear hTV hv hf hl hsplit hN
      go_wp2_with fail
      refine (HSp.out _ HX5.out).mono ?_
      rintro e9 w6 ⟨rfl, rfl⟩
      have hB6 := Blk.new w5 9 SV
      have hX6 : Ex w5 (w5.alloc (.cells SV.toArray 9)) := (Ex.refl w5).alloc _
      have HX6 := Lib.hid (HX5.out.trans hX6)
      have HB7 := Lib.hid (HB5.out.ex hX6)
      obtain ⟨gb, hgb⟩ : ∃ gb, gb = w5.heap.size := ⟨_, rfl⟩
      rw [← hgb] at hB6 ⊢
      have HS6 := Lib.hid hB6
      clear hB6 hX6 hgb HSp
      generalize w5.alloc (.cells SV.toArray 9) = W6 at *
      have x0 := HB7.out.cell 0
      have xl := HB7.out.lt
      go_wp2_with fail
      go_loopg [6, 48] t.length (fun gg u v wx => ∃ p : Nat, u = .int .i64 ((p + sumN (t.take p) : Nat) : Int) ∧ v = .int .i64 (p : Int) ∧ p ≤ t.length ∧ t.length ≤ p + gg ∧ Hid (Ex W6 wx))
      case atStart => exact ⟨0, rfl, rfl, Nat.zero_le _, by omega, Lib.hid (Ex.refl _)⟩
      case round =>
        obtain ⟨p, rfl, rfl, hp, hpg, HXp⟩ := hrel
        clear x0 xl
        by_cases hpl : p < t.length
        · obtain ⟨n9, rfl⟩ : ∃ n9, gk = n9 + 1 := ⟨gk - 1, by omega⟩
          obtain ⟨x, hx⟩ : ∃ x, t[p]? = some x := ⟨_, List.getElem?_eq_getElem hpl⟩
          obtain ⟨ba, oa, hA, hba, V, vc, E, ec, g0, g1, g2, -, hEv⟩ := HT.out _ (HX6.out.trans HXp.out) p x hx
          subst hA
          have hsn := sumN_snoc' hx
          have hst := sumN_take' t (p + 1)
          have hn1 := HNum.out.1
          have hn2 := HNum.out.2
          have m0 : (0 : Int) ≤ (p : Int) := by omega
          have m1 : (p : Int) < (t.length : Int) := by omega
          obtain ⟨S, hS⟩ : ∃ S, S = sumN (t.take p) := ⟨_, rfl⟩
          rw [← hS]
          have q1 : IntKind.i64.wrap (((p + S : Nat) : Int) + 1) = ((p + S + 1 : Nat) : Int) := by rw [IntWalk.i64_in _ (by omega)]; omega
          have q2 : IntKind.i64.wrap ((p : Int) + 1) = (p : Int) + 1 := IntWalk.i64_in _ (by omega)
          have HEv : Hid (∀ w', Ex wr w' → EvsC w' E x.evs) := fun w' h => hEv.ex h
          have HXx := Lib.hid (And.intro hx (And.intro hsn hS))
          have hel : x.evs.length ≤ 120 := by omega
          have hSl : p + S + 1 + x.evs.length ≤ 200 := by omega
          clear hx hEv hsn hst hS hn1 hn2
          go_wp2_with fail
          go_loopg [6, 58] x.evs.length (fun gg u v wx => ∃ i : Nat, u = .int .i64 ((p + S + 1 + i : Nat) : Int) ∧ v = .int .i64 (i : Int) ∧ i ≤ x.evs.length ∧ x.evs.length ≤ i + gg ∧ Hid (Ex wr wx))
          case atStart => exact ⟨0, rfl, rfl, Nat.zero_le _, by omega, Lib.hid ((Ex.refl _).alloc _)⟩
          case round =>
            obtain ⟨i, rfl, rfl, hi, hig, HXi⟩ := hrel
            by_cases hil : i < x.evs.length
            · obtain ⟨n8, rfl⟩ : ∃ n8, gk = n8 + 1 := ⟨gk - 1, by omega⟩
              obtain ⟨e, he⟩ : ∃ e, x.evs[i]? = some e := ⟨_, List.getElem?_eq_getElem hil⟩
              obtain ⟨be, oe, hE1, hbe, B, bc, k0, k1, k2, k3, k4, hrw, -⟩ := HEv.out _ HXi.out i e he
              subst hE1
              have HXw := Lib.hid (HX6.out.trans (HXp.out.trans HXi.out))
              have i0 : (0 : Int) ≤ (i : Int) := by omega
              have i1 : (i : Int) < (x.evs.length : Int) := by omega
              have q3 : IntKind.i64.wrap ((i : Int) + 1) = (i : Int) + 1 := IntWalk.i64_in _ (by omega)
              obtain ⟨AT, hAT⟩ : ∃ AT, AT = p + S + 1 + i := ⟨_, rfl⟩
              have q4 : IntKind.i64.wrap ((AT : Int) + 1) = ((AT + 1 : Nat) : Int) := IntWalk.i64_in _ (by omega)
              have hrow := HAt.out p i x e HXx.out.1 he
              rw [← HXx.out.2.2, ← hAT] at hrow
              rw [← hAT]
              have HAT := Lib.hid hAT
              clear hAT
              have hLN := lineV_at HF.out.1 HXx.out.1 he
              have hNM := nameV_at HF.out.1 HXx.out.1 he
              have hPE := pev_at HF.out.1 HF.out.2 HXx.out.1 he
              have hPN := pn_at HF.out.1 HXx.out.1 he
              have hsh := wEv_short HF.out.2 HXx.out.1 he
              have hea := ((HTs.out.each x (List.mem_of_getElem? HXx.out.1)).2.2.2.2) e (List.mem_of_getElem? he)
              have hnm := (HTs.out.each x (List.mem_of_getElem? HXx.out.1)).1
              have hit := Lib.itoa_length_le ((i : Int) + 1) (by omega) (by omega)
              have hvb : ∀ y ∈ t, y.vars.length ≤ 20000 ∧ ∀ v ∈ y.vars, v.1.size ≤ 20000 := fun y hy => by
                have h9 := prS_all HF.out.1 HTs.out y hy
                have hz := HSz.out y hy
                exact ⟨by omega, fun v hv => by have := nameB_size (h9.pr.vars v hv).1; omega⟩
              have HLn : Hid (∀ w', Ex w w' → Calls Tryz.prog 15 #[.agg #[.slice (some ⟨ba, oa, none⟩) t.length c], .agg #[.int .i64 (p : Int), .int .i64 ((i : Int) + 1)]] w' (Ret w' (.tuple #[.string (bs (wEv t x.vars e)), .int .i64 0]))) := fun w' h => by
                have h9 := line2_c t (some ⟨ba, oa, none⟩) c (p : Int) ((i : Int) + 1) w' (HE.out w' h) (HT.out w' h) HTs.out HCp.out
                rw [hLN] at h9
                exact h9
              have HNm : Hid (∀ w', Ex w w' → Calls Tryz.prog 16 #[.agg #[.slice (some ⟨ba, oa, none⟩) t.length c], .agg #[.int .i64 (p : Int), .int .i64 ((i : Int) + 1)]] w' (Ret w' (.tuple #[.string (bs (x.name.data.toList ++ 46 :: Lib.itoa ((i : Int) + 1))), .int .i64 0]))) := fun w' h => by
                have h9 := name2_c t (some ⟨ba, oa, none⟩) c (p : Int) ((i : Int) + 1) w' (HE.out w' h) (HT.out w' h) HTs.out HCp.out
                rw [hNM] at h9
                exact h9
              have HPe : Hid (∀ w', Ex w w' → Calls Tryz.prog 17 #[.agg #[.slice (some ⟨ba, oa, none⟩) t.length c], .int .i64 (p : Int), .string (bs (wEv t x.vars e))] w' (PevR w' (e, 0))) := fun w' h => by
                have h9 := pev_c t (some ⟨ba, oa, none⟩) c (p : Int) (wEv t x.vars e) w' (HE.out w' h) (HT.out w' h) HTs.out HCp.out (by omega) hvb
                rw [hPE] at h9
                exact h9
              have HPn : Hid (∀ w', Ex w w' → Calls Tryz.prog 18 #[.agg #[.slice (some ⟨ba, oa, none⟩) t.length c], .string (bs (x.name.data.toList ++ 46 :: Lib.itoa ((i : Int) + 1)))] w' (Ret w' (pnW ((p : Int), (i : Int) + 1, 0)))) := fun w' h => by
                have h9 := pname_c t (some ⟨ba, oa, none⟩) c (x.name.data.toList ++ 46 :: Lib.itoa ((i : Int) + 1)) w' (HE.out w' h) (HT.out w' h) HTs.out HCp.out (by
                  have : x.name.data.toList.length = x.name.size := by simp
                  have hz := HSn.out x (List.mem_of_getElem? HXx.out.1)
                  simp only [List.length_append, List.length_cons]
                  omega)
                rw [hPN] at h9
                exact h9
              have hcat : bs (evLn t x.vars e) = (⟨#[32, 32]⟩ : ByteArray) ++ bs (wEv t x.vars e) := by
                unfold evLn
                have h9 : (⟨#[32, 32]⟩ : ByteArray) = bs [32, 32] := rfl
                rw [h9, bs_cat9]
                rfl
              rw [hcat] at hrow
              have HRo := Lib.hid hrow
              have HRw : Hid (∀ w', Ex wr w' → Row w' B (asgV e.asg)) := fun w' h => hrw.ex h
              clear he hLN hNM hPE hPN hnm hit hvb hcat hrow hrw
              generalize bs (x.name.data.toList ++ 46 :: Lib.itoa ((i : Int) + 1)) = NMS at *
              generalize hLb : wEv t x.vars e = LN at *
              clear hLb
              have hB1 := (Blk.new wr 38 [.int .i64 e.kind, .int .i64 e.peer, .int .i64 e.msg, .int .i64 e.time, .slice B e.asg.length bc]).alloc (.cells #[.int .i64 (p : Int), .int .i64 ((i : Int) + 1)] 40)
              have hz : (wr.alloc (.cells #[.int .i64 e.kind, .int .i64 e.peer, .int .i64 e.msg, .int .i64 e.time, .slice B e.asg.length bc] 38)).heap.size = wr.heap.size + 1 := Array.size_push _
              have hB2 := Blk.new (wr.alloc (.cells #[.int .i64 e.kind, .int .i64 e.peer, .int .i64 e.msg, .int .i64 e.time, .slice B e.asg.length bc] 38)) 40 [.int .i64 (p : Int), .int .i64 ((i : Int) + 1)]
              rw [hz] at hB2
              have hX18 : Ex wr ((wr.alloc (.cells #[.int .i64 e.kind, .int .i64 e.peer, .int .i64 e.msg, .int .i64 e.time, .slice B e.asg.length bc] 38)).alloc (.cells #[.int .i64 (p : Int), .int .i64 ((i : Int) + 1)] 40)) := ((Ex.refl wr).alloc _).alloc _
              go_upto_region 18 with fail
              obtain ⟨eb, heb⟩ : ∃ eb, eb = wr.heap.size := ⟨_, rfl⟩
              obtain ⟨ib, hib⟩ : ∃ ib, ib = wr.heap.size + 1 := ⟨_, rfl⟩
              rw [← hib] at hB2 ⊢
              rw [← heb] at hB1 ⊢
              have HBe := Lib.hid hB1
              have HBi := Lib.hid hB2
              have HX18 := Lib.hid hX18
              clear hB1 hB2 hX18 hz heb hib k0 k1 k2 k3 k4 hbe g0 g1 g2 hba
              generalize (wr.alloc (.cells #[.int .i64 e.kind, .int .i64 e.peer, .int .i64 e.msg, .int .i64 e.time, .slice B e.asg.length bc] 38)).alloc (.cells #[.int .i64 (p : Int), .int .i64 ((i : Int) + 1)] 40) = W18 at *
              have HXt := Lib.hid (HXp.out.trans (HXi.out.trans HX18.out))
              have x0 := (HB7.out.ex HXt.out).cell 0
              have xl := (HB7.out.ex HXt.out).lt
              have y0 := HBi.out.cell 0
              have y1 := HBi.out.cell 1
              have yl := HBi.out.lt
              go_wp2_with fail
              refine (HLn.out _ (HX6.out.trans HXt.out)).mono ?_
              rintro e9 w19 ⟨rfl, hx⟩
              have HY19 := Lib.hid hx
              clear hx x0 xl y0 y1 yl
              have x0 := (HB7.out.ex (HXt.out.trans HY19.out)).cell 0
              have xl := (HB7.out.ex (HXt.out.trans HY19.out)).lt
              have y0 := (HBi.out.ex HY19.out).cell 0
              have y1 := (HBi.out.ex HY19.out).cell 1
              have yl := (HBi.out.ex HY19.out).lt
              go_wp2_with fail
              refine (HNm.out _ (HX6.out.trans (HXt.out.trans HY19.out))).mono ?_
              rintro e9 w20 ⟨rfl, hx⟩
              have HY20 := Lib.hid (HY19.out.trans hx)
              clear hx x0 xl y0 y1 yl
              have x0 := (HB7.out.ex (HXt.out.trans HY20.out)).cell 0
              have xl := (HB7.out.ex (HXt.out.trans HY20.out)).lt
              go_wp2_with fail
              refine (HPe.out _ (HX6.out.trans (HXt.out.trans HY20.out))).mono ?_
              rintro e9 w21 ⟨B2, c2, rfl, hrow2, hx⟩
              unfold evA9
              dsimp only
              have hB3 := Blk.new w21 38 [.int .i64 e.kind, .int .i64 e.peer, .int .i64 e.msg, .int .i64 e.time, .slice B2 e.asg.length c2]
              have hX22 : Ex w21 (w21.alloc (.cells #[.int .i64 e.kind, .int .i64 e.peer, .int .i64 e.msg, .int .i64 e.time, .slice B2 e.asg.length c2] 38)) := (Ex.refl w21).alloc _
              have HY22 := Lib.hid (HY20.out.trans (hx.trans hX22))
              have HRw2 := Lib.hid (hrow2.ex hX22)
              go_upto_region 21 with fail
              obtain ⟨sb, hsb⟩ : ∃ sb, sb = w21.heap.size := ⟨_, rfl⟩
              rw [← hsb] at hB3 ⊢
              have HBs := Lib.hid hB3
              clear hx x0 xl hB3 hX22 hsb hrow2
              generalize w21.alloc (.cells #[.int .i64 e.kind, .int .i64 e.peer, .int .i64 e.msg, .int .i64 e.time, .slice B2 e.asg.length c2] 38) = W22 at *
              have x0 := (HB7.out.ex (HXt.out.trans HY22.out)).cell 0
              have xl := (HB7.out.ex (HXt.out.trans HY22.out)).lt
              go_wp2_with fail
              refine (HPn.out _ (HX6.out.trans (HXt.out.trans HY22.out))).mono ?_
              rintro e9 w23 ⟨rfl, hx⟩
              unfold pnW
              dsimp only
              have hB4 := Blk.new w23 40 [.int .i64 (p : Int), .int .i64 ((i : Int) + 1)]
              have hX24 : Ex w23 (w23.alloc (.cells #[.int .i64 (p : Int), .int .i64 ((i : Int) + 1)] 40)) := (Ex.refl w23).alloc _
              have HZ24 := Lib.hid (hx.trans hX24)
              go_upto_region 22 with fail
              obtain ⟨nb, hnb⟩ : ∃ nb, nb = w23.heap.size := ⟨_, rfl⟩
              rw [← hnb] at hB4 ⊢
              have HBn := Lib.hid hB4
              clear hx x0 xl hB4 hX24 hnb
              generalize w23.alloc (.cells #[.int .i64 (p : Int), .int .i64 ((i : Int) + 1)] 40) = W24 at *
              have HSe := Lib.hid (fun w' (h : Ex W24 w') => sameEv_c e e B2 B c2 bc w' ((HRw2.out.ex HZ24.out).ex h) (HRw.out w' (HX18.out.trans (HY22.out.trans (HZ24.out.trans h)))) hea hea)
              rw [sameE_iff.2 rfl] at HSe
              have s0 := (HBs.out.ex HZ24.out).cell 0
              have s1 := (HBs.out.ex HZ24.out).cell 1
              have s2 := (HBs.out.ex HZ24.out).cell 2
              have s3 := (HBs.out.ex HZ24.out).cell 3
              have s4 := (HBs.out.ex HZ24.out).cell 4
              have sl := (HBs.out.ex HZ24.out).lt
              have e0 := (HBe.out.ex (HY22.out.trans HZ24.out)).cell 0
              have e1 := (HBe.out.ex (HY22.out.trans HZ24.out)).cell 1
              have e2 := (HBe.out.ex (HY22.out.trans HZ24.out)).cell 2
              have e3 := (HBe.out.ex (HY22.out.trans HZ24.out)).cell 3
              have e4 := (HBe.out.ex (HY22.out.trans HZ24.out)).cell 4
              have el := (HBe.out.ex (HY22.out.trans HZ24.out)).lt
              go_wp2_with fail
              refine (HSe.out _ (Ex.refl _)).mono ?_
              rintro e9 w25 ⟨rfl, hx⟩
              have HZ25 := Lib.hid (HZ24.out.trans hx)
              have n0 := (HBn.out.ex hx).cell 0
              have n1 := (HBn.out.ex hx).cell 1
              have nl := (HBn.out.ex hx).lt
              have y0 := (HBi.out.ex (HY22.out.trans HZ25.out)).cell 0
              have y1 := (HBi.out.ex (HY22.out.trans HZ25.out)).cell 1
              have yl := (HBi.out.ex (HY22.out.trans HZ25.out)).lt
              have hrow9 : w25.cell? ⟨gb, AT, none⟩ = some (.string ((⟨#[32, 32]⟩ : ByteArray) ++ bs LN)) := by
                have h9 := (HS6.out.ex (HXt.out.trans (HY22.out.trans HZ25.out))).cell AT
                rw [h9]
                exact HRo.out
              have gl := (HS6.out.ex (HXt.out.trans (HY22.out.trans HZ25.out))).lt
              have hSt : S + x.evs.length ≤ sumN t := by
                have h9 := sumN_take' t (p + 1)
                rw [HXx.out.2.1, ← HXx.out.2.2] at h9
                exact h9
              have hAT := HAT.out
              have j0 : (0 : Int) ≤ (AT : Int) := by omega
              have j1 : (AT : Int) < ((t.length + sumN t + 1 : Nat) : Int) := by omega
              have j2 : decide (((t.length + sumN t + 1 : Nat) : Int) ≤ (AT : Int)) = false := decide_eq_false (by omega)
              have z1 : ¬ 9223372036854775807 < 2 + LN.length := by omega
              have hXf := HXi.out.trans (HX18.out.trans (HY22.out.trans HZ25.out))
              have HXf := Lib.hid hXf
              clear hx s0 s1 s2 s3 s4 sl e0 e1 e2 e3 e4 el hXf hSt
              clear hAT
              generalize t.length + sumN t + 1 = NN at *
              go_wp2_with fail
              go_roundg n8
              case measure => omega
              case rel => exact ⟨i + 1, by have h9 : p + S + 1 + (i + 1) = AT + 1 := by { have := HAT.out; omega }; rw [h9]; first | done | go_num, by go_num, by omega, by omega, HXf⟩
            · obtain rfl : i = x.evs.length := by omega
              have i1 : decide ((x.evs.length : Int) < (x.evs.length : Int)) = false := decide_eq_false (by omega)
              go_wp2_with fail
              go_roundg n9
              case measure => omega
              case rel => exact ⟨p + 1, by rw [HXx.out.2.1, ← HXx.out.2.2]; congr 2; omega, by go_num, by omega, by omega, Lib.hid (HXp.out.trans HXi.out)⟩
        · obtain rfl : p = t.length := by omega
          have m1 : decide ((t.length : Int) < (t.length : Int)) = false := decide_eq_false (by omega)
          rw [List.take_length]
          have q1 : IntKind.i64.wrap (((t.length + sumN t : Nat) : Int) + 1) = ((t.length + sumN t + 1 : Nat) : Int) := by rw [IntWalk.i64_in _ (by have := HNum.out; omega)]; omega
          have b1 : (((t.length + sumN t + 1 : Nat) : Int) == ((t.length + sumN t + 1 : Nat) : Int)) = true := beq_self_eq_true _
          generalize t.length + sumN t = NN at *
          go_wp2_with fail
          go_ret
          exact Ret.mk (by first | rfl | simp) (HX6.out.trans HXp.out)
end
end Go.Proofs.YtpmponafjhnegaaGreatDoor
