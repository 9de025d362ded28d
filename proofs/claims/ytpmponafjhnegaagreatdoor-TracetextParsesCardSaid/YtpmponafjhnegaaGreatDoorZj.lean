/-
  The reference's Parse, walked. The law Parses, walked.
  Conditions: as each theorem says.
-/
import Derived.Test.YtpmponafjhnegaaGreatDoorZa
import Derived.Deep.RegionLaw
import Derived.Deep.CutRange
import Derived.Test.YtpmponafjhnegaaGreatDoorZd
import Derived.Test.YtpmponafjhnegaaGreatDoorWf
import Derived.Test.YtpmponafjhnegaaGreatDoorWi
namespace Go.Proofs.YtpmponafjhnegaaGreatDoor
section
open Go.RowKit Nu
theorem infoSlE : (Tryz.prog.info? 120).map (fun i => (i.zero, i.size, i.bytes)) = some (some (.slice none 0 0), 1, 24) := by kernel_rfl
theorem infoSlI : (Tryz.prog.info? 93).map (fun i => (i.zero, i.size, i.bytes)) = some (some (.slice none 0 0), 1, 24) := by kernel_rfl
theorem body_none {l : List UInt8} (h : body l = none) (h2 : 2 ≤ l.length) : l.take 2 ≠ [32, 32] := by
  match l, h2 with
  | c :: d :: r, _ =>
    intro e
    simp at e
    obtain ⟨rfl, rfl⟩ := e
    exact absurd h (by simp [body])
  | [c], h2 => simp at h2
  | [], h2 => simp at h2
set_option maxRecDepth 1000000 in
set_option maxHeartbeats 100000000 in
theorem rparse_c (s : List UInt8) (w : World) (hl : s.length ≤ 1000000) : Calls Tryz.prog 21 #[.string (bs s)] w (ParseR s w) := by
  have hss : (bs s).size = s.length := rfl
  have hB0 := (Blk.new w 24 [.slice none 0 0]).alloc (.cells #[.int .i64 0, .int .i64 0] 48)
  have hB1 := Blk.new (w.alloc (.cells #[.slice none 0 0] 24)) 48 [.int .i64 0, .int .i64 0]
  have hz : (w.alloc (.cells #[.slice none 0 0] 24)).heap.size = w.heap.size + 1 := Array.size_push _
  rw [hz] at hB1
  have hX0 := ((Ex.refl w).alloc (.cells #[.slice none 0 0] 24)).alloc (.cells #[.int .i64 0, .int .i64 0] 48)
  have hz2 : ((w.alloc (.cells #[.slice none 0 0] 24)).alloc (.cells #[.int .i64 0, .int .i64 0] 48)).heap.size = w.heap.size + 2 := (Array.size_push _).trans (by rw [hz])
  have hB2 := Blk.new ((w.alloc (.cells #[.slice none 0 0] 24)).alloc (.cells #[.int .i64 0, .int .i64 0] 48)) 24 [.slice none 0 0]
  rw [hz2] at hB2
  obtain ⟨rb, hrb⟩ : ∃ rb, rb = w.heap.size := ⟨_, rfl⟩
  obtain ⟨pb, hpb⟩ : ∃ pb, pb = w.heap.size + 1 := ⟨_, rfl⟩
  obtain ⟨tb, htb⟩ : ∃ tb, tb = w.heap.size + 2 := ⟨_, rfl⟩
  rw [← hrb] at hB0
  rw [← hpb] at hB1
  rw [← htb] at hB2 hz2
  have n1 : rb ≠ pb := by omega
  have n2 : pb ≠ rb := by omega
  have n3 : rb ≠ tb := by omega
  have n4 : tb ≠ rb := by omega
  have n5 : pb ≠ tb := by omega
  have n6 : tb ≠ pb := by omega
  have HB0 := Lib.hid hB0
  have HB1 := Lib.hid hB1
  have HB2 := Lib.hid hB2
  have HX0 := Lib.hid hX0
  have HZ2 := Lib.hid hz2
  have HRb := Lib.hid hrb
  have HPb := Lib.hid hpb
  have HTb := Lib.hid htb
  clear hB0 hB1 hB2 hX0 hz hz2 htb
  by_cases hbig : 16384 < s.length
  · have hP0 : parseT s = .error (5, 0, 0) := by unfold parseT; rw [if_pos hbig]
    have HP0 := Lib.hid hP0
    have b1 : decide ((16384 : Int) < (s.length : Int)) = true := decide_eq_true (by omega)
    clear hP0 hbig
    go_enter Tryz.func21, Tryz.ntmps21
    go_upto_region 2 with fail
    rw [← hpb, ← hrb]
    generalize (w.alloc (.cells #[.slice none 0 0] 24)).alloc (.cells #[.int .i64 0, .int .i64 0] 48) = W0 at *
    clear hrb hpb
    have f0 := HB0.out.frozen 0
    have f1 := HB1.out.frozen 0
    have f2 := HB1.out.frozen 1
    have z0 := HB0.out.cell 0
    have z1 := HB1.out.cell 0
    have z2 := HB1.out.cell 1
    have zl := HB0.out.lt
    have zm := HB1.out.lt
    go_wp2_with fail
    have hr1 := HRb.out
    have hp1 := HPb.out
    exact rErr (l := 0) (c := 0) HX0.out HP0.out HB0.out HB1.out (by omega) (by omega) n1 rfl rfl rfl
  · have b1 : decide ((16384 : Int) < (s.length : Int)) = false := decide_eq_false (by omega)
    obtain ⟨TX, hTX⟩ : ∃ TX, TX = bs s := ⟨_, rfl⟩
    have hTd : TX.data.toList = s := by rw [hTX]
    rw [← hTX] at hss ⊢
    have HTd := Lib.hid hTd
    have HTX := Lib.hid hTX
    clear hTX hTd
    go_enter Tryz.func21, Tryz.ntmps21
    go_upto_region 3 with fail
    rw [← hpb, ← hrb]
    generalize (w.alloc (.cells #[.slice none 0 0] 24)).alloc (.cells #[.int .i64 0, .int .i64 0] 48) = W0 at *
    clear hrb hpb
    go_upto_block 0 with fail
    have htb1 : pb + 1 = tb := by have h1 := HPb.out; have h2 := HTb.out; omega
    first | rw [HZ2.out] | rw [htb1]
    clear htb1
    have HX1 := Lib.hid (HX0.out.alloc (.cells #[.slice none 0 0] 24))
    have HBa := Lib.hid (HB0.out.alloc (.cells #[.slice none 0 0] 24))
    have HBb := Lib.hid (HB1.out.alloc (.cells #[.slice none 0 0] 24))
    generalize W0.alloc (.cells #[.slice none 0 0] 24) = W1 at *
    have HP : Hid (parseT s = match linesX 1 [] (spl 10 s) with
      | .error x => .error x
      | .ok ps => match resPs (ps.map (·.name)) ps with
        | .error x => .error x
        | .ok t => if (faultO t).2 = 0 then .ok t else .error (plcO ps (faultO t))) := by unfold parseT; rw [if_neg hbig]; exact Lib.hid rfl
    go_cut [6, 7, 8] from 6 to 167 (fun Lv Qv Sv wx => ∃ (n : Nat) (ps : List RP) (L : Option Addr) (lc : Nat) (Q : Option Addr) (qc : Nat) (S : Option Addr) (sc : Nat) (A : Option Addr) (ac : Nat) (ms : List PM) (rq rs : List Sl), Lv = .slice L ps.length lc ∧ Qv = .slice Q ps.length qc ∧ Sv = .slice S ps.length sc ∧ Hid (n ≤ 20000 ∧ PLoopR w rb pb tb s [] n ps L lc Q qc S sc wx A ac ms rq rs))
    case rest =>
      obtain ⟨n, ps, L, lc, Q, qc, S, sc, A, ac, ms, rq, rs, rfl, rfl, rfl, HC⟩ := hcut
      rename_i K9 hK9
      refine hK9 _ _ ?_
      exact rrest_c s w hbig HRb.out HPb.out HTb.out HC.out.1 HC.out.2
    case first =>
      go_wp2_with fail
      go_loopg [6, 7, 8, 9, 10] s.length (fun gg Lv Qv Sv N T wr => ∃ (f m : Nat) (ps : List RP) (L : Option Addr) (lc : Nat) (Q : Option Addr) (qc : Nat) (S : Option Addr) (sc : Nat), Lv = .slice L ps.length lc ∧ Qv = .slice Q ps.length qc ∧ Sv = .slice S ps.length sc ∧ N = .int .i64 (m : Int) ∧ T = .int .i64 (f : Int) ∧ f ≤ s.length ∧ s.length ≤ f + gg ∧
        Hid (m + (s.length - f) ≤ 16384 ∧ ∃ A ac ms rq rs, PLoopR w rb pb tb s (s.drop f) (m + 1) ps L lc Q qc S sc wr A ac ms rq rs))
      case atStart =>
        exact ⟨0, 0, [], none, 0, none, 0, none, 0, rfl, rfl, rfl, rfl, rfl, Nat.zero_le _, by omega, Lib.hid ⟨by omega, none, 0, [], [], [], ⟨rfl, ⟨⟨⟨HB2.out, TP.nil _ _, OwnO.nil _ _ _ _, Sd.nil _ _ _ _ _⟩, HBa.out, HBb.out, HX1.out, Nat.le_of_eq HRb.out.symm, n3, by have := HTb.out; omega⟩, Sd.nil _ _ _ _ _, Sd.nil _ _ _ _ _, fun r hr => absurd hr List.not_mem_nil⟩, rfl, rfl, RowsE.nil, RSm.nil 1⟩⟩⟩
      case round =>
        obtain ⟨f, m, ps, L, lc, Q, qc, S, sc, rfl, rfl, rfl, rfl, rfl, hf, hfg, HH⟩ := hrel
        clear HX1 HBa HBb HB0 HB1 HB2 HX0
        obtain ⟨hN, A, ac, ms, rq, rs, hP⟩ := HH.out
        have HPl := Lib.hid hP
        have HN := Lib.hid hN
        clear HH hN hP
        by_cases hfe : f = s.length
        · subst hfe
          have m1 : decide ((s.length : Int) < (s.length : Int)) = false := decide_eq_false (by omega)
          have hpf := HPl.out
          rw [List.drop_length] at hpf
          have HPf := Lib.hid hpf
          clear hpf
          go_wp2_with fail
          go_meet
          case rel => exact ⟨m + 1, ps, L, lc, Q, qc, S, sc, A, ac, ms, rq, rs, rfl, rfl, rfl, Lib.hid ⟨by have := HN.out; omega, HPf.out⟩⟩
        have hfl : f < s.length := by omega
        have m1 : (f : Int) < (s.length : Int) := by omega
        have hmN := HN.out
        have qm : IntKind.i64.wrap ((m : Int) + 1) = ((m + 1 : Nat) : Int) := IntWalk.i64_in _ (by omega)
        obtain ⟨n, hn⟩ : ∃ n, n = m + 1 := ⟨_, rfl⟩
        rw [← hn] at HPl qm
        have hnb : n ≤ 16385 := by omega
        have HNm := Lib.hid hn
        clear hmN hn
        cases hcut : cutC 10 (s.drop f) with
        | none =>
          have hR : s.drop f ≠ [] := by
            intro h
            have := congrArg List.length h
            rw [List.length_drop] at this
            simp at this
            omega
          have hRl : (s.drop f).length = s.length - f := List.length_drop ..
          have hP1 : parseT s = .error (4, n, (s.drop f).length + 1) := by rw [HP.out, HPl.out.text, linesX_none n ps hcut hR]
          have HNe : Hid (∀ k, (h : k < TX.size) → f ≤ k → ((TX[k].toNat : Int) == 10) = false) := fun k h hk => by
            have h2 := get_idx h
            rw [HTd.out] at h2
            apply beq_eq_false_iff_ne.2
            intro h3
            apply cutC_none.1 hcut
            have h4 : TX[k] = 10 := by rw [← UInt8.toNat_inj]; show TX[k].toNat = 10; omega
            rw [h4] at h2
            have h5 : (s.drop f)[k - f]? = some 10 := by rw [List.getElem?_drop, show f + (k - f) = k by omega]; exact h2
            exact List.mem_of_getElem? h5
          have hEx : TX.extract f s.length = bs (s.drop f) := by
            rw [ext_data, HTd.out, List.take_of_length_le (by rw [List.length_drop]; exact Nat.le_refl _)]
          have hzR : (bs (s.drop f)).size = (s.drop f).length := rfl
          have qR : IntKind.i64.wrap (((s.drop f).length : Int) + 1) = (((s.drop f).length + 1 : Nat) : Int) := IntWalk.i64_in _ (by omega)
          have HPe := Lib.hid hP1
          clear hP1 hR hcut hRl
          generalize bs (s.drop f) = SR at *
          generalize (s.drop f).length = RL at *
          go_wp2_with fail
          go_loopg [11] s.length (fun gg q wz => ∃ k : Nat, q = .int .i64 (k : Int) ∧ f ≤ k ∧ k ≤ s.length ∧ s.length ≤ k + gg ∧ wz = wr)
          case atStart => exact ⟨f, rfl, Nat.le_refl _, by omega, by omega, rfl⟩
          case round =>
            obtain ⟨k, rfl, hfk, hk, hkg, hwz⟩ := hrel
            subst hwz
            by_cases hkl : k < s.length
            · obtain ⟨n8, hn8⟩ : ∃ n8, gk = n8 + 1 := ⟨gk - 1, by omega⟩
              subst hn8
              have hkz : k < TX.size := by omega
              have m2 : (k : Int) < (s.length : Int) := by omega
              have c1 := HNe.out k hkz hfk
              have c2 : ((TX[k].toNat : Int) != 10) = true := by unfold bne; rw [c1]; rfl
              go_wp2_with fail
              go_roundg n8
              case measure => omega
              case rel => exact ⟨k + 1, by go_num, by omega, by omega, by omega, rfl⟩
            · have hke : k = s.length := by omega
              subst hke
              have m2 : decide ((s.length : Int) < (s.length : Int)) = false := decide_eq_false (by omega)
              have hpw := HPl.out.py.pw
              have f0 := hpw.res.frozen 0
              have f1 := hpw.pos.frozen 0
              have f2 := hpw.pos.frozen 1
              have z0 := hpw.res.cell 0
              have z1 := hpw.pos.cell 0
              have z2 := hpw.pos.cell 1
              have zl := hpw.res.lt
              have zm := hpw.pos.lt
              clear hpw HNe
              go_wp2_with fail
              have hr1 := HRb.out
              have hp1 := HPb.out
              exact rErr HPl.out.py.pw.ex HPe.out HPl.out.py.pw.res HPl.out.py.pw.pos (by omega) (by omega) n1 rfl rfl rfl
        | some x =>
          obtain ⟨la, lb⟩ := x
          obtain ⟨hRe, hla⟩ := cutC_some hcut
          have hlen : s.length - f = la.length + 1 + lb.length := by have := congrArg List.length hRe; rw [List.length_drop] at this; rw [this]; simp; omega
          have HSt : Hid (linesX n ps (spl 10 (s.drop f)) = match lineX n ps la with
            | .error x => .error (x.1, n, x.2)
            | .ok ps' => linesX (n + 1) ps' (spl 10 lb)) := linesX_some n ps hcut
          obtain ⟨E, hE⟩ : ∃ E, E = f + la.length := ⟨_, rfl⟩
          have hEl : E < s.length := by omega
          have hsE : s.take E = s.take f ++ la := by
            have h1 : s = s.take f ++ (la ++ 10 :: lb) := by rw [← hRe, List.take_append_drop]
            have h2 : (s.take f).length = f := by rw [List.length_take]; omega
            conv => lhs; rw [h1]
            rw [hE, List.take_append, h2, show f + la.length - f = la.length by omega, List.take_of_length_le (by omega), List.take_left]
          have hget : ∀ k, f ≤ k → s[k]? = (la ++ 10 :: lb)[k - f]? := fun k hk => by rw [← hRe, List.getElem?_drop, show f + (k - f) = k by omega]
          have HNe : Hid (∀ k, (h : k < TX.size) → f ≤ k → k < E → ((TX[k].toNat : Int) == 10) = false) := fun k h hk hkE => by
            have h2 := get_idx h
            rw [HTd.out, hget k hk, List.getElem?_append_left (by omega)] at h2
            apply beq_eq_false_iff_ne.2
            intro h3
            apply hla
            have h4 : TX[k] = 10 := by rw [← UInt8.toNat_inj]; show TX[k].toNat = 10; omega
            rw [h4] at h2
            exact List.mem_of_getElem? h2
          have HEq : Hid (∀ k, (h : k < TX.size) → k = E → ((TX[k].toNat : Int) == 10) = true) := fun k h hkE => by
            have h2 := get_idx h
            rw [HTd.out, hget k (by omega), List.getElem?_append_right (by omega), show k - f - la.length = 0 by omega] at h2
            have h4 : TX[k] = 10 := (Option.some.inj h2).symm
            rw [h4]; rfl
          have hEx : TX.extract f E = bs la := by
            rw [ext_data, HTd.out, hRe, show E - f = la.length by omega, List.take_left]
          have hlb : lb = s.drop (E + 1) := by
            have h1 := congrArg (List.drop (la.length + 1)) hRe
            rw [List.drop_drop] at h1
            rw [hE, show f + la.length + 1 = f + (la.length + 1) by omega, h1, ← List.drop_drop, List.drop_left]
            rfl
          have HLb := Lib.hid hlb
          have HLen := Lib.hid hlen
          have HEe := Lib.hid hE
          have hlal : la.length ≤ 16384 := by omega
          have hfE : f ≤ E := by omega
          have hEz : E ≤ TX.size := by omega
          obtain ⟨n9, hn9⟩ : ∃ n9, gk = n9 + 1 := ⟨gk - 1, by omega⟩
          subst hn9
          clear hcut hRe hla hsE hget hlb hlen hE
          go_upto_block 2 with fail
          go_cut [11] from 37 to 48 (fun v wx => v = .int .i64 (E : Int) ∧ wx = wr)
          case first =>
            go_wp2_with fail
            go_loopg [11] E (fun gg q wz => ∃ k : Nat, q = .int .i64 (k : Int) ∧ f ≤ k ∧ k ≤ E ∧ E ≤ k + gg ∧ wz = wr)
            case atStart => exact ⟨f, rfl, Nat.le_refl _, by omega, by omega, rfl⟩
            case round =>
              obtain ⟨k, rfl, hfk, hk, hkg, hwz⟩ := hrel
              subst hwz
              have hkz : k < TX.size := by omega
              have m2 : (k : Int) < (s.length : Int) := by omega
              by_cases hkl : k < E
              · obtain ⟨n8, hn8⟩ : ∃ n8, gk = n8 + 1 := ⟨gk - 1, by omega⟩
                subst hn8
                have c1 := HNe.out k hkz hfk hkl
                have c2 : ((TX[k].toNat : Int) != 10) = true := by unfold bne; rw [c1]; rfl
                go_wp2_with fail
                go_roundg n8
                case measure => omega
                case rel => exact ⟨k + 1, by go_num, by omega, by omega, by omega, rfl⟩
              · have hke : k = E := by omega
                subst hke
                have c1 := HEq.out k hkz rfl
                have c2 : ((TX[k].toNat : Int) != 10) = false := by unfold bne; rw [c1]; rfl
                go_wp2_with fail
                go_meet
                case rel => exact ⟨rfl, rfl⟩
          case rest =>
            obtain ⟨rfl, hwc⟩ := hcut
            subst hwc
            clear HNe HEq
            have c3 : ((E : Int) == (s.length : Int)) = false := beq_eq_false_iff_ne.2 (by omega)
            have hnc3 : ¬ E = s.length := by omega
            have qE : IntKind.i64.wrap ((E : Int) + 1) = ((E + 1 : Nat) : Int) := IntWalk.i64_in _ (by omega)
            have hzL : (bs la).size = la.length := rfl
            have hpn := HPl.out.small.procs
            obtain ⟨hml, hql, hsl⟩ := HPl.out.len
            have x0 : wc.cell? ⟨tb, 0, none⟩ = some (.slice A ps.length ac) := by rw [← hml]; exact HPl.out.py.pw.px.cell.cell 0
            have xl := HPl.out.py.pw.px.cell.lt
            have hSp : (bs la).extract 0 2 = bs (la.take 2) := by rw [ext_data]; rfl
            have HML := Lib.hid (And.intro hml (And.intro hql hsl))
            clear hml hql hsl
            cases hbd : body la with
            | some b =>
              have hbl := body_some hbd
              have hla2 : 2 ≤ la.length := by rw [hbl]; simp
              have hlab : la.length = b.length + 2 := by rw [hbl]; simp
              have d2 : decide ((2 : Int) ≤ (la.length : Int)) = true := decide_eq_true (by omega)
              have hSq : ((bs (la.take 2)).toList == [32, 32]) = true := by rw [hbl, Lib.toList_data]; rfl
              have hEb : (bs la).extract 2 la.length = bs b := by
                rw [ext_data, hbl]
                show bs (b.take (b.length + 1 + 1 - 2)) = bs b
                rw [List.take_of_length_le (by omega)]
              generalize bs (la.take 2) = SP at *
              generalize bs la = SL at *
              rcases List.eq_nil_or_concat ps with rfl | ⟨p0, p, rfl⟩
              · have hP1 : parseT s = .error (3, n, 1) := by
                  rw [HP.out, HPl.out.text, HSt.out]
                  unfold lineX
                  rw [hbd]
                  rfl
                have HPe := Lib.hid hP1
                clear hP1 hbd HSt hbl
                simp only [List.length_nil] at x0
                have hpw := HPl.out.py.pw
                have f0 := hpw.res.frozen 0
                have f1 := hpw.pos.frozen 0
                have f2 := hpw.pos.frozen 1
                have z0 := hpw.res.cell 0
                have z1 := hpw.pos.cell 0
                have z2 := hpw.pos.cell 1
                have zl := hpw.res.lt
                have zm := hpw.pos.lt
                clear hpw
                go_wp2_with fail
                have hr1 := HRb.out
                have hp1 := HPb.out
                exact rErr (c := 1) HPl.out.py.pw.ex HPe.out HPl.out.py.pw.res HPl.out.py.pw.pos (by omega) (by omega) n1 rfl rfl rfl
              · obtain ⟨j, hj⟩ : ∃ j, j = p0.length := ⟨_, rfl⟩
                have hpl : (p0 ++ [p]).length = j + 1 := by rw [hj]; simp
                have HJ := Lib.hid hj
                rw [List.concat_eq_append] at *
                rw [hpl] at x0 hpn ⊢
                have q1 : IntKind.i64.wrap ((j : Int) + 1 - 1) = (j : Int) := by rw [Int.add_sub_cancel]; exact IntWalk.i64_in _ (by omega)
                have q2 : IntKind.i64.wrap (j : Int) = (j : Int) := IntWalk.i64_in _ (by omega)
                have bj : ((j : Int) + 1 == 0) = false := beq_eq_false_iff_ne.2 (by omega)
                clear hj
                obtain ⟨m0, mm, rfl, hm0, hm⟩ := map_snoc_inv HPl.out.pr
                obtain ⟨ga, oa, rfl, hgal, hgab, hac, hacm, k0, k1, k2, kf, kne⟩ := HPl.out.py.pw.px.last
                have hj1 : m0.length = j := by have := congrArg List.length hm0; simp at this; rw [this, HJ.out]
                have hmv : mm.vars = p.vars := congrArg Pr.vars hm
                rw [hj1] at k0 k1 k2 hac
                rw [hmv] at k1
                have HVr := Lib.hid (HPl.out.py.pw.px.tp.vars mm (by simp))
                rw [hmv] at HVr
                have hsm := HPl.out.small.each p (by simp)
                have HEv := Lib.hid (fun w' (h : Ex wc w') => revent_c b 3 p.vars mm.V mm.vc w' (by omega) (by omega) (OwnO.row' (HVr.out.ex h)) hsm.2.1)
                have HEP := Lib.hid (rEvent_plain p.vars b 3 (spl 32 b).length (Nat.le_refl _))
                unfold REvR REvV at HEv
                generalize evR p.vars (spl 32 b) 3 (3 + b.length) (spl 32 b).length ⟨0, 0, 0⟩ = F at *
                have HM := Lib.hid (And.intro hm0 hm)
                have HJ1 := Lib.hid hj1
                have HBl := Lib.hid hbl
                clear k0 k2 hm0 hm hsm hbl hj1 hmv
                have i0 : (0 : Int) ≤ (j : Int) := by omega
                have i1 : (j : Int) < ((j + 1 : Nat) : Int) := by omega
                have i2 : (j : Int) < (j : Int) + 1 := by omega
                have hl2 : 2 ≤ SL.size := by omega
                go_upto_region 22 with fail
                have hEb2 : SL.extract 2 SL.size = bs b := by rw [hzL]; exact hEb
                have hrbl : rb ≤ wc.heap.size := Nat.le_of_lt HPl.out.py.pw.res.lt
                go_cut [14, 15, 16] from 84 to 167 (fun v14 v15 v16 wx => ∃ (eb : Nat) (B : Option Addr) (bc : Nat), v14 = .pointer (some ⟨eb, 0, none⟩) ∧ v15 = .int .i64 F.s.e ∧ v16 = .int .i64 (F.s.c : Int) ∧
                  Hid (Blk wx eb 117 [.int .i64 F.kind, .int .i64 0, .int .i64 F.msg, .int .i64 F.time, .slice B F.asg.length bc, .string (bs F.peer), .int .i64 (F.pcol : Int)] ∧ OwnO wx rb 102 2 (.slice B F.asg.length bc) F.asg.length (asgV F.asg) ∧ Ex wc wx))
                case first =>
                  refine reg22_c x0 xl k1 hgal hEb2 hl2 (by omega) (fun w' h => HEv.out w' h) ?_
                  intro eb B bc wx v84 v85 v86 v87 v88 v89 v90 v91 v92 v93 v94 v95 v96 g1 g2 g3
                  go_wp2_with fail
                  go_meet
                  case rel => exact ⟨eb, B, bc, rfl, rfl, rfl, Lib.hid ⟨g1, OwnO.mono g2 hrbl, g3⟩⟩
                case rest =>
                  obtain ⟨eb, B, bc, rfl, rfl, rfl, HC⟩ := hcut
                  have HPc := Lib.hid (HPl.out.exx HC.out.2.2)
                  clear x0 xl k1 hgal HPl HEv HVr hEb2 hEb
                  cases hev : evL p.vars b 3 with
                  | error x =>
                    obtain ⟨xe, xc⟩ := x
                    have hEP := HEP.out
                    rw [hev] at hEP
                    obtain ⟨he1, he2, he3⟩ := hEP
                    have hP1 : parseT s = .error (xe, n, xc) := by
                      rw [HP.out, HPc.out.text, HSt.out]
                      unfold lineX
                      rw [hbd]
                      dsimp only
                      rw [List.getLast?_concat]
                      dsimp only
                      rw [hev]
                    have HPe := Lib.hid hP1
                    dsimp only at he1 he2 he3
                    rw [he1, he2]
                    have be : (xe != 0) = true := bne_iff_ne.2 he3
                    clear hP1 hbd HSt HEP hev he1 he2 he3 HM
                    have hpw := HPc.out.py.pw
                    have f0 := hpw.res.frozen 0
                    have f1 := hpw.pos.frozen 0
                    have f2 := hpw.pos.frozen 1
                    have z0 := hpw.res.cell 0
                    have z1 := hpw.pos.cell 0
                    have z2 := hpw.pos.cell 1
                    have zl := hpw.res.lt
                    have zm := hpw.pos.lt
                    clear hpw
                    go_wp2_with fail
                    have hr1 := HRb.out
                    have hp1 := HPb.out
                    exact rErr HPc.out.py.pw.ex HPe.out HPc.out.py.pw.res HPc.out.py.pw.pos (by omega) (by omega) n1 rfl rfl rfl
                  | ok S9 =>
                    have hEP := HEP.out
                    rw [hev] at hEP
                    obtain ⟨he1, s1, s2, s3, s4, s5, s6⟩ := hEP
                    have HNx : Hid (linesX 1 [] (spl 10 s) = linesX (n + 1) (p0 ++ [{ p with evs := p.evs ++ [reOf n S9] }]) (spl 10 lb)) := by
                      rw [HPc.out.text, HSt.out]
                      unfold lineX
                      rw [hbd]
                      dsimp only
                      rw [List.getLast?_concat]
                      dsimp only
                      rw [hev]
                      dsimp only
                      rw [addE_pr]
                      exact Lib.hid rfl
                    have HS := Lib.hid (And.intro s1 (And.intro s2 (And.intro s3 (And.intro s4 (And.intro s5 s6)))))
                    rw [he1]
                    have HAs : Hid (S9.asg.length ≤ 20000) := by have h1 := evL_asg hev; have h2 := HBl.out; exact Lib.hid (by omega)
                    obtain ⟨q0, q9, rfl, hq0, hq9⟩ := map_snoc_inv HPc.out.rowq
                    obtain ⟨r0, r9, rfl, hr0, hr9⟩ := HPc.out.rows.split
                    obtain ⟨gs, os, rfl, -, -, -, -⟩ := HPc.out.py.ss.last
                    obtain ⟨gq, oq, rfl, -, -, -, -⟩ := HPc.out.py.sq.last
                    obtain ⟨Dr, dr, hrv, -, -⟩ := OwnO.len (HPc.out.py.ss.row r9 (by simp))
                    obtain ⟨Dq, dq, hqv, -, -⟩ := OwnO.len (HPc.out.py.sq.row q9 (by simp))
                    obtain ⟨rv, rn, rx⟩ := r9
                    obtain ⟨qv, qn, qx⟩ := q9
                    dsimp only at hrv hqv
                    subst hrv hqv
                    have hr01 : r0.length = j := by rw [hr0.1, HJ.out]
                    have hq01 : q0.length = j := by have := congrArg List.length hq0; simp at this; rw [this, HJ.out]
                    have hqn : qn = p.evs.length := congrArg Prod.fst hq9
                    have hevl := (HPc.out.small.each p (by simp)).2.2.1
                    have hrn : rn ≤ 1000000 := by have := hr9.1; dsimp only at this; omega
                    have hqn2 : qn ≤ 1000000 := by omega
                    have hmm : mm.mes.length ≤ 1000000 := by
                      have h1 := congrArg (fun x : Pr => x.evs.length) HM.out.2
                      simp [PM.pr, RP.pr] at h1
                      omega
                    have HRr := Lib.hid (And.intro hr0 (And.intro hr9 hr01))
                    have HQr := Lib.hid (And.intro hq0 (And.intro hq9 hq01))
                    have HSm := Lib.hid HPc.out.small
                    have HW := Lib.hid HPc.out.py
                    have HB := Lib.hid HC.out.1
                    have HO := Lib.hid HC.out.2.1
                    clear hbd HSt HEP hev he1 s1 s2 s3 s4 s5 s6 hq0 hq9 hr0 hr9 hr01 hq01 hqn hevl HPc HC HP
                    go_upto_region 25 with fail
                    go_cut [] from 85 to 167 (fun wx => ∃ (E5 : Option Addr) (c5 : Nat), Hid (PY w rb pb tb ((p0 ++ [p]).map (·.line)) L lc (some ⟨gq, oq, none⟩) qc (some ⟨gs, os, none⟩) sc wx (some ⟨ga, oa, none⟩) ac (m0 ++ [{ mm with mes := mm.mes ++ [⟨⟨F.kind, 0, F.msg, F.time, F.asg⟩, B, bc⟩], E := E5, ec := c5 }]) (q0 ++ [Sl.mk (.slice Dq qn dq) qn qx]) (r0 ++ [Sl.mk (.slice Dr rn dr) rn rx]) ∧
                      Blk wx eb 117 [.int .i64 F.kind, .int .i64 0, .int .i64 F.msg, .int .i64 F.time, .slice B F.asg.length bc, .string (bs F.peer), .int .i64 (F.pcol : Int)]))
                    case first =>
                      refine reg25_c HW.out HJ1.out hmm (by omega) HB.out HO.out ?_
                      intro E5 c5 wx v104 v105 v106 v107 v108 v109 v110 v111 v112 v113 v114 v115 v116 v117 v118 g1 g2
                      go_wp2_with fail
                      go_meet
                      case rel => exact ⟨E5, c5, Lib.hid ⟨g1, g2⟩⟩
                    case rest =>
                      obtain ⟨E5, c5, HC⟩ := hcut
                      clear HW HB HO
                      go_upto_region 26 with fail
                      go_cut [] from 85 to 167 (fun wx => ∃ (D' : Option Addr) (dc' : Nat), Hid (PY w rb pb tb ((p0 ++ [p]).map (·.line)) L lc (some ⟨gq, oq, none⟩) qc (some ⟨gs, os, none⟩) sc wx (some ⟨ga, oa, none⟩) ac (m0 ++ [{ mm with mes := mm.mes ++ [⟨⟨F.kind, 0, F.msg, F.time, F.asg⟩, B, bc⟩], E := E5, ec := c5 }]) (q0 ++ [Sl.mk (.slice Dq qn dq) qn qx]) (r0 ++ [Sl.mk (.slice D' (rn + 1) dc') (rn + 1) (rx ++ ([.int .i64 F.kind, .int .i64 0, .int .i64 F.msg, .int .i64 F.time, .slice B F.asg.length bc, .string (bs F.peer), .int .i64 (F.pcol : Int)] : List Value))])))
                      case first =>
                        refine reg26_c HC.out.1 HRr.out.2.2 hrn (by omega) HC.out.2 ?_
                        intro D' dc' wx v119 v120 v121 v122 v123 v124 v125 v126 v127 v128 g1
                        go_wp2_with fail
                        go_meet
                        case rel => exact ⟨D', dc', Lib.hid g1⟩
                      case rest =>
                        obtain ⟨D', dc', HC2⟩ := hcut
                        clear HC
                        obtain ⟨_, _, e9, kgl, -, kq, kqf⟩ := HC2.out.sq.last
                        cases e9
                        rw [HQr.out.2.2] at kq
                        dsimp only at kq
                        have HRo : Hid (OwnO wc rb 3 1 (.slice Dq qn dq) qn qx) := HC2.out.sq.row (Sl.mk (.slice Dq qn dq) qn qx) (by simp)
                        obtain ⟨ip, hip, ip0, ip1, ip2⟩ := info_parts infoInt'
                        have hsz : rb ≤ wc.heap.size := Nat.le_of_lt HC2.out.pw.res.lt
                        go_wp2_with (at_builtin; refine wpList_append_one _ rfl _ _ 93 rfl rb 3 ip _ 1 8 Tryz.underlying93 hip ip0 ip1 ip2 rfl (.slice Dq qn dq) qn qx rfl (OwnO.ex HRo.out ((Ex.refl _).alloc _)) _ [.int .i64 (n : Int)] rfl rfl ?c1 ?c2 ?c3 ?c4 ?c5 ?_)
                        try case c1 => exact news_new rfl (by simp)
                        try case c2 => first | rfl | (intro u hu; simp only [List.mem_cons, List.not_mem_nil, or_false] at hu; subst hu; rfl)
                        try case c3 => omega
                        try case c4 => omega
                        try case c5 => first | exact hsz | omega | (simp; omega)
                        intro D2 dc2 w7 ho hg hat hEx
                        have hxa : Ex wc (wc.alloc (.cells #[.int .i64 (n : Int)] 3)) := (Ex.refl _).alloc _
                        have hN7 := PY.sl (r' := (Sl.mk (Value.slice D2 (qn + 1) dc2) (qn + 1) (qx ++ ([Value.int .i64 (n : Int)] : List Value)))) (w1 := w7) (HC2.out.exx hxa) hg ho (hat.imp id fun h => h.trans (by simp))
                        have hA7 := PY.slAt (w1 := w7) (HC2.out.exx hxa) hg
                        rw [HQr.out.2.2] at hA7 hN7
                        have y0 := hA7.1
                        dsimp only at y0
                        have yf := hA7.2.1 (oq + j)
                        have yl := hA7.2.2
                        have HN7 := Lib.hid hN7
                        clear hxa hN7 hA7 ho hg hat hEx kq kqf kgl
                        go_wp2_with fail
                        obtain ⟨s1, s2, s3, s4, s5, s6⟩ := HS.out
                        have hl' : (p0 ++ [{ p with evs := p.evs ++ [reOf n S9] }]).length = j + 1 := by simp [HJ.out]
                        have hln : (p0 ++ [p]).map (fun x : RP => x.line) = (p0 ++ [{ p with evs := p.evs ++ [reOf n S9] }]).map (fun x : RP => x.line) := by simp
                        have hev2 : (⟨F.kind, 0, F.msg, F.time, F.asg⟩ : Ev) = (reOf n S9).ev := by
                          show _ = (⟨S9.kind, 0, S9.msg, S9.time, S9.asg⟩ : Ev)
                          rw [s1, s4, s5, s6]
                        have hpy := HN7.out
                        rw [hln] at hpy
                        have hrq2 := rowq_snoc (re := reOf n S9) HQr.out.2.1
                        have hre2 := rowE_snoc (re := reOf n S9) (v := .slice D' (rn + 1) dc') (a := .int .i64 F.kind) (b := .int .i64 0) (c := .int .i64 F.msg) (d := .int .i64 F.time) (f := .slice B F.asg.length bc) HRr.out.2.1
                        have hpe : bs F.peer = (reOf n S9).peer := s2.symm
                        have hpcl : F.pcol = (reOf n S9).col := s3.symm
                        rw [← hpe, ← hpcl] at hre2
                        dsimp only at hre2
                        have hpf : PLoopR w rb pb tb s (s.drop (E + 1)) (n + 1) (p0 ++ [{ p with evs := p.evs ++ [reOf n S9] }]) L lc (some ⟨gq, oq, none⟩) qc (some ⟨gs, os, none⟩) sc (w7.setCell ⟨gq, oq + j, none⟩ (.slice D2 (qn + 1) dc2)) (some ⟨ga, oa, none⟩) ac (m0 ++ [{ mm with mes := mm.mes ++ [ME.mk ⟨F.kind, 0, F.msg, F.time, F.asg⟩ B bc], E := E5, ec := c5 }]) (q0 ++ [Sl.mk (Value.slice D2 (qn + 1) dc2) (qn + 1) (qx ++ ([Value.int .i64 (n : Int)] : List Value))]) (r0 ++ [Sl.mk (.slice D' (rn + 1) dc') (rn + 1) (rx ++ ([.int .i64 F.kind, .int .i64 0, .int .i64 F.msg, .int .i64 F.time, .slice B F.asg.length bc, .string (bs F.peer), .int .i64 (F.pcol : Int)] : List Value))]) := by
                          refine ⟨by rw [← HLb.out]; exact HNx.out, hpy, ?_, ?_, HRr.out.1.snoc hre2, HSm.out.ev HAs.out⟩
                          · rw [List.map_append, List.map_append, HM.out.1, List.map_singleton, List.map_singleton, pr_ev HM.out.2 hev2]
                          · rw [List.map_append, List.map_append, HQr.out.1, List.map_singleton, List.map_singleton]
                            exact congrArg (fun x => _ ++ [x]) hrq2
                        have HPf := Lib.hid hpf
                        have hN2 := HN.out
                        have hN3 := HNm.out
                        go_roundg n9
                        case measure => omega
                        case rel => exact ⟨E + 1, n, p0 ++ [{ p with evs := p.evs ++ [reOf n S9] }], L, lc, some ⟨gq, oq, none⟩, qc, some ⟨gs, os, none⟩, sc, by rw [hl'], by rw [hl'], by rw [hl'], rfl, by go_num, by omega, by omega, Lib.hid ⟨by omega, _, _, _, _, _, HPf.out⟩⟩
            | none =>
              have HPr := Lib.hid (fun w' => rprocess_c la w' (by omega))
              have HEP := Lib.hid (rProcess_plain la (spl 32 la).length (Nat.le_refl _))
              unfold RPcR RPcV at HPr
              generalize pcR (spl 32 la) (1 + la.length) (spl 32 la).length ⟨0, 0, 0⟩ = F at *
              have hSq : la.length < 2 ∨ (2 ≤ la.length ∧ ((bs (la.take 2)).toList == [32, 32]) = false) := by
                by_cases h : la.length < 2
                · exact .inl h
                · right
                  refine ⟨by omega, ?_⟩
                  rw [Lib.toList_data]
                  exact beq_eq_false_iff_ne.2 (body_none hbd (by omega))
              have HBd2 := Lib.hid hbd
              generalize bs (la.take 2) = SP at *
              generalize bs la = SL at *
              clear hbd
              go_upto_region 18 with fail
              go_cut [72] from 49 to 167 (fun b wx => b = .bool false ∧ Hid (Ex wc wx))
              case first =>
                rcases hSq with h | ⟨h1, h2⟩
                · have d2 : decide ((2 : Int) ≤ (la.length : Int)) = false := decide_eq_false (by omega)
                  have hn2 : ¬ 2 ≤ la.length := by omega
                  clear h
                  go_wp2_with fail
                  go_meet
                  case rel => exact ⟨rfl, Lib.hid (Ex.refl _)⟩
                · have d2 : decide ((2 : Int) ≤ (la.length : Int)) = true := decide_eq_true (by omega)
                  have hz2 : 2 ≤ SL.size := by omega
                  go_wp2_with fail
                  go_meet
                  case rel => exact ⟨rfl, Lib.hid (Ex.refl _)⟩
              case rest =>
                obtain ⟨rfl, HX2⟩ := hcut
                have HP2 := Lib.hid (HPl.out.exx HX2.out)
                clear x0 xl HPl HX2 hSq hSp
                go_wp2_with fail
                refine (HPr.out _).mono ?_
                rintro e9 w6 ⟨B, bc, rfl, ho6, hx6⟩
                have hrbl : rb ≤ wc.heap.size := Nat.le_of_lt HP2.out.py.pw.res.lt
                have HP6 := Lib.hid (HP2.out.exx hx6)
                have HO6 := Lib.hid (OwnO.mono ho6 hrbl)
                clear ho6 hx6 HP2 HPr hrbl
                have hx7 : Ex w6 (w6.alloc (.cells #[.string (bs F.name), .slice B F.vars.length bc, .slice none 0 0] 35)) := (Ex.refl _).alloc _
                have hB7 := Blk.new w6 35 [.string (bs F.name), .slice B F.vars.length bc, .slice none 0 0]
                have HPc := Lib.hid (HP6.out.exx hx7)
                have HO7 := Lib.hid (HO6.out.ex hx7)
                go_upto_region 29 with fail
                obtain ⟨qb, hqe⟩ : ∃ qb, qb = w6.heap.size := ⟨_, rfl⟩
                rw [← hqe] at hB7 ⊢
                have HB7 := Lib.hid hB7
                clear hqe hB7 hx7 HP6 HO6
                generalize w6.alloc (.cells #[.string (bs F.name), .slice B F.vars.length bc, .slice none 0 0] 35) = W7 at *
                cases hpc : pcL la with
                | error x =>
                  obtain ⟨xe, xc⟩ := x
                  have hEP := HEP.out
                  rw [hpc] at hEP
                  obtain ⟨he1, he2, he3⟩ := hEP
                  have hP1 : parseT s = .error (xe, n, xc) := by
                    rw [HP.out, HPc.out.text, HSt.out]
                    unfold lineX
                    rw [HBd2.out]
                    dsimp only
                    rw [hpc]
                  have HPe := Lib.hid hP1
                  dsimp only at he1 he2 he3
                  rw [he1, he2]
                  have be : (xe != 0) = true := bne_iff_ne.2 he3
                  clear hP1 HSt HEP hpc he1 he2 he3 HB7 HO7
                  have hpw := HPc.out.py.pw
                  have f0 := hpw.res.frozen 0
                  have f1 := hpw.pos.frozen 0
                  have f2 := hpw.pos.frozen 1
                  have z0 := hpw.res.cell 0
                  have z1 := hpw.pos.cell 0
                  have z2 := hpw.pos.cell 1
                  have zl := hpw.res.lt
                  have zm := hpw.pos.lt
                  clear hpw
                  go_wp2_with fail
                  have hr1 := HRb.out
                  have hp1 := HPb.out
                  exact rErr HPc.out.py.pw.ex HPe.out HPc.out.py.pw.res HPc.out.py.pw.pos (by omega) (by omega) n1 rfl rfl rfl
                | ok S9 =>
                  have hEP := HEP.out
                  rw [hpc] at hEP
                  obtain ⟨he1, hsn, hsv⟩ := hEP
                  rw [he1]
                  have hnx : linesX 1 [] (spl 10 s) = linesX (n + 1) (ps ++ [⟨n, S9.name, S9.vars, []⟩]) (spl 10 lb) := by
                    rw [HPc.out.text, HSt.out]
                    unfold lineX
                    rw [HBd2.out]
                    dsimp only
                    rw [hpc]
                  have hsml := pcL_small hpc
                  rw [hsn, hsv] at hnx hsml
                  have hsz := RSm.pr (p := ⟨n, bs F.name, F.vars, []⟩) HPc.out.small (Nat.le_trans hsml.1 (by omega)) (Nat.le_trans hsml.2.2 (by omega)) (fun v hv => Nat.le_trans (hsml.2.1 v hv) (by omega)) rfl
                  have HNx := Lib.hid hnx
                  have HSz := Lib.hid hsz
                  have HPY := Lib.hid HPc.out.py
                  have HPR := Lib.hid (And.intro HPc.out.pr (And.intro HPc.out.rowq HPc.out.rows))
                  have hml := HML.out.1
                  have hql := HML.out.2.1
                  have hrl := HML.out.2.2
                  have HMl := Lib.hid hml
                  have HQl := Lib.hid hql
                  have HRl := Lib.hid hrl
                  have x0 : W7.cell? ⟨tb, 0, none⟩ = some (.slice A ps.length ac) := by rw [← hml]; exact HPY.out.pw.px.cell.cell 0
                  have xl := HPY.out.pw.px.cell.lt
                  have b0 := HB7.out.cell 0
                  have b1' := HB7.out.cell 1
                  have b2 := HB7.out.cell 2
                  have bl := HB7.out.lt
                  have HPo : Hid (OwnO W7 rb 35 3 (.slice A ps.length ac) ps.length (ms.flatMap procV)) := by
                    have := HPY.out.pw.px.tp.procs
                    rw [hml] at this
                    exact Lib.hid this
                  have hsz8 : rb ≤ W7.heap.size := Nat.le_of_lt HPY.out.pw.res.lt
                  obtain ⟨ip, hip, ip0, ip1, ip2⟩ := info_parts infoPrc
                  obtain ⟨ii, hii, ii0, ii1, ii2⟩ := info_parts infoInt'
                  obtain ⟨iw, hiw, iw0, iw1, iw2⟩ := info_parts infoSlE
                  obtain ⟨iv, hiv, iv0, iv1, iv2⟩ := info_parts infoSlI
                  clear he1 hsn hsv hnx hsml hsz hpc HBd2 HSt HEP HPc hml hql hrl HP HB7
                  generalize bs F.name = nm at *
                  generalize F.vars = l at *
                  go_wp2_with (at_builtin; refine wpList_append_one _ rfl _ _ 22 rfl rb 35 ip _ 3 64 Tryz.underlying22 hip ip0 ip1 ip2 rfl (.slice A ps.length ac) ps.length (ms.flatMap procV) rfl (OwnO.ex HPo.out ((Ex.refl _).alloc _)) _ [.string nm, .slice B l.length bc, .slice none 0 0] rfl rfl ?h1 ?h2 ?h3 ?h4 ?h5 ?_)
                  try case h1 => exact news_new rfl (by simp)
                  try case h2 => first | rfl | (intro u hu; simp only [List.mem_cons, List.not_mem_nil, or_false] at hu; rcases hu with rfl | rfl | rfl <;> rfl) | (intro u hu; simp only [List.mem_cons, List.not_mem_nil, or_false] at hu; subst hu; rfl)
                  try case h3 => omega
                  try case h4 => omega
                  try case h5 => first | exact hsz8 | omega | (simp; omega)
                  intro A' ac' w9 ho hg hat hEx
                  have hxa : Ex W7 (W7.alloc (.cells #[.string nm, .slice B l.length bc, .slice none 0 0] 35)) := (Ex.refl _).alloc _
                  have hN9 := PY.pr (m := PM.mk nm l [] B bc none 0) (A' := A') (ac' := ac') (w1 := w9) (HPY.out.exx hxa) (by rw [HMl.out]; exact hg) (by rw [HMl.out]; exact ho) rfl ⟨rfl, rfl⟩ (HO7.out.ex hxa)
                  have hB9 := (HPY.out.pw.px.cell.ex hxa).chg (Chg.of_own (HPo.out.ex hxa) hg) (by decide)
                  rw [HMl.out] at hN9
                  have y0 := hB9.cell 0
                  rw [HMl.out] at y0
                  have yl := hB9.lt
                  have yf := hB9.frozen 0
                  have HN9 := Lib.hid hN9
                  clear hN9 hB9 hxa ho hg hat hEx x0 xl b0 b1' b2 bl HPo HO7 HPY
                  go_upto_region 32 with fail
                  generalize w9.setCell ⟨tb, 0, none⟩ (.slice A' (ps.length + 1) ac') = W9 at *
                  have HLo : Hid (OwnO W9 rb 3 1 (.slice L ps.length lc) ps.length (lnV (ps.map (·.line)))) := by
                    have := HN9.out.pw.px.lines
                    rw [List.length_map] at this
                    exact Lib.hid this
                  have hsz9 : rb ≤ W9.heap.size := Nat.le_of_lt HN9.out.pw.res.lt
                  clear y0 yl yf
                  go_wp2_with (at_builtin; refine wpList_append_one _ rfl _ _ 93 rfl rb 3 ii _ 1 8 Tryz.underlying93 hii ii0 ii1 ii2 rfl (.slice L ps.length lc) ps.length (lnV (ps.map (·.line))) rfl (OwnO.ex HLo.out ((Ex.refl _).alloc _)) _ [.int .i64 (n : Int)] rfl rfl ?i1 ?i2 ?i3 ?i4 ?i5 ?_)
                  try case i1 => exact news_new rfl (by simp)
                  try case i2 => first | rfl | (intro u hu; simp only [List.mem_cons, List.not_mem_nil, or_false] at hu; rcases hu with rfl | rfl | rfl <;> rfl) | (intro u hu; simp only [List.mem_cons, List.not_mem_nil, or_false] at hu; subst hu; rfl)
                  try case i3 => omega
                  try case i4 => omega
                  try case i5 => first | exact hsz9 | omega | (simp; omega)
                  intro L' lc' w10 ho hg hat hEx
                  have hxb : Ex W9 (W9.alloc (.cells #[.int .i64 (n : Int)] 3)) := (Ex.refl _).alloc _
                  have hN10 := PY.line_ (n := n) (L' := L') (lc' := lc') (w1 := w10) (HN9.out.exx hxb) (by rw [List.length_map]; exact hg) (by rw [List.length_map]; exact ho) (by rw [List.length_map]; exact hat.imp id fun h => h.trans (by simp))
                  have HN10 := Lib.hid hN10
                  have HQo : Hid (OwnO w10 rb 120 1 (.slice S ps.length sc) ps.length (rs.map (·.v))) := by
                    have := hN10.ss.outer
                    rw [HRl.out] at this
                    exact Lib.hid this
                  have hsz10 : rb ≤ w10.heap.size := Nat.le_of_lt hN10.pw.res.lt
                  clear hN10 hxb ho hg hat hEx HLo HN9
                  go_wp2_with (at_builtin; refine wpList_append_one _ rfl _ _ 115 rfl rb 120 iw _ 1 24 Tryz.underlying115 hiw iw0 iw1 iw2 rfl (.slice S ps.length sc) ps.length (rs.map (·.v)) rfl (OwnO.ex HQo.out ((Ex.refl _).alloc _)) _ [.slice none 0 0] rfl rfl ?j1 ?j2 ?j3 ?j4 ?j5 ?_)
                  try case j1 => exact news_new rfl (by simp)
                  try case j2 => first | rfl | (intro u hu; simp only [List.mem_cons, List.not_mem_nil, or_false] at hu; rcases hu with rfl | rfl | rfl <;> rfl) | (intro u hu; simp only [List.mem_cons, List.not_mem_nil, or_false] at hu; subst hu; rfl)
                  try case j3 => omega
                  try case j4 => omega
                  try case j5 => first | exact hsz10 | omega | (simp; omega)
                  intro S' sc' w11 ho hg hat hEx
                  have hxb : Ex w10 (w10.alloc (.cells #[.slice none 0 0] 120)) := (Ex.refl _).alloc _
                  have hN11 := PY.rs_ (S' := S') (sc' := sc') (w1 := w11) (HN10.out.exx hxb) (by rw [HRl.out]; exact hg) (by rw [HRl.out]; exact ho)
                  have HN11 := Lib.hid hN11
                  have HQp : Hid (OwnO w11 rb 93 1 (.slice Q ps.length qc) ps.length (rq.map (·.v))) := by
                    have := hN11.sq.outer
                    rw [HQl.out] at this
                    exact Lib.hid this
                  have hsz11 : rb ≤ w11.heap.size := Nat.le_of_lt hN11.pw.res.lt
                  clear hN11 hxb ho hg hat hEx HQo HN10
                  go_wp2_with (at_builtin; refine wpList_append_one _ rfl _ _ 114 rfl rb 93 iv _ 1 24 Tryz.underlying114 hiv iv0 iv1 iv2 rfl (.slice Q ps.length qc) ps.length (rq.map (·.v)) rfl (OwnO.ex HQp.out ((Ex.refl _).alloc _)) _ [.slice none 0 0] rfl rfl ?k1 ?k2 ?k3 ?k4 ?k5 ?_)
                  try case k1 => exact news_new rfl (by simp)
                  try case k2 => first | rfl | (intro u hu; simp only [List.mem_cons, List.not_mem_nil, or_false] at hu; rcases hu with rfl | rfl | rfl <;> rfl) | (intro u hu; simp only [List.mem_cons, List.not_mem_nil, or_false] at hu; subst hu; rfl)
                  try case k3 => omega
                  try case k4 => omega
                  try case k5 => first | exact hsz11 | omega | (simp; omega)
                  intro Q' qc' w12 ho hg hat hEx
                  have hxb : Ex w11 (w11.alloc (.cells #[.slice none 0 0] 93)) := (Ex.refl _).alloc _
                  have hN12 := PY.rq_ (Q' := Q') (qc' := qc') (w1 := w12) (HN11.out.exx hxb) (by rw [HQl.out]; exact hg) (by rw [HQl.out]; exact ho)
                  have HN12 := Lib.hid hN12
                  clear hN12 hxb ho hg hat hEx HQp HN11
                  go_wp2_with fail
                  have hl' : (ps ++ [RP.mk n nm l []]).length = ps.length + 1 := by simp
                  have hpf : PLoopR w rb pb tb s (s.drop (E + 1)) (n + 1) (ps ++ [RP.mk n nm l []]) L' lc' Q' qc' S' sc' w12 A' ac' (ms ++ [PM.mk nm l [] B bc none 0]) (rq ++ [⟨.slice none 0 0, 0, []⟩]) (rs ++ [⟨.slice none 0 0, 0, []⟩]) := by
                    refine ⟨by rw [← HLb.out]; exact HNx.out, by rw [List.map_append]; exact HN12.out, ?_, ?_, HPR.out.2.2.snoc (rowE_nil rfl), HSz.out⟩
                    · rw [List.map_append, List.map_append, HPR.out.1]
                      rfl
                    · rw [List.map_append, List.map_append, HPR.out.2.1]
                      rfl
                  have HPf := Lib.hid hpf
                  have hN2 := HN.out
                  have hN3 := HNm.out
                  go_roundg n9
                  case measure => omega
                  case rel => exact ⟨E + 1, n, ps ++ [RP.mk n nm l []], L', lc', Q', qc', S', sc', by rw [hl'], by rw [hl'], by rw [hl'], rfl, by go_num, by omega, by omega, Lib.hid ⟨by omega, _, _, _, _, _, HPf.out⟩⟩
end
section
open Go.RowKit Nu
/-- a trace without fault is small -/
theorem valid_tsm2 {t : List Pr} (h : (faultO t).2 = 0) : TSm t := by
  obtain ⟨h1, h2, h3, -, -⟩ := fault_zero h
  have hx : ∀ (p : Nat) (x : Pr), t[p]? = some x → x.name.size ≤ 16 ∧ x.vars.length ≤ 8 ∧ x.evs.length ≤ 64 ∧ (∀ v ∈ x.vars, v.1.size ≤ 16) ∧ ∀ e ∈ x.evs, e.asg.length ≤ 8 := fun p x hp => by
    have hh := h2 p (List.getElem?_eq_some_iff.1 hp).1
    unfold headE at hh
    rw [hp] at hh
    dsimp only at hh
    split at hh
    · cases hh
    rename_i g1
    split at hh
    · cases hh
    rename_i g2
    split at hh
    · rename_i g3; exact absurd hh g3
    split at hh
    · cases hh
    rename_i g4
    simp only [Bool.or_eq_true, Bool.not_eq_true', not_or, Bool.not_eq_false] at g1
    refine ⟨nameB_size g1.1, by omega, by omega, fun v hv => ?_, fun e he => ?_⟩
    · exact nameB_size ((good_all h x (List.mem_of_getElem? hp)).1.vars v hv).1
    · obtain ⟨i, hi⟩ := List.mem_iff_getElem?.1 he
      have hil := (List.getElem?_eq_some_iff.1 hi).1
      have hf := h3 (p, i + 1) ⟨Nat.succ_le_succ (Nat.zero_le _), by unfold evN; rw [hp]; exact hil⟩
      unfold formE at hf
      dsimp only at hf
      rw [hp] at hf
      dsimp only at hf
      rw [Nat.add_sub_cancel, hi] at hf
      dsimp only at hf
      unfold evE at hf
      split at hf
      · cases hf
      split at hf
      · cases hf
      split at hf
      · cases hf
      omega
  have hsum : ∀ l : List Pr, (∀ x ∈ l, x.evs.length ≤ 64) → sumN l ≤ 64 * l.length := fun l => by
    induction l with
    | nil => intro _; exact Nat.le_refl _
    | cons y l ih =>
      intro hl
      have a1 := ih fun x hx => hl x (List.mem_cons_of_mem _ hx)
      have a2 := hl y (by simp)
      unfold sumN
      rw [List.length_cons]
      omega
  have hall : ∀ x ∈ t, x.name.size ≤ 16 ∧ x.vars.length ≤ 8 ∧ x.evs.length ≤ 64 ∧ (∀ v ∈ x.vars, v.1.size ≤ 16) ∧ ∀ e ∈ x.evs, e.asg.length ≤ 8 := fun x hm => by
    obtain ⟨p, hp⟩ := List.mem_iff_getElem?.1 hm
    exact hx p x hp
  have h4 := hsum t fun x hm => (hall x hm).2.2.1
  refine ⟨by omega, by omega, fun x hm => ?_⟩
  obtain ⟨a1, a2, a3, a4, a5⟩ := hall x hm
  exact ⟨by omega, by omega, by omega, fun v hv => by have := a4 v hv; omega, fun e he => by have := a5 e he; omega⟩
/-- what a text's parse gives: the trace, or none; the place and the error -/
noncomputable def prT (l : List UInt8) : List Pr := match parseT l with
  | .ok t => t
  | .error _ => []
noncomputable def prP (l : List UInt8) : Int × Int × Int := match parseT l with
  | .ok _ => (0, 0, 0)
  | .error x => ((x.2.1 : Int), (x.2.2 : Int), x.1)
theorem prT_small (l : List UInt8) : TSm (prT l) := by
  unfold prT
  cases h : parseT l with
  | ok t => exact valid_tsm2 (parse_inv h).2.1
  | error x => exact ⟨Nat.zero_le _, Nat.zero_le _, fun x hx => absurd hx List.not_mem_nil⟩
theorem ParseR.both {l : List UInt8} {w w' : World} {e : Ending} (h : ParseR l w e w') : Ex w w' ∧ ∃ A c, e = .returned (.tuple #[.agg #[.slice A (prT l).length c], .agg #[.int .i64 (prP l).1, .int .i64 (prP l).2.1], .int .i64 (prP l).2.2]) ∧ TcC w' A (prT l) := by
  obtain ⟨hx, hm⟩ := h
  refine ⟨hx, ?_⟩
  unfold prT prP
  cases hp : parseT l with
  | ok t =>
    rw [hp] at hm
    obtain ⟨A, c, he, hT, -⟩ := hm
    exact ⟨A, c, he, hT⟩
  | error x =>
    rw [hp] at hm
    refine ⟨none, 0, hm, fun p x h => ?_⟩
    simp at h
def prBad (s : ByteArray) : Bool := (decide (3000 < s.size) && decide (s.size ≤ 16384)) || decide (16484 < s.size)
set_option maxRecDepth 100000 in
set_option maxHeartbeats 6400000 in
theorem parses_law (s : ByteArray) (w : World) (hE : Env w) : Calls Tryz.prog 4 #[.string s] w (Ret w (.bool true)) := by
  have HAw : Hid (Calls Tryz.prog 10 #[] w (Ret w (.bool true))) := awake_c w hE
  have hss : bs s.data.toList = s := by rcases s with ⟨⟨l⟩⟩; rfl
  have hsl : s.data.toList.length = s.size := (size_data s).symm
  have HPc : Hid (s.size ≤ 1000000 → ∀ w', Ex w w' → Calls Tryz.prog 20 #[.string s] w' (ParseR s.data.toList w')) := fun hl w' h => by
    have h1 := parse_c s.data.toList w' (hE.ex h) (by omega)
    rw [hss] at h1
    exact h1
  have HRc : Hid (s.size ≤ 1000000 → ∀ w', Ex w w' → Calls Tryz.prog 21 #[.string s] w' (ParseR s.data.toList w')) := fun hl w' h => by
    have h1 := rparse_c s.data.toList w' (by omega)
    rw [hss] at h1
    exact h1
  clear hE hss hsl
  go_enter Tryz.func4, Tryz.ntmps4
  go_wp2_with fail
  refine (HAw.out).mono ?_
  rintro e9 w2 ⟨rfl, hx⟩
  have HX2 := Lib.hid hx
  clear hx HAw
  go_upto_region 3 with fail
  go_cut [23] from 11 to 23 (fun b wx => b = .bool (prBad s) ∧ Hid (Ex w wx))
  case first =>
    by_cases h1 : 3000 < s.size
    · have d1 : decide ((3000 : Int) < (s.size : Int)) = true := decide_eq_true (by omega)
      by_cases h2 : s.size ≤ 16384
      · have d2 : decide ((s.size : Int) ≤ 16384) = true := decide_eq_true (by omega)
        have HB : Hid (prBad s = true) := by unfold prBad; rw [decide_eq_true h1, decide_eq_true h2]; exact Lib.hid rfl
        go_wp2_with fail
        go_meet
        case rel => exact ⟨by rw [HB.out], HX2⟩
      · have d2 : decide ((s.size : Int) ≤ 16384) = false := decide_eq_false (by omega)
        by_cases h3 : 16484 < s.size
        · have d3 : decide ((16484 : Int) < (s.size : Int)) = true := decide_eq_true (by omega)
          have HB : Hid (prBad s = true) := by unfold prBad; rw [decide_eq_true h1, decide_eq_false h2, decide_eq_true h3]; exact Lib.hid rfl
          go_wp2_with fail
          go_meet
          case rel => exact ⟨by rw [HB.out], HX2⟩
        · have d3 : decide ((16484 : Int) < (s.size : Int)) = false := decide_eq_false (by omega)
          have HB : Hid (prBad s = false) := by unfold prBad; rw [decide_eq_true h1, decide_eq_false h2, decide_eq_false h3]; exact Lib.hid rfl
          go_wp2_with fail
          go_meet
          case rel => exact ⟨by rw [HB.out], HX2⟩
    · have d1 : decide ((3000 : Int) < (s.size : Int)) = false := decide_eq_false (by omega)
      have h3 : ¬ 16484 < s.size := by omega
      have d3 : decide ((16484 : Int) < (s.size : Int)) = false := decide_eq_false (by omega)
      have HB : Hid (prBad s = false) := by unfold prBad; rw [decide_eq_false h1, decide_eq_false h3]; exact Lib.hid rfl
      go_wp2_with fail
      go_meet
      case rel => exact ⟨by rw [HB.out], HX2⟩
  case rest =>
    obtain ⟨rfl, HX3⟩ := hcut
    clear HX2
    cases hbad : prBad s with
    | true =>
      clear hbad HPc HRc
      go_wp2_with fail
      go_ret
      exact Ret.mk rfl HX3.out
    | false =>
      have hln : s.size ≤ 1000000 := by
        unfold prBad at hbad
        simp only [Bool.or_eq_false_iff, decide_eq_false_iff_not] at hbad
        omega
      have HP := Lib.hid (HPc.out hln)
      have HR := Lib.hid (HRc.out hln)
      have HTs := Lib.hid (prT_small s.data.toList)
      have HBo := Lib.hid (fun (w0 w1 : World) (e : Ending) (h : ParseR s.data.toList w0 e w1) => ParseR.both h)
      clear hbad hln HPc HRc
      generalize prT s.data.toList = T at *
      generalize prP s.data.toList = P at *
      obtain ⟨pl, pc, er⟩ := P
      dsimp only at HBo
      go_wp2_with fail
      refine (HP.out _ HX3.out).mono ?_
      intro e9 w4 hp4
      obtain ⟨hx, A1, c1, rfl, hT1⟩ := HBo.out _ _ _ hp4
      have hB1 := (Blk.new w4 24 [.slice A1 T.length c1]).alloc (.cells #[.int .i64 pl, .int .i64 pc] 48)
      have hz : (w4.alloc (.cells #[.slice A1 T.length c1] 24)).heap.size = w4.heap.size + 1 := Array.size_push _
      have hB2 := Blk.new (w4.alloc (.cells #[.slice A1 T.length c1] 24)) 48 [.int .i64 pl, .int .i64 pc]
      rw [hz] at hB2
      have hX5 : Ex w4 ((w4.alloc (.cells #[.slice A1 T.length c1] 24)).alloc (.cells #[.int .i64 pl, .int .i64 pc] 48)) := ((Ex.refl w4).alloc _).alloc _
      have HX5 := Lib.hid ((HX3.out.trans hx).trans hX5)
      have HT1 := Lib.hid (hT1.ex hX5)
      have HB1 := Lib.hid hB1
      have HB2 := Lib.hid hB2
      clear hp4 hx hT1 hB1 hB2 hz hX5
      go_upto_region 6 with fail
      generalize (w4.alloc (.cells #[.slice A1 T.length c1] 24)).alloc (.cells #[.int .i64 pl, .int .i64 pc] 48) = W5 at *
      generalize w4.heap.size + 1 = b2 at *
      generalize w4.heap.size = b1 at *
      go_wp2_with fail
      refine (HR.out _ HX5.out).mono ?_
      intro e9 w6 hp6
      obtain ⟨hx, A2, c2, rfl, hT2⟩ := HBo.out _ _ _ hp6
      have hB3 := (Blk.new w6 24 [.slice A2 T.length c2]).alloc (.cells #[.int .i64 pl, .int .i64 pc] 48)
      have hz : (w6.alloc (.cells #[.slice A2 T.length c2] 24)).heap.size = w6.heap.size + 1 := Array.size_push _
      have hB4 := Blk.new (w6.alloc (.cells #[.slice A2 T.length c2] 24)) 48 [.int .i64 pl, .int .i64 pc]
      rw [hz] at hB4
      have hX7 : Ex w6 ((w6.alloc (.cells #[.slice A2 T.length c2] 24)).alloc (.cells #[.int .i64 pl, .int .i64 pc] 48)) := ((Ex.refl w6).alloc _).alloc _
      have HX7 := Lib.hid ((HX5.out.trans hx).trans hX7)
      have HY7 := Lib.hid (hx.trans hX7)
      have HT2 := Lib.hid (hT2.ex hX7)
      have HB3 := Lib.hid hB3
      have HB4 := Lib.hid hB4
      clear hp6 hx hT2 hB3 hB4 hz hX7
      go_upto_region 7 with fail
      generalize (w6.alloc (.cells #[.slice A2 T.length c2] 24)).alloc (.cells #[.int .i64 pl, .int .i64 pc] 48) = W7 at *
      generalize w6.heap.size + 1 = b4 at *
      generalize w6.heap.size = b3 at *
      have HSm := Lib.hid (same_c T A1 A2 c1 c2 W7 (HT1.out.ex HY7.out) HT2.out HTs.out)
      have x0 := (HB1.out.ex HY7.out).cell 0
      have xl := (HB1.out.ex HY7.out).lt
      have y0 := HB3.out.cell 0
      have yl := HB3.out.lt
      go_wp2_with fail
      refine (HSm.out).mono ?_
      rintro e9 w8 ⟨rfl, hx⟩
      have HX8 := Lib.hid (HX7.out.trans hx)
      have hq1 := (HB2.out.ex HY7.out).ex hx
      have hq2 := HB4.out.ex hx
      clear x0 xl y0 yl hx
      have x0 := hq1.cell 0
      have x1 := hq1.cell 1
      have xl := hq1.lt
      have y0 := hq2.cell 0
      have y1 := hq2.cell 1
      have yl := hq2.lt
      clear hq1 hq2
      go_wp2_with fail
      go_ret
      exact Ret.mk (by simp) HX8.out
end
end Go.Proofs.YtpmponafjhnegaaGreatDoor
