/-
  What Parse does behind its loop, walked by itself.
  Conditions: as each theorem says; the world's tables are as laid (Env).
-/
import Derived.Test.YtpmponafjhnegaaGreatDoorMm
import Derived.Test.YtpmponafjhnegaaGreatDoorMl
import Derived.BigRegion
import Derived.Deep.RegionLaw
import Derived.RegionTactic
import Derived.ChangeAlike
import Derived.Deep.Cut
import Derived.Deep.CutBlock
import Derived.Deep.LoopGhost
namespace Go.Proofs.YtpmponafjhnegaaGreatDoor
open Go.RowKit Nu
/-- the first region of a code -/
def firstReg : Code → Option Nat
  | .region k _ _ => some k
  | .loop c => firstReg c
  | .seq a _ => firstReg a
  | .block _ c => firstReg c
  | .scope c => firstReg c
  | _ => none
/-- what stands behind, from a region on -/
def findRest (n : Nat) : Code → Option Code
  | .loop c => findRest n c
  | .seq a b => match findRest n a with
    | some c => some c
    | none => if firstReg b = some n then some b else findRest n b
  | .block _ c => findRest n c
  | .scope c => findRest n c
  | .cond _ a b => match findRest n a with
    | some c => some c
    | none => findRest n b
  | _ => none
noncomputable def restC : Code := ((Tryz.f20.body.bind (findRest 36)).getD .skip)
set_option maxRecDepth 1000000 in
set_option maxHeartbeats 100000000 in
theorem rest_c (s : List UInt8) (w : World) (hbig : ¬ 16384 < s.length) {rb pb tb n : Nat} {ps : List RP} {L : Option Addr} {lc : Nat} {Q : Option Addr} {qc : Nat} {wr : World} {A : Option Addr} {ac : Nat} {ms : List PM} {rows : List Sl}
    (hrb : rb = w.heap.size) (hpb : pb = w.heap.size + 1) (htb : tb = w.heap.size + 2) (hn : n ≤ 20000) (hP : PLoop w rb pb tb s [] n ps L lc Q qc wr A ac ms rows)
    {u0 u4 u9 u10 u11 u12 u13 u14 u15 u16 u17 u18 u19 u20 u21 u22 u23 u24 u25 u26 u27 u28 u29 u30 u31 u32 u33 u34 u35 u36 u37 u38 u39 u40 u41 u42 u43 u44 u45 u46 u47 u48 u49 u50 u51 u52 u53 u54 u55 u56 u57 u58 u59 u60 u61 u62 u63 u64 u65 u66 u67 u68 u69 u70 u71 u72 u73 u74 u75 u76 u77 u78 u79 u80 u81 u82 u83 u84 u85 u86 u87 u88 u89 u90 u91 u92 u93 u94 u95 u96 u97 u98 u99 u100 u101 u102 u103 u104 u105 u106 u107 u108 u109 u110 u111 u112 u113 u114 u115 u116 u117 u118 u119 u120 u121 u122 u123 u124 u125 u126 u127 u128 u129 u130 u131 u132 u133 u134 u135 u136 u137 u138 u139 u140 u141 u142 u143 u144 u145 u146 u147 u148 u149 u150 u151 u152 u153 u154 u155 u156 u157 u158 u159 u160 u161 u162 u163 u164 u165 u166 u167 u168 u169 u170 u171 u172 u173 u174 u175 u176 u177 u178 u179 u180 u181 u182 u183 u184 u185 u186 u187 u188 u189 u190 u191 u192 u193 u194 u195 : Value} :
    Code.wp Tryz.prog restC (bodyPost Tryz.prog Tryz.f20 (ParseR s w)) ⟨#[u0, undef, .pointer (some ⟨rb, 0, none⟩), .pointer (some ⟨pb, 0, none⟩), u4, .func (.func 52) #[] #[], .pointer (some ⟨tb, 0, none⟩), .slice L ps.length lc, .slice Q ps.length qc, u9, u10, u11, u12, u13, u14, u15, u16, u17, u18, u19, u20, u21, u22, u23, u24, u25, u26, u27, u28, u29, u30, u31, u32, u33, u34, u35, u36, u37, u38, u39, u40, u41, u42, u43, u44, u45, u46, u47, u48, u49, u50, u51, u52, u53, u54, u55, u56, u57, u58, u59, u60, u61, u62, u63, u64, u65, u66, u67, u68, u69, u70, u71, u72, u73, u74, u75, u76, u77, u78, u79, u80, u81, u82, u83, u84, u85, u86, u87, u88, u89, u90, u91, u92, u93, u94, u95, u96, u97, u98, u99, u100, u101, u102, u103, u104, u105, u106, u107, u108, u109, u110, u111, u112, u113, u114, u115, u116, u117, u118, u119, u120, u121, u122, u123, u124, u125, u126, u127, u128, u129, u130, u131, u132, u133, u134, u135, u136, u137, u138, u139, u140, u141, u142, u143, u144, u145, u146, u147, u148, u149, u150, u151, u152, u153, u154, u155, u156, u157, u158, u159, u160, u161, u162, u163, u164, u165, u166, u167, u168, u169, u170, u171, u172, u173, u174, u175, u176, u177, u178, u179, u180, u181, u182, u183, u184, u185, u186, u187, u188, u189, u190, u191, u192, u193, u194, u195, undef, undef, undef, undef, undef, undef, undef, undef, undef, undef, undef, undef, undef, undef, undef, undef, undef, undef, undef, undef, undef, undef, undef, undef, undef, undef, undef, undef, undef, undef, undef, undef, undef, undef, undef, undef, undef, undef, undef, undef, undef, undef, undef, undef, undef, undef, undef, undef, undef, undef, undef, undef, undef, undef, undef, undef, undef, undef, undef, undef, undef, undef, undef, undef, undef, undef, undef, undef, undef, undef, undef, undef, undef, undef, undef, undef, undef, undef, undef, undef, undef, undef, undef, undef, undef, undef, undef, undef, undef, undef, undef, undef, undef, undef, undef], []⟩ wr := by
  have HFa := Lib.hid (fun (l c e : Int) w' => pfail_c l c e w')
  have n1 : rb ≠ pb := by omega
  have n2 : pb ≠ rb := by omega
  have n3 : rb ≠ tb := by omega
  have n4 : tb ≠ rb := by omega
  have n5 : pb ≠ tb := by omega
  have n6 : tb ≠ pb := by omega
  have HRb := Lib.hid hrb
  have HPb := Lib.hid hpb
  have HTb := Lib.hid htb
  have HP : Hid (parseT s = match linesX 1 [] (spl 10 s) with
    | .error x => .error x
    | .ok ps => match resPs (ps.map (·.name)) ps with
      | .error x => .error x
      | .ok t => if (faultO t).2 = 0 then .ok t else .error (plcO ps (faultO t))) := by unfold parseT; rw [if_neg hbig]; exact Lib.hid rfl
  clear hrb hpb htb hbig
  conv => arg 2; whnf
  have hml : ms.length = ps.length := by have := congrArg List.length hP.pr; simpa using this
  have hrl : rows.length = ps.length := by have := congrArg List.length hP.row; simpa using this
  have hT1 : parseT s = match resPs (ps.map (·.name)) ps with
    | .error x => .error x
    | .ok t => if (faultO t).2 = 0 then .ok t else .error (plcO ps (faultO t)) := by rw [HP.out, hP.text, linesX_nil]
  have HT1 := Lib.hid hT1
  have hpw : PW w rb pb tb (ps.map (·.line)) L lc Q qc wr A ac ms rows := ⟨hP.px, hP.res, hP.pos, hP.ex, Nat.le_of_eq HRb.out.symm, n3, by have := HTb.out; omega⟩
  have HSm := Lib.hid hP.small
  have HRw : Hid (∀ (k : Nat) r q, rows[k]? = some r → ps[k]? = some q → r.n = q.evs.length ∧ r.xs = plV q.evs) := fun k r q h1 h2 => by
    have h3 := map_at hP.row h1 h2
    unfold RP.row at h3
    exact Prod.mk.inj h3
  have HS0 : Hid (Peers (ps.map (·.name)) ps ms 0 0) := Peers.start hP.pr
  have HW0 := Lib.hid hpw
  have HRl := Lib.hid hrl
  have hpn : ps.length ≤ 20000 := by have := hP.small.procs; omega
  have HNn : Hid (n ≤ 20000) := Lib.hid hn
  clear hP hpw hT1 hrl hml hn HP
  go_wp2_with fail
  go_loopg [198] ps.length (fun gg v wx => ∃ (p : Nat) (mz : List PM), v = .int .i64 (p : Int) ∧ p ≤ ps.length ∧ ps.length ≤ p + gg ∧ Hid (Peers (ps.map (·.name)) ps mz p 0 ∧ PW w rb pb tb (ps.map (·.line)) L lc Q qc wx A ac mz rows))
  case atStart => exact ⟨0, ms, rfl, Nat.zero_le _, by omega, Lib.hid ⟨HS0.out, HW0.out⟩⟩
  case round =>
    obtain ⟨p, mz, rfl, hp, hpg, HI⟩ := hrel
    clear HW0 HS0
    by_cases hpl2 : p < ps.length
    · obtain ⟨n9, rfl⟩ : ∃ n9, gk = n9 + 1 := ⟨gk - 1, by omega⟩
      obtain ⟨q, hq⟩ : ∃ q, ps[p]? = some q := ⟨_, List.getElem?_eq_getElem hpl2⟩
      obtain ⟨r, hr⟩ : ∃ r, rows[p]? = some r := ⟨_, List.getElem?_eq_getElem (by have := HRl.out; omega)⟩
      obtain ⟨hrn, hrx⟩ := HRw.out p r q hr hq
      obtain ⟨gq, oq, rfl, hgq, hqc, kq⟩ := HI.out.2.rowAt hr
      obtain ⟨D, dc, hrv, hrd⟩ := HI.out.2.rowLen (List.mem_of_getElem? hr)
      rw [hrv, hrn] at kq
      rw [hrn] at hrv
      have i0 : (0 : Int) ≤ (p : Int) := by omega
      have i1 : (p : Int) < (ps.length : Int) := by omega
      have hen : q.evs.length ≤ 20000 := by have h1 := HSm.out.each q (List.mem_of_getElem? hq); have h2 := HNn.out; omega
      have HQ := Lib.hid (And.intro hq (And.intro hr (And.intro hrv (And.intro hrn hrx))))
      clear hq hr hrv hrn hrx hrd hqc
      go_wp2_with fail
      go_loopg [205] q.evs.length (fun gg v wx => ∃ (i : Nat) (my : List PM), v = .int .i64 (i : Int) ∧ i ≤ q.evs.length ∧ q.evs.length ≤ i + gg ∧ Hid (Peers (ps.map (·.name)) ps my p i ∧ PW w rb pb tb (ps.map (·.line)) L lc (some ⟨gq, oq, none⟩) qc wx A ac my rows))
      case atStart => exact ⟨0, mz, rfl, Nat.zero_le _, by omega, HI⟩
      case round =>
        obtain ⟨i, my, rfl, hi, hig, HJ⟩ := hrel
        clear HI kq hgq
        by_cases hil : i < q.evs.length
        · obtain ⟨n8, rfl⟩ : ∃ n8, gk = n8 + 1 := ⟨gk - 1, by omega⟩
          obtain ⟨e, he⟩ : ∃ e, q.evs[i]? = some e := ⟨_, List.getElem?_eq_getElem hil⟩
          obtain ⟨gd, od, rfl, hgd, k0, k1, k2⟩ := HJ.out.2.plcAt (List.mem_of_getElem? HQ.out.2.1) HQ.out.2.2.1 HQ.out.2.2.2 he
          have j0 : (0 : Int) ≤ (i : Int) := by omega
          have j1 : (i : Int) < (q.evs.length : Int) := by omega
          have HEe := Lib.hid he
          clear he
          have hpe : e.peer.toList.isEmpty = decide (e.peer.size = 0) := by
            rw [Lib.toList_data, Bool.eq_iff_iff, decide_eq_true_eq, List.isEmpty_iff]
            constructor
            · intro h
              have := congrArg List.length h
              simpa using this
            · intro h
              exact List.eq_nil_of_length_eq_zero (by simpa using h)
          have x0 : wr.cell? ⟨tb, 0, none⟩ = some (.slice A ps.length ac) := by rw [← HJ.out.1.len]; exact HJ.out.2.px.cell.cell 0
          have xl := HJ.out.2.px.cell.lt
          have hx7 : Ex wr (wr.alloc (.cells #[.int .i64 (e.line : Int), .int .i64 (e.col : Int), .string e.peer] 109)) := (Ex.refl wr).alloc _
          have HX7 := Lib.hid hx7
          clear hx7
          by_cases h0 : e.peer.size = 0
          · have HN : Hid (Peers (ps.map (·.name)) ps my p (i + 1)) := HJ.out.1.skip HQ.out.1 HEe.out h0
            rw [decide_eq_true h0] at hpe
            clear h0 x0 xl
            go_wp2_with fail
            go_roundg n8
            case measure => omega
            case rel => exact ⟨i + 1, my, by go_num, by omega, by omega, Lib.hid ⟨HN.out, HJ.out.2.exx HX7.out⟩⟩
          · have HFi : Hid (∀ wy, Ex wr wy → Calls Tryz.prog 47 #[.agg #[.slice A ps.length ac], .string e.peer] wy (Ret wy (.int .i64 (idxV (pIdx e.peer (ps.map (·.name))))))) := fun wy hy => by
              have h := find_c (my.map PM.pr) A ac e.peer wy ((HJ.out.2.px.tp.tc).ex hy) (by rw [List.length_map, HJ.out.1.len]; omega)
              rw [List.length_map, HJ.out.1.len, HJ.out.1.names] at h
              exact h
            have hB7 := Blk.new wr 109 [.int .i64 (e.line : Int), .int .i64 (e.col : Int), .string e.peer]
            have HB7 := Lib.hid hB7
            have H0 := Lib.hid h0
            rw [decide_eq_false h0] at hpe
            clear hB7 h0
            cases hz : pIdx e.peer (ps.map (·.name)) with
            | none =>
              rw [hz] at HFi
              have HFj : Hid (∀ wy, Ex wr wy → Calls Tryz.prog 47 #[.agg #[.slice A ps.length ac], .string e.peer] wy (Ret wy (.int .i64 (-1)))) := HFi
              have hP1 : parseT s = .error (13, e.line, e.col) := by rw [HT1.out, HJ.out.1.bad HQ.out.1 HEe.out H0.out hz]
              have HPe := Lib.hid hP1
              have HFs := Lib.hid (fun w' => HFa.out (e.line : Int) (e.col : Int) 13 w')
              clear hP1 HFi hz
              go_wp2_with fail
              refine (HFj.out _ HX7.out).mono ?_
              rintro e9 w5 ⟨rfl, hx⟩
              have HP5 := Lib.hid (HJ.out.2.exx (HX7.out.trans hx))
              have hB5 := HB7.out.ex hx
              have v0 := hB5.cell 0
              have v1 := hB5.cell 1
              have vl := hB5.lt
              clear hx hB5
              go_wp2_with fail
              refine (HFs.out _).mono ?_
              rintro e9 w6 ⟨rfl, hx⟩
              have HP6 := Lib.hid (HP5.out.exx hx)
              clear hx HP5 v0 v1 vl x0 xl
              have f0 := HP6.out.res.frozen 0
              have f1 := HP6.out.pos.frozen 0
              have f2 := HP6.out.pos.frozen 1
              have z0 := HP6.out.res.cell 0
              have z1 := HP6.out.pos.cell 0
              have z2 := HP6.out.pos.cell 1
              have zl := HP6.out.res.lt
              have zm := HP6.out.pos.lt
              unfold errV
              go_wp2_with fail
              have hr1 := HRb.out
              have hp1 := HPb.out
              exact pErr HP6.out.ex HPe.out HP6.out.res HP6.out.pos (by omega) (by omega) n1 rfl rfl rfl
            | some z =>
              rw [hz] at HFi
              have HFj : Hid (∀ wy, Ex wr wy → Calls Tryz.prog 47 #[.agg #[.slice A ps.length ac], .string e.peer] wy (Ret wy (.int .i64 (z : Int)))) := HFi
              have HZ := Lib.hid hz
              obtain ⟨m, hm⟩ : ∃ m, my[p]? = some m := ⟨_, List.getElem?_eq_getElem (by rw [HJ.out.1.len]; omega)⟩
              have hml2 := (HJ.out.1.head p m q hm HQ.out.1).2.2
              obtain ⟨x, hx⟩ : ∃ x, m.mes[i]? = some x := ⟨_, List.getElem?_eq_getElem (by omega)⟩
              have HMX := Lib.hid (And.intro hm (And.intro hx hml2))
              have b3 : decide ((z : Int) < 0) = false := decide_eq_false (by omega)
              clear HFi hz hm hx hml2
              go_wp2_with fail
              refine (HFj.out _ HX7.out).mono ?_
              rintro e9 w5 ⟨rfl, hx⟩
              have HP5 := Lib.hid (HJ.out.2.exx (HX7.out.trans hx))
              clear hx x0 xl
              obtain ⟨ga, oa, rfl, hga, -, -, c2, -⟩ := HP5.out.procAt HMX.out.1
              obtain ⟨ge, oe, hmE, hge, ce, cf⟩ := HP5.out.evCell HMX.out.1 HMX.out.2.1
              rw [hmE, HMX.out.2.2] at c2
              rw [← Nat.add_assoc] at ce
              have cf1 := cf (oe + i * 5 + 1)
              have x0 : w5.cell? ⟨tb, 0, none⟩ = some (.slice (some ⟨ga, oa, none⟩) ps.length ac) := by rw [← HJ.out.1.len]; exact HP5.out.px.cell.cell 0
              have xl := HP5.out.px.cell.lt
              have hpw9 := HP5.out.peer (z : Int) HMX.out.1 HMX.out.2.1 hmE
              rw [← Nat.add_assoc] at hpw9
              have HW9 := Lib.hid hpw9
              have HN := Lib.hid (HJ.out.1.put HQ.out.1 HEe.out H0.out HZ.out HMX.out.1 HMX.out.2.1)
              clear hpw9 hmE cf
              go_wp2_with fail
              go_roundg n8
              case measure => omega
              case rel => exact ⟨i + 1, _, by go_num, by omega, by omega, Lib.hid ⟨HN.out, HW9.out⟩⟩
        · obtain rfl : i = q.evs.length := by omega
          have m1 : decide ((q.evs.length : Int) < (q.evs.length : Int)) = false := decide_eq_false (by omega)
          go_wp2_with fail
          go_roundg n9
          case measure => omega
          case rel => exact ⟨p + 1, my, by go_num, by omega, by omega, Lib.hid ⟨HJ.out.1.next HQ.out.1 rfl, HJ.out.2⟩⟩
    · obtain rfl : p = ps.length := by omega
      have m1 : decide ((ps.length : Int) < (ps.length : Int)) = false := decide_eq_false (by omega)
      obtain ⟨hT, hres⟩ := HI.out.1.end_
      have hP9 := HT1.out
      rw [hres] at hP9
      dsimp only at hP9
      have hTs : TSm (mz.map PM.pr) := by rw [hT]; exact HSm.out.tsm HNn.out
      obtain ⟨A9, c9, hA9, hcap, -⟩ := HI.out.2.px.tp.procs.len
      cases hA9
      have hlz := HI.out.1.len
      have HFt : Hid (∀ wy, Ex wr wy → Calls Tryz.prog 59 #[.agg #[.slice A ps.length ac]] wy (Ret wy (pfaultV (faultO (mz.map PM.pr))))) := fun wy hy => by
        have h := pFault_c (mz.map PM.pr) A ac wy ((HI.out.2.px.tp.tc).ex hy) hTs (by rw [List.length_map]; exact hcap)
        rw [List.length_map, hlz] at h
        exact h
      have hpl9 := fault_place (mz.map PM.pr)
      have HL9 := Lib.hid (And.intro hlz hcap)
      have x0 : wr.cell? ⟨tb, 0, none⟩ = some (.slice A ps.length ac) := by rw [← hlz]; exact HI.out.2.px.cell.cell 0
      have xl := HI.out.2.px.cell.lt
      have HT9 := Lib.hid hT
      generalize faultO (mz.map PM.pr) = F9 at *
      obtain ⟨⟨fp, fi⟩, fe⟩ := F9
      have HP9 := Lib.hid hP9
      have HPl9 := Lib.hid hpl9
      unfold pfaultV idV at HFt
      clear hP9 hpl9 hTs hcap hlz hres hT
      dsimp only at HFt
      go_wp2_with fail
      refine (HFt.out _ (Ex.refl _)).mono ?_
      rintro e9 w5 ⟨rfl, hx⟩
      have HW5 := Lib.hid (HI.out.2.exx hx)
      clear hx x0 xl HI
      go_upto_region 50 with fail
      have hB6 := Blk.new w5 40 [.int .i64 (fp : Int), .int .i64 (fi : Int)]
      have hx6 : Ex w5 (w5.alloc (.cells #[.int .i64 (fp : Int), .int .i64 (fi : Int)] 40)) := (Ex.refl _).alloc _
      have HW6 := Lib.hid (HW5.out.exx hx6)
      obtain ⟨ib, hib⟩ : ∃ ib, ib = w5.heap.size := ⟨_, rfl⟩
      rw [← hib] at hB6 ⊢
      have HI6 := Lib.hid hB6
      clear hx6 hB6 hib HW5
      generalize w5.alloc (.cells #[.int .i64 (fp : Int), .int .i64 (fi : Int)] 40) = W6 at *
      by_cases hf0 : fe = 0
      · have c0 : ((fe : Int) == 0) = true := beq_iff_eq.2 (by omega)
        have hP10 : parseT s = .ok (mz.map PM.pr) := by rw [HP9.out, if_pos hf0]
        have HPk := Lib.hid hP10
        have x0 : W6.cell? ⟨tb, 0, none⟩ = some (.slice A ps.length ac) := by rw [← HL9.out.1]; exact HW6.out.px.cell.cell 0
        have xl := HW6.out.px.cell.lt
        have f0 := HW6.out.res.frozen 0
        have f1 := HW6.out.pos.frozen 0
        have f2 := HW6.out.pos.frozen 1
        have z0 := HW6.out.res.cell 0
        have z1 := HW6.out.pos.cell 0
        have z2 := HW6.out.pos.cell 1
        have zl := HW6.out.res.lt
        have zm := HW6.out.pos.lt
        clear hP10 hf0
        go_wp2_with fail
        have hr1 := HRb.out
        have hp1 := HPb.out
        exact pOk HW6.out.ex HPk.out HW6.out.px.tp HL9.out.1.symm HL9.out.2 HW6.out.res HW6.out.pos (by omega) (by omega) n1 rfl rfl rfl
      · have c0 : ((fe : Int) == 0) = false := beq_eq_false_iff_ne.2 (by omega)
        have hP10 : parseT s = .error (plcO ps ((fp, fi), fe)) := by rw [HP9.out, if_neg hf0]
        have HPq := Lib.hid hP10
        clear hP10
        by_cases hf1 : fe = 1
        · have c1 : ((fe : Int) == 1) = true := beq_iff_eq.2 (by omega)
          have hP11 : parseT s = .error ((fe : Int), 1, 1) := by
            rw [HPq.out]
            unfold plcO
            rw [if_pos hf1, hf1]
            rfl
          have HPe := Lib.hid hP11
          have HFs := Lib.hid (fun w' => HFa.out 1 1 (fe : Int) w')
          clear hP11 hf0 hf1
          go_wp2_with fail
          refine (HFs.out _).mono ?_
          rintro e9 w7 ⟨rfl, hx⟩
          have HP7 := Lib.hid (HW6.out.exx hx)
          clear hx
          have f0 := HP7.out.res.frozen 0
          have f1 := HP7.out.pos.frozen 0
          have f2 := HP7.out.pos.frozen 1
          have z0 := HP7.out.res.cell 0
          have z1 := HP7.out.pos.cell 0
          have z2 := HP7.out.pos.cell 1
          have zl := HP7.out.res.lt
          have zm := HP7.out.pos.lt
          unfold errV
          go_wp2_with fail
          have hr1 := HRb.out
          have hp1 := HPb.out
          exact pErr HP7.out.ex HPe.out HP7.out.res HP7.out.pos (by omega) (by omega) n1 rfl rfl rfl
        have c1 : ((fe : Int) == 1) = false := beq_eq_false_iff_ne.2 (by omega)
        by_cases hf2 : fi = 0
        · have c2 : ((fi : Int) == 0) = true := beq_iff_eq.2 (by omega)
          have hfp : fp < ps.length := by
            rcases HPl9.out with h | h | h | h
            · exact absurd h hf0
            · exact absurd h hf1
            · have := h.2
              rw [HT9.out, List.length_map] at this
              exact this
            · exact absurd h.1 (by dsimp only; omega)
          obtain ⟨q, hq⟩ : ∃ q, ps[fp]? = some q := ⟨_, List.getElem?_eq_getElem hfp⟩
          have hP11 : parseT s = .error ((fe : Int), q.line, 1) := by
            rw [HPq.out]
            unfold plcO
            rw [if_neg hf1, if_pos hf2]
            dsimp only
            rw [hq]
            rfl
          obtain ⟨gl, ol, rfl, hgl, -, kl⟩ := HW6.out.lineAt (p := fp) (l := q.line) (by rw [List.getElem?_map, hq]; rfl)
          have HPe := Lib.hid hP11
          have HFs := Lib.hid (fun w' => HFa.out (q.line : Int) 1 (fe : Int) w')
          have y0 := HI6.out.cell 0
          have y1 := HI6.out.cell 1
          have yl := HI6.out.lt
          have i0 : (0 : Int) ≤ (fp : Int) := by omega
          have i1 : (fp : Int) < (ps.length : Int) := by omega
          clear hP11 hf0 hf1 hf2 hq
          go_wp2_with fail
          refine (HFs.out _).mono ?_
          rintro e9 w7 ⟨rfl, hx⟩
          have HP7 := Lib.hid (HW6.out.exx hx)
          clear hx
          have f0 := HP7.out.res.frozen 0
          have f1 := HP7.out.pos.frozen 0
          have f2 := HP7.out.pos.frozen 1
          have z0 := HP7.out.res.cell 0
          have z1 := HP7.out.pos.cell 0
          have z2 := HP7.out.pos.cell 1
          have zl := HP7.out.res.lt
          have zm := HP7.out.pos.lt
          unfold errV
          go_wp2_with fail
          have hr1 := HRb.out
          have hp1 := HPb.out
          exact pErr HP7.out.ex HPe.out HP7.out.res HP7.out.pos (by omega) (by omega) n1 rfl rfl rfl
        have c2 : ((fi : Int) == 0) = false := beq_eq_false_iff_ne.2 (by omega)
        have hin : InT (ps.map (rP (ps.map (·.name)))) (fp, fi) := by
          rcases HPl9.out with h | h | h | h
          · exact absurd h hf0
          · exact absurd h hf1
          · exact absurd h.1 hf2
          · rw [HT9.out] at h
            exact h
        obtain ⟨h1i, q, e, hq, he⟩ := place_at hin
        obtain ⟨j, rfl⟩ : ∃ j, fi = j + 1 := ⟨fi - 1, by omega⟩
        rw [Nat.add_sub_cancel] at he
        have hP11 : parseT s = .error ((fe : Int), e.line, 3) := by
          rw [HPq.out]
          unfold plcO
          rw [if_neg hf1, if_neg hf2]
          dsimp only
          rw [hq]
          show Except.error ((fe : Int), ((q.evs[j]?).map (·.line)).getD 0, 3) = _
          rw [he]
          rfl
        have hfp := (List.getElem?_eq_some_iff.1 hq).1
        have hjl := (List.getElem?_eq_some_iff.1 he).1
        obtain ⟨r, hr⟩ : ∃ r, rows[fp]? = some r := ⟨_, List.getElem?_eq_getElem (by have := HRl.out; omega)⟩
        obtain ⟨hrn, hrx⟩ := HRw.out fp r q hr hq
        obtain ⟨gq, oq, rfl, hgq, -, kq⟩ := HW6.out.rowAt hr
        obtain ⟨D, dc, hrv, -⟩ := HW6.out.rowLen (List.mem_of_getElem? hr)
        obtain ⟨gd, od, rfl, hgd, k0, -, -⟩ := HW6.out.plcAt (List.mem_of_getElem? hr) hrv ⟨hrn, hrx⟩ he
        rw [hrv, hrn] at kq
        have HPe := Lib.hid hP11
        have HFs := Lib.hid (fun w' => HFa.out (e.line : Int) 3 (fe : Int) w')
        have hI6 : Blk W6 ib 40 [.int .i64 (fp : Int), .int .i64 ((j : Int) + 1)] := HI6.out
        have y0 := hI6.cell 0
        have y1 := hI6.cell 1
        have yl := hI6.lt
        have hen : q.evs.length ≤ 20000 := by have h1 := HSm.out.each q (List.mem_of_getElem? hq); have h2 := HNn.out; omega
        have i0 : (0 : Int) ≤ (fp : Int) := by omega
        have i1 : (fp : Int) < (ps.length : Int) := by omega
        have j0 : (0 : Int) ≤ (j : Int) := by omega
        have j1 : (j : Int) < (q.evs.length : Int) := by omega
        have q9 : IntKind.i64.wrap ((j : Int) + 1 - 1) = (j : Int) := by rw [Int.add_sub_cancel]; exact IntWalk.i64_in _ (by omega)
        have q8 : IntKind.i64.wrap (j : Int) = (j : Int) := IntWalk.i64_in _ (by omega)
        have c3 : ((j : Int) + 1 == 0) = false := beq_eq_false_iff_ne.2 (by omega)
        clear hP11 hf0 hf1 hf2 hq he hr hrn hrx hrv hin hI6 h1i c2 HI6
        go_upto_region 56 with fail
        unfold errV at HFs
        go_region_with (refine (HFs.out _).mono ?_; rintro e9 w7 ⟨rfl, hx7⟩; have HP7 := Lib.hid (HW6.out.exx (Ex.trans (by first | exact Ex.refl _ | exact (Ex.refl _).drew | exact (Ex.refl _).drew.drew | exact (Ex.refl _).drew.drew.drew) hx7)); have f0 := HP7.out.res.frozen 0; have f1 := HP7.out.pos.frozen 0; have f2 := HP7.out.pos.frozen 1; have z0 := HP7.out.res.cell 0; have z1 := HP7.out.pos.cell 0; have z2 := HP7.out.pos.cell 1; have zl := HP7.out.res.lt; have zm := HP7.out.pos.lt)
        all_goals
          go_wp2_with fail
          have hr1 := HRb.out
          have hp1 := HPb.out
          exact pErr HP7.out.ex HPe.out HP7.out.res HP7.out.pos (by omega) (by omega) n1 rfl rfl rfl
end Go.Proofs.YtpmponafjhnegaaGreatDoor
