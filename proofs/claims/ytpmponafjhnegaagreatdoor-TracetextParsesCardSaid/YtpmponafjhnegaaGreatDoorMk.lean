/-
  Parse, walked.
  Conditions: as each theorem says; the world's tables are as laid (Env).
-/
import Derived.Test.YtpmponafjhnegaaGreatDoorMm
import Derived.Test.YtpmponafjhnegaaGreatDoorMl
import Derived.Test.YtpmponafjhnegaaGreatDoorMr
import Derived.BigRegion
import Derived.Deep.RegionLaw
import Derived.RegionTactic
import Derived.ChangeAlike
import Derived.Deep.Cut
import Derived.Deep.CutBlock
import Derived.Deep.LoopGhost
namespace Go.Proofs.YtpmponafjhnegaaGreatDoor
open Go.RowKit Nu
set_option maxRecDepth 100000 in
set_option maxHeartbeats 100000000 in
theorem parse_c (s : List UInt8) (w : World) (hE : Env w) (hl : s.length ≤ 1000000) : Calls Tryz.prog 20 #[.string (bs s)] w (ParseR s w) := by
  have HE : Hid (∀ w', Ex w w' → Env w') := fun w' h => hE.ex h
  have HFa := Lib.hid (fun (l c e : Int) w' => pfail_c l c e w')
  have hss : (bs s).size = s.length := rfl
  have hB0 := (Blk.new w 24 [.slice none 0 0]).alloc (.cells #[.int .i64 0, .int .i64 0] 48)
  have hB1 := Blk.new (w.alloc (.cells #[.slice none 0 0] 24)) 48 [.int .i64 0, .int .i64 0]
  have hz : (w.alloc (.cells #[.slice none 0 0] 24)).heap.size = w.heap.size + 1 := Array.size_push _
  rw [hz] at hB1
  have hX0 := ((Ex.refl w).alloc (.cells #[.slice none 0 0] 24)).alloc (.cells #[.int .i64 0, .int .i64 0] 48)
  have hz2 : ((w.alloc (.cells #[.slice none 0 0] 24)).alloc (.cells #[.int .i64 0, .int .i64 0] 48)).heap.size = w.heap.size + 2 := (Array.size_push _).trans (by rw [hz])
  have hB2 := Blk.new ((w.alloc (.cells #[.slice none 0 0] 24)).alloc (.cells #[.int .i64 0, .int .i64 0] 48)) 24 [.slice none 0 0]
  rw [hz2] at hB2
  obtain ⟨rb, hrb⟩ : ∃ rb, rb = w.heap.size := ⟨_, rfl⟩
  obtain ⟨pb, hpb⟩ : ∃ pb, pb = w.heap.size + 1 := ⟨_, rfl⟩
  obtain ⟨tb, htb⟩ : ∃ tb, tb = w.heap.size + 2 := ⟨_, rfl⟩
  rw [← hrb] at hB0
  rw [← hpb] at hB1
  rw [← htb] at hB2 hz2
  have n1 : rb ≠ pb := by omega
  have n2 : pb ≠ rb := by omega
  have n3 : rb ≠ tb := by omega
  have n4 : tb ≠ rb := by omega
  have n5 : pb ≠ tb := by omega
  have n6 : tb ≠ pb := by omega
  have HB0 := Lib.hid hB0
  have HB1 := Lib.hid hB1
  have HB2 := Lib.hid hB2
  have HX0 := Lib.hid hX0
  have HZ2 := Lib.hid hz2
  have HRb := Lib.hid hrb
  have HPb := Lib.hid hpb
  have HTb := Lib.hid htb
  clear hB0 hB1 hB2 hX0 hE hz hz2 htb
  by_cases hbig : 16384 < s.length
  · have hP0 : parseT s = .error (5, 0, 0) := by unfold parseT; rw [if_pos hbig]
    have HP0 := Lib.hid hP0
    have b1 : decide ((16384 : Int) < (s.length : Int)) = true := decide_eq_true (by omega)
    clear hP0 hbig
    go_enter Tryz.func20, Tryz.ntmps20
    go_upto_region 2 with fail
    rw [← hpb, ← hrb]
    generalize (w.alloc (.cells #[.slice none 0 0] 24)).alloc (.cells #[.int .i64 0, .int .i64 0] 48) = W0 at *
    clear hrb hpb
    go_wp2_with fail
    refine (HFa.out 0 0 5 _).mono ?_
    rintro e9 w1 ⟨rfl, hx⟩
    have HX1 := Lib.hid (HX0.out.trans hx)
    have HBa := Lib.hid (HB0.out.ex hx)
    have HBb := Lib.hid (HB1.out.ex hx)
    have f0 := HBa.out.frozen 0
    have f1 := HBb.out.frozen 0
    have f2 := HBb.out.frozen 1
    have z0 := HBa.out.cell 0
    have z1 := HBb.out.cell 0
    have z2 := HBb.out.cell 1
    have zl := HBa.out.lt
    have zm := HBb.out.lt
    clear hx
    unfold errV
    go_wp2_with fail
    have hr1 := HRb.out
    have hp1 := HPb.out
    exact pErr (l := 0) (c := 0) HX1.out HP0.out HBa.out HBb.out (by omega) (by omega) n1 rfl rfl rfl
  · have b1 : decide ((16384 : Int) < (s.length : Int)) = false := decide_eq_false (by omega)
    go_enter Tryz.func20, Tryz.ntmps20
    go_upto_region 2 with fail
    rw [← hpb, ← hrb]
    generalize (w.alloc (.cells #[.slice none 0 0] 24)).alloc (.cells #[.int .i64 0, .int .i64 0] 48) = W0 at *
    clear hrb hpb
    go_upto_block 0 with fail
    rw [HZ2.out]
    have HX1 := Lib.hid (HX0.out.alloc (.cells #[.slice none 0 0] 24))
    have HBa := Lib.hid (HB0.out.alloc (.cells #[.slice none 0 0] 24))
    have HBb := Lib.hid (HB1.out.alloc (.cells #[.slice none 0 0] 24))
    generalize W0.alloc (.cells #[.slice none 0 0] 24) = W1 at *
    have HP : Hid (parseT s = match linesX 1 [] (spl 10 s) with
      | .error x => .error x
      | .ok ps => match resPs (ps.map (·.name)) ps with
        | .error x => .error x
        | .ok t => if (faultO t).2 = 0 then .ok t else .error (plcO ps (faultO t))) := by unfold parseT; rw [if_neg hbig]; exact Lib.hid rfl
    go_cut [0, 7, 8] from 9 to 195 (fun s0 Lv Qv wx => ∃ (n : Nat) (ps : List RP) (L : Option Addr) (lc : Nat) (Q : Option Addr) (qc : Nat) (A : Option Addr) (ac : Nat) (ms : List PM) (rows : List Sl), Lv = .slice L ps.length lc ∧ Qv = .slice Q ps.length qc ∧ Hid (n ≤ 20000 ∧ PLoop w rb pb tb s [] n ps L lc Q qc wx A ac ms rows))
    case rest =>
      obtain ⟨n, ps, L, lc, Q, qc, A, ac, ms, rows, rfl, rfl, HC⟩ := hcut
      rename_i K9 hK9
      refine hK9 _ _ ?_
      exact rest_c s w hbig HRb.out HPb.out HTb.out HC.out.1 HC.out.2
    case first =>
      go_wp2_with fail
      go_loopg [0, 7, 8, 9] s.length (fun gg T Lv Qv N wr => ∃ (R : List UInt8) (n : Nat) (ps : List RP) (L : Option Addr) (lc : Nat) (Q : Option Addr) (qc : Nat), T = .string (bs R) ∧ Lv = .slice L ps.length lc ∧ Qv = .slice Q ps.length qc ∧ N = .int .i64 (n : Int) ∧ R.length ≤ gg ∧ Hid (1 ≤ n ∧ n + R.length ≤ 16385 ∧ ∃ A ac ms rows, PLoop w rb pb tb s R n ps L lc Q qc wr A ac ms rows))
      case atStart =>
        refine ⟨s, 1, [], none, 0, none, 0, rfl, rfl, rfl, rfl, Nat.le_refl _, Lib.hid ⟨by omega, by omega, none, 0, [], [], ⟨rfl, ⟨HB2.out, TP.nil _ _, OwnO.nil _ _ _ _, Sd.nil _ _ _ _ _⟩, rfl, rfl, HBa.out, HBb.out, HX1.out, RSm.nil 1⟩⟩⟩
      case round =>
        obtain ⟨R, n, ps, L, lc, Q, qc, rfl, rfl, rfl, rfl, hRg, HH⟩ := hrel
        clear HX1 HBa HBb HB0 HB1 HB2 HX0
        by_cases hR : R = []
        · subst hR
          have hH := HH.out
          obtain ⟨hn1, hN, A, ac, ms, rows, hP⟩ := hH
          have HPx := Lib.hid hP
          have hnn : n ≤ 20000 := by simp at hN; omega
          clear HH hP hn1 hN hRg
          go_wp2_with fail
          go_meet
          case rel => exact ⟨n, ps, L, lc, Q, qc, A, ac, ms, rows, rfl, rfl, Lib.hid ⟨hnn, HPx.out⟩⟩
        · have r1 : (R == []) = false := by cases R with | nil => exact absurd rfl hR | cons => rfl
          have hRl : R.length ≤ 16384 := by have := HH.out.1; have := HH.out.2.1; omega
          have HCu := Lib.hid (fun w' (h : Ex w w') => cut_c 10 R w' (HE.out w' h) (by omega))
          obtain ⟨hn1, hN, A, ac, ms, rows, hP⟩ := HH.out
          have HPl := Lib.hid hP
          have HN := Lib.hid hN
          clear HH hN hP
          cases hcut : cutC 10 R with
          | none =>
            have hcg : cutG 10 R = (R, [], false) := by unfold cutG; rw [hcut]
            rw [hcg] at HCu
            have hP1 : parseT s = .error (4, n, R.length + 1) := by rw [HP.out, HPl.out.text, linesX_none n ps hcut hR]
            have HPe := Lib.hid hP1
            have qR : IntKind.i64.wrap ((R.length : Int) + 1) = ((R.length + 1 : Nat) : Int) := IntWalk.i64_in _ (by omega)
            have HFs := Lib.hid (fun w' => HFa.out (n : Int) ((R.length + 1 : Nat) : Int) 4 w')
            clear hP1 hcg hcut hn1 hR
            go_wp2_with fail
            refine (HCu.out _ HPl.out.ex).mono ?_
            rintro e9 w1 ⟨rfl, hx⟩
            have HP1 := Lib.hid (HPl.out.exx hx)
            clear hx HPl HCu
            go_wp2_with fail
            refine (HFs.out _).mono ?_
            rintro e9 w2 ⟨rfl, hx⟩
            have HP2 := Lib.hid (HP1.out.exx hx)
            clear hx HP1
            have hBa := HP2.out.res
            have hBb := HP2.out.pos
            have f0 := hBa.frozen 0
            have f1 := hBb.frozen 0
            have f2 := hBb.frozen 1
            have z0 := hBa.cell 0
            have z1 := hBb.cell 0
            have z2 := hBb.cell 1
            have zl := hBa.lt
            have zm := hBb.lt
            clear hBa hBb
            unfold errV
            go_wp2_with fail
            have hr1 := HRb.out
            have hp1 := HPb.out
            exact pErr HP2.out.ex HPe.out HP2.out.res HP2.out.pos (by omega) (by omega) n1 rfl rfl rfl
          | some x =>
            obtain ⟨la, lb⟩ := x
            have hcg : cutG 10 R = (la, lb, true) := by unfold cutG; rw [hcut]
            rw [hcg] at HCu
            obtain ⟨hRe, hla⟩ := cutC_some hcut
            have hlen : R.length = la.length + 1 + lb.length := by rw [hRe]; simp; omega
            have HSt : Hid (linesX n ps (spl 10 R) = match lineX n ps la with
              | .error x => .error (x.1, n, x.2)
              | .ok ps' => linesX (n + 1) ps' (spl 10 lb)) := linesX_some n ps hcut
            clear hcg hcut hRe hR
            go_wp2_with fail
            refine (HCu.out _ HPl.out.ex).mono ?_
            rintro e9 w1 ⟨rfl, hx⟩
            have HP1 := Lib.hid (HPl.out.exx hx)
            clear hx HPl HCu
            have hml : ms.length = ps.length := by have := congrArg List.length HP1.out.pr; simpa using this
            have hpn := HP1.out.small.procs
            have x0 : w1.cell? ⟨tb, 0, none⟩ = some (.slice A ps.length ac) := by rw [← hml]; exact HP1.out.px.cell.cell 0
            have xl := HP1.out.px.cell.lt
            have hnn : n ≤ 16385 := by have := HN.out; omega
            have q1 : IntKind.i64.wrap ((ps.length : Int) - 1) = (ps.length : Int) - 1 := IntWalk.i64_in _ (by omega)
            have HBd := Lib.hid (fun w' => body_c la w')
            cases hbd : body la with
            | some b =>
              have hbf : bodyF la = (b, true) := by unfold bodyF; rw [hbd]
              rw [hbf] at HBd
              have hbl : b.length ≤ la.length := by rw [body_some hbd]; simp only [List.length_cons]; omega
              rcases List.eq_nil_or_concat ps with rfl | ⟨p0, p, rfl⟩
              ·
                have hP1 : parseT s = .error (3, n, 1) := by
                  rw [HP.out, HP1.out.text, HSt.out]
                  unfold lineX
                  rw [hbd]
                  rfl
                have HPe := Lib.hid hP1
                have HFs := Lib.hid (fun w' => HFa.out (n : Int) 1 3 w')
                clear hP1 hbf hbd HSt
                simp only [List.length_nil] at x0 q1
                go_wp2_with fail
                refine (HBd.out _).mono ?_
                rintro e9 w2 ⟨rfl, hx⟩
                have HP2 := Lib.hid (HP1.out.exx hx)
                clear hx HP1 x0 xl
                go_wp2_with fail
                refine (HFs.out _).mono ?_
                rintro e9 w3 ⟨rfl, hx⟩
                have HP3 := Lib.hid (HP2.out.exx hx)
                clear hx HP2
                have hBa := HP3.out.res
                have hBb := HP3.out.pos
                have f0 := hBa.frozen 0
                have f1 := hBb.frozen 0
                have f2 := hBb.frozen 1
                have z0 := hBa.cell 0
                have z1 := hBb.cell 0
                have z2 := hBb.cell 1
                have zl := hBa.lt
                have zm := hBb.lt
                clear hBa hBb
                unfold errV
                go_wp2_with fail
                have hr1 := HRb.out
                have hp1 := HPb.out
                exact pErr (c := 1) HP3.out.ex HPe.out HP3.out.res HP3.out.pos (by omega) (by omega) n1 rfl rfl rfl
              · obtain ⟨j, hj⟩ : ∃ j, j = p0.length := ⟨_, rfl⟩
                have hpl : (p0 ++ [p]).length = j + 1 := by rw [hj]; simp
                have HJ := Lib.hid hj
                rw [List.concat_eq_append] at *
                rw [hpl] at x0 q1 hpn hml ⊢
                have q2 : IntKind.i64.wrap (j : Int) = (j : Int) := IntWalk.i64_in _ (by omega)
                have m0 : decide ((j : Int) < 0) = false := decide_eq_false (by omega)
                clear q1 hj
                go_wp2_with fail
                refine (HBd.out _).mono ?_
                rintro e9 w2 ⟨rfl, hx⟩
                have HP2 := Lib.hid (HP1.out.exx hx)
                clear hx HP1 x0 xl
                obtain ⟨m0, m, rfl, hm0, hm⟩ := map_snoc_inv HP2.out.pr
                obtain ⟨ga, oa, rfl, hgal, hgab, hac, hacm, k0, k1, k2, kf, kne⟩ := HP2.out.px.last
                have hj1 : m0.length = j := by have := congrArg List.length hm0; simp at this; rw [this, HJ.out]
                have hmv : m.vars = p.vars := congrArg Pr.vars hm
                rw [hj1] at k0 k1 k2 hac
                rw [hmv] at k1
                have HVr := Lib.hid (HP2.out.px.tp.vars m (by simp))
                rw [hmv] at HVr
                have hsm := HP2.out.small.each p (by simp)
                have HRd := Lib.hid (read_c b 3 w2 (HE.out _ HP2.out.ex) (by omega) (by omega))
                have hlens := spl_lens 32 b
                have HEv := Lib.hid (fun g w' (h : RdC w' g (spl 32 b) (colF 3 (spl 32 b)) (3 + b.length) ⟨0, 0, 0⟩) hE hV => event_c g (spl 32 b) (colF 3 (spl 32 b)) (3 + b.length) p.vars m.V m.vc w' h (fun x hx => Nat.le_trans (hlens.2 x hx) (by omega)) hE hV hsm.2.1 hsm.2.2.2.1)
                have HEP := Lib.hid (event_plain p.vars b 3 (spl 32 b).length (Nat.le_refl _))
                generalize evF p.vars (spl 32 b) (colF 3 (spl 32 b)) (3 + b.length) (spl 32 b).length ⟨0, 0, 0⟩ = F at *
                generalize colF 3 (spl 32 b) = cs at *
                generalize spl 32 b = ws at *
                generalize 3 + b.length = en at *
                have HK1 := Lib.hid k1
                have HK2 := Lib.hid k2
                have HM := Lib.hid (And.intro hm0 hm)
                have HBl := Lib.hid hbl
                clear k0 k1 k2 hm0 hm hlens hsm hbf hbl
                go_wp2_with fail
                refine (HRd.out).mono ?_
                rintro e9 w3 ⟨g, rfl, hgw, hr3, hx⟩
                have HX3 := Lib.hid hx
                have HP3 := Lib.hid (HP2.out.exx hx)
                have HR3 := Lib.hid hr3
                have x0 : w3.cell? ⟨tb, 0, none⟩ = some (.slice (some ⟨ga, oa, none⟩) (j + 1) ac) := by rw [← hml]; exact HP3.out.px.cell.cell 0
                have xl := HP3.out.px.cell.lt
                have k1 := (hx.below.cell hgal).trans HK1.out
                have kl := Nat.lt_of_lt_of_le hgal hx.below.size
                have i0 : (0 : Int) ≤ (j : Int) := by omega
                have i1 : (j : Int) < ((j + 1 : Nat) : Int) := by omega
                clear hr3 hx HRd
                go_wp2_with fail
                refine (HEv.out g w3 HR3.out (fun w' hg => HE.out w' (HP2.out.ex.trans (Exg.out HX3.out hg hgw))) (fun w' hg => OwnO.row' (HVr.out.ex (Exg.out HX3.out hg hgw)))).mono ?_
                rintro e9 w4 ⟨B, bc, rfl, ho4, hr4, hg4⟩
                have HX4 := Lib.hid (Exg.out HX3.out hg4 hgw)
                have HP4 := Lib.hid (HP2.out.exx HX4.out)
                have hr1 := HRb.out
                have HO4 := Lib.hid (OwnO.mono ho4 (b := rb) (by have := HP3.out.ex.below.size; omega))
                have c4 := hr4.cell4
                have c5 := hr4.cell5
                have lg := hr4.lt
                have ge : g ≠ w4.heap.size := by omega
                have geu : ∀ u : Nat, w4.heap.size + u ≠ g := fun u => by omega
                unfold EvtV
                clear ho4 hr4 hg4 HP3 HR3 HEv x0 xl k1 kl hr1
                cases hev : evL p.vars b 3 with
                | error x =>
                  obtain ⟨xe, xc⟩ := x
                  have hEP := HEP.out
                  rw [hev] at hEP
                  obtain ⟨he1, he2, he3⟩ := hEP
                  have hP1 : parseT s = .error (xe, n, xc) := by
                    rw [HP.out, HP4.out.text, HSt.out]
                    unfold lineX
                    rw [hbd]
                    dsimp only
                    rw [List.getLast?_concat]
                    dsimp only
                    rw [hev]
                  have HPe := Lib.hid hP1
                  have HFs := Lib.hid (fun w' => HFa.out (n : Int) (xc : Int) xe w')
                  dsimp only at he1 he2 he3
                  rw [he1] at c4
                  rw [he2] at c5
                  have be : (xe == 0) = false := beq_eq_false_iff_ne.2 he3
                  clear hP1 hbd HSt HEP hev he1 he2 he3
                  go_upto_region 22 with fail
                  have hx5 : Ex w4 (w4.alloc (.cells #[.int .i64 F.kind, .int .i64 0, .int .i64 F.msg, .int .i64 F.time, .slice B F.asg.length bc] 38)) := (Ex.refl w4).alloc _
                  have d4 := (hx5.below.cell lg).trans c4
                  have d5 := (hx5.below.cell lg).trans c5
                  have dl := Nat.lt_of_lt_of_le lg hx5.below.size
                  have HP5 := Lib.hid (HP4.out.exx hx5)
                  clear hx5 c4 c5 lg ge geu
                  generalize w4.alloc (.cells #[.int .i64 F.kind, .int .i64 0, .int .i64 F.msg, .int .i64 F.time, .slice B F.asg.length bc] 38) = W5 at *
                  clear HX3 HX4 HP2 HP4 HO4 HK1 HK2 HVr HM
                  unfold errV at HFs
                  go_region_with (refine (HFs.out _).mono ?_; rintro e9 w6 ⟨rfl, hx6⟩; have HP6 := Lib.hid (HP5.out.exx (Ex.trans (by first | exact Ex.refl _ | exact (Ex.refl _).drew | exact (Ex.refl _).drew.drew | exact (Ex.refl _).drew.drew.drew) hx6)); have f0 := HP6.out.res.frozen 0; have f1 := HP6.out.pos.frozen 0; have f2 := HP6.out.pos.frozen 1; have z0 := HP6.out.res.cell 0; have z1 := HP6.out.pos.cell 0; have z2 := HP6.out.pos.cell 1; have zl := HP6.out.res.lt; have zm := HP6.out.pos.lt)
                  all_goals
                    go_wp2_with fail
                    have hr1 := HRb.out
                    have hp1 := HPb.out
                    exact pErr HP6.out.ex HPe.out HP6.out.res HP6.out.pos (by omega) (by omega) n1 rfl rfl rfl
                | ok S =>
                  have hEP := HEP.out
                  rw [hev] at hEP
                  obtain ⟨he1, s1, s2, s3, s4, s5, s6⟩ := hEP
                  have HNx : Hid (linesX 1 [] (spl 10 s) = linesX (n + 1) (p0 ++ [{ p with evs := p.evs ++ [reOf n S] }]) (spl 10 lb)) := by
                    rw [HP4.out.text, HSt.out]
                    unfold lineX
                    rw [hbd]
                    dsimp only
                    rw [List.getLast?_concat]
                    dsimp only
                    rw [hev]
                    dsimp only
                    rw [addE_pr]
                    exact Lib.hid rfl
                  have HS := Lib.hid (And.intro s1 (And.intro s2 (And.intro s3 (And.intro s4 (And.intro s5 s6)))))
                  rw [he1] at c4
                  obtain ⟨r0, r, rfl, hr0, hr⟩ := map_snoc_inv HP4.out.row
                  obtain ⟨gq, oq, rfl, hgql, hgqb, hqc, hqcm, kq, kqf⟩ := HP4.out.px.lastRow
                  have hr01 : r0.length = j := by have := congrArg List.length hr0; simp at this; rw [this, HJ.out]
                  have HAs : Hid (S.asg.length ≤ 20000) := by have h1 := evL_asg hev; have h2 := HBl.out; exact Lib.hid (by omega)
                  have HRr := Lib.hid (And.intro hr0 (And.intro hr hr01))
                  have HJ1 := Lib.hid hj1
                  clear hbd HSt HEP hev he1 s1 s2 s3 s4 s5 s6 hr0 hr hr01 kq kqf hgql hgqb hqcm hj1 HP
                  go_upto_region 23 with fail
                  have hx5 : Ex w4 (w4.alloc (.cells #[.int .i64 F.kind, .int .i64 0, .int .i64 F.msg, .int .i64 F.time, .slice B F.asg.length bc] 38)) := (Ex.refl w4).alloc _
                  have hpw : PW w rb pb tb ((p0 ++ [p]).map (·.line)) L lc (some ⟨gq, oq, none⟩) qc w4 (some ⟨ga, oa, none⟩) ac (m0 ++ [m]) (r0 ++ [r]) := ⟨HP4.out.px, HP4.out.res, HP4.out.pos, HP4.out.ex, Nat.le_of_eq HRb.out.symm, n3, by have := HTb.out; omega⟩
                  have HW5 := Lib.hid (hpw.exx hx5)
                  have hB5 := Blk.new w4 38 [.int .i64 F.kind, .int .i64 0, .int .i64 F.msg, .int .i64 F.time, .slice B F.asg.length bc]
                  have HO5 := Lib.hid (HO4.out.ex hx5)
                  obtain ⟨eb, heb⟩ : ∃ eb, eb = w4.heap.size := ⟨_, rfl⟩
                  rw [← heb] at hB5 ⊢
                  have HSm := Lib.hid HP4.out.small
                  clear hx5 hpw c4 c5 lg ge geu heb HP4 HO4 HX4 HX3 HP2
                  generalize w4.alloc (.cells #[.int .i64 F.kind, .int .i64 0, .int .i64 F.msg, .int .i64 F.time, .slice B F.asg.length bc] 38) = W5 at *
                  have HB5 := Lib.hid hB5
                  clear hB5
                  go_cut [] from 39 to 195 (fun wx => ∃ (E5 : Option Addr) (c5 : Nat), Hid (PW w rb pb tb ((p0 ++ [p]).map (·.line)) L lc (some ⟨gq, oq, none⟩) qc wx (some ⟨ga, oa, none⟩) ac (m0 ++ [{ m with mes := m.mes ++ [⟨⟨F.kind, 0, F.msg, F.time, F.asg⟩, B, bc⟩], E := E5, ec := c5 }]) (r0 ++ [r])))
                  case first =>
                    have hmm : m.mes.length ≤ 1000000 := by
                      have h1 := congrArg (fun x : Pr => x.evs.length) HM.out.2
                      simp [PM.pr, RP.pr] at h1
                      have h2 := (HSm.out.each p (by simp)).2.2.1
                      omega
                    refine reg23_c HW5.out HJ1.out hmm (by omega) HB5.out HO5.out ?_
                    intro E5 c5 wx v112 v113 v114 v115 v116 v117 v118 v119 v120 v121 v122 v123 v124 v125 h
                    go_wp2_with fail
                    go_meet
                    case rel => exact ⟨E5, c5, Lib.hid h⟩
                  case rest =>
                    obtain ⟨E5, c5, HC⟩ := hcut
                    clear HW5 HB5 HO5
                    obtain ⟨D, dc, hrv, -, -⟩ := OwnO.len (HC.out.px.sd.row r (by simp))
                    obtain ⟨_, _, e9, kgl, -, -, -, kq, kqf⟩ := HC.out.px.lastRow
                    cases e9
                    rw [HRr.out.2.2, hrv] at kq
                    have HRo : Hid (OwnO wc rb 109 3 (.slice D r.n dc) r.n r.xs) := by
                      have := HC.out.px.sd.row r (by simp)
                      unfold Sl.own at this
                      rw [hrv] at this
                      exact Lib.hid this
                    have hrn : r.n ≤ 1000000 := by
                      have h1 : r.n = p.evs.length := congrArg Prod.fst HRr.out.2.1
                      have h2 := (HSm.out.each p (by simp)).2.2.1
                      omega
                    have HRv := Lib.hid hrv
                    obtain ⟨ip, hip, ip0, ip1, ip2⟩ := info_parts infoPlc
                    have i2 : (j : Int) < (j : Int) + 1 := by omega
                    have hsz : rb ≤ wc.heap.size := by have := HC.out.res.lt; omega
                    clear hrv HVr HK1 HK2
                    go_wp2_with (at_builtin; refine wpList_append_one _ rfl _ _ 107 rfl rb 109 ip _ 3 32 Tryz.underlying107 hip ip0 ip1 ip2 rfl (.slice D r.n dc) r.n r.xs rfl (OwnO.ex HRo.out ((Ex.refl _).alloc _)) _ [.int .i64 (n : Int), .int .i64 (F.pcol : Int), .string (bs F.peer)] rfl rfl ?c1 ?c2 ?c3 ?c4 ?c5 ?_)
                    try case c1 => exact news_new rfl (by simp)
                    try case c2 => (intro u hu; simp only [List.mem_cons, List.not_mem_nil, or_false] at hu; rcases hu with rfl | rfl | rfl <;> rfl)
                    try case c3 => omega
                    try case c4 => omega
                    try case c5 => first | exact hsz | (simp; omega)
                    intro D' dc' w7 ho hg hat hEx
                    have hxa : Ex wc (wc.alloc (.cells #[.int .i64 (n : Int), .int .i64 (F.pcol : Int), .string (bs F.peer)] 109)) := (Ex.refl _).alloc _
                    have hN7 := PW.pl (r' := (Sl.mk (Value.slice D' (r.n + 1) dc') (r.n + 1) (r.xs ++ [Value.int .i64 (n : Int), Value.int .i64 (F.pcol : Int), Value.string (bs F.peer)]))) (w1 := w7) (HC.out.exx hxa) (by rw [HRv.out]; exact hg) ho (by rw [HRv.out]; exact hat.imp id fun h => h.trans (by simp))
                    have hA7 := PW.plAt (w1 := w7) (HC.out.exx hxa) (by rw [HRv.out]; exact hg)
                    rw [HRr.out.2.2] at hA7 hN7
                    have y0 := hA7.1
                    rw [HRv.out] at y0
                    have yf := hA7.2.1 (oq + j)
                    have yl := hA7.2.2
                    have HN7 := Lib.hid hN7
                    have qn : IntKind.i64.wrap ((n : Int) + 1) = ((n + 1 : Nat) : Int) := IntWalk.i64_in _ (by omega)
                    clear hxa hN7 hA7 ho hg hat hEx kq kqf kgl
                    go_wp2_with fail
                    obtain ⟨s1, s2, s3, s4, s5, s6⟩ := HS.out
                    have hl' : (p0 ++ [{ p with evs := p.evs ++ [reOf n S] }]).length = j + 1 := by simp [HJ.out]
                    have hln : (p0 ++ [p]).map (fun x : RP => x.line) = (p0 ++ [{ p with evs := p.evs ++ [reOf n S] }]).map (fun x : RP => x.line) := by simp
                    have hev2 : (⟨F.kind, 0, F.msg, F.time, F.asg⟩ : Ev) = (reOf n S).ev := by
                      show _ = (⟨S.kind, 0, S.msg, S.time, S.asg⟩ : Ev)
                      rw [s1, s4, s5, s6]
                    have hrow2 := row_ev (re := reOf n S) HRr.out.2.1
                    have hpx := HN7.out.px
                    rw [hln] at hpx
                    have hpf : PLoop w rb pb tb s lb (n + 1) (p0 ++ [{ p with evs := p.evs ++ [reOf n S] }]) L lc (some ⟨gq, oq, none⟩) qc (w7.setCell ⟨gq, oq + j, none⟩ (.slice D' (r.n + 1) dc')) (some ⟨ga, oa, none⟩) ac (m0 ++ [{ m with mes := m.mes ++ [ME.mk ⟨F.kind, 0, F.msg, F.time, F.asg⟩ B bc], E := E5, ec := c5 }]) (r0 ++ [(Sl.mk (Value.slice D' (r.n + 1) dc') (r.n + 1) (r.xs ++ [Value.int .i64 (n : Int), Value.int .i64 (F.pcol : Int), Value.string (bs F.peer)]))]) := ⟨HNx.out, hpx, by
                      rw [List.map_append, List.map_append, HM.out.1, List.map_singleton, List.map_singleton, pr_ev HM.out.2 hev2], by
                      rw [List.map_append, List.map_append, HRr.out.1, List.map_singleton, List.map_singleton, ← hrow2]
                      show _ ++ [(r.n + 1, r.xs ++ [.int .i64 (n : Int), .int .i64 (F.pcol : Int), .string (bs F.peer)])] = _ ++ [(r.n + 1, r.xs ++ [.int .i64 (n : Int), .int .i64 (S.pcol : Int), .string S.peer])]
                      rw [s2, s3], HN7.out.res, HN7.out.pos, HN7.out.ex, HSm.out.ev HAs.out⟩
                    have HPf := Lib.hid hpf
                    have hN2 := HN.out
                    go_roundg lb.length
                    case measure => omega
                    case rel => exact ⟨lb, n + 1, p0 ++ [{ p with evs := p.evs ++ [reOf n S] }], L, lc, some ⟨gq, oq, none⟩, qc, rfl, by rw [hl'], by rw [hl'], by go_num, Nat.le_refl _, Lib.hid ⟨by omega, by omega, _, _, _, _, HPf.out⟩⟩
            | none =>
              have hbf : bodyF la = (la, false) := by unfold bodyF; rw [hbd]
              rw [hbf] at HBd
              have HRd := Lib.hid (fun w' (h : Ex w w') => read_c la 1 w' (HE.out w' h) (by omega) (by omega))
              have hlens := spl_lens 32 la
              have HEP := Lib.hid (process_plain la (spl 32 la).length (Nat.le_refl _))
              have HWsl : Hid (∀ x ∈ spl 32 la, x.length ≤ 20000) := fun x hx => Nat.le_trans (hlens.2 x hx) (by omega)
              have HLa : Hid ((spl 32 la).length ≤ 20000) := Lib.hid (by omega)
              have HBd2 := Lib.hid hbd
              generalize colF 1 (spl 32 la) = cs at *
              generalize spl 32 la = ws at *
              generalize 1 + la.length = en at *
              clear hlens hbf hbd
              go_wp2_with fail
              refine (HBd.out _).mono ?_
              rintro e9 w2 ⟨rfl, hx⟩
              have HP2 := Lib.hid (HP1.out.exx hx)
              clear hx HP1 x0 xl
              go_wp2_with fail
              refine (HRd.out w2 HP2.out.ex).mono ?_
              rintro e9 w3 ⟨g, rfl, hgw, hr3, hx⟩
              have HX3 := Lib.hid hx
              have HR3 := Lib.hid hr3
              have HGw := Lib.hid hgw
              clear hr3 hx HRd
              go_wp2_with fail
              refine (word_c g ws cs en ⟨0, 0, 0⟩ w3 HR3.out).mono ?_
              rintro e9 w4 ⟨rfl, h1, h2⟩
              have HR4 := Lib.hid h1
              have HG4 := Lib.hid h2
              clear h1 h2
              go_upto_if 143 with fail
              go_cut [] from 39 to 195 (fun wx => ∃ s1 : Rst, Hid (s1 = pcA ws cs en ⟨0, 0, 0⟩) ∧ Hid (RdC wx g ws cs en s1 ∧ Exg g w3 wx))
              case first =>
                obtain ⟨-, -, -, b4⟩ := kind_str (wordF ws en ⟨0, 0, 0⟩).1
                have hpos := word_pos ws en ⟨0, 0, 0⟩
                have HA : Hid (pcA ws cs en ⟨0, 0, 0⟩ = if (wordF ws en ⟨0, 0, 0⟩).1 = wProcess then (wordF ws en ⟨0, 0, 0⟩).2 else failF cs 3 (wordF ws en ⟨0, 0, 0⟩).2) := rfl
                generalize wordF ws en ⟨0, 0, 0⟩ = P at *
                obtain ⟨l0, s1⟩ := P
                dsimp only at *
                by_cases h1 : l0 = wProcess
                · rw [decide_eq_true h1] at b4
                  have HK : Hid (pcA ws cs en ⟨0, 0, 0⟩ = s1) := by rw [HA.out, if_pos h1]; exact Lib.hid rfl
                  have bq : (!(l0 == [112, 114, 111, 99, 101, 115, 115])) = false := by rw [b4]; rfl
                  clear h1 hpos
                  rw [bq]
                  go_wp2_with fail
                  go_meet
                  case rel => exact ⟨s1, Lib.hid HK.out.symm, Lib.hid ⟨HR4.out, HG4.out⟩⟩
                · rw [decide_eq_false h1] at b4
                  have HK : Hid (pcA ws cs en ⟨0, 0, 0⟩ = failF cs 3 s1) := by rw [HA.out, if_neg h1]; exact Lib.hid rfl
                  have HFs := Lib.hid (fail_c g ws cs en 3 s1 w4 HR4.out hpos)
                  have bq : (!(l0 == [112, 114, 111, 99, 101, 115, 115])) = true := by rw [b4]; rfl
                  clear h1 hpos
                  rw [bq]
                  go_wp2_with fail
                  refine (HFs.out).mono ?_
                  rintro e9 w5 ⟨rfl, h1, h2⟩
                  have HR5 := Lib.hid h1
                  have HG5 := Lib.hid (HG4.out.trans h2)
                  clear h1 h2
                  go_wp2_with fail
                  go_meet
                  case rel => exact ⟨failF cs 3 s1, Lib.hid HK.out.symm, Lib.hid ⟨HR5.out, HG5.out⟩⟩
              case rest =>
                obtain ⟨s1, HA, HC⟩ := hcut
                have HR5 := Lib.hid HC.out.1
                have HG5 := Lib.hid HC.out.2
                clear HC HR4 HG4 HR3
                have HNm := Lib.hid (name_c g ws cs en HWsl.out s1 wc HR5.out)
                obtain ⟨NF, hNF⟩ : ∃ NF, NF = nameF ws cs en s1 := ⟨_, rfl⟩
                rw [← hNF] at HNm
                have HNF := Lib.hid hNF
                clear hNF
                obtain ⟨nm, s2⟩ := NF
                dsimp only at HNm
                go_wp2_with fail
                refine (HNm.out).mono ?_
                rintro e9 w6 ⟨rfl, h1, h2⟩
                have HR6 := Lib.hid h1
                have HG6 := Lib.hid (HG5.out.trans h2)
                have HX6 := Lib.hid (Exg.out HX3.out HG6.out HGw.out)
                have HP6 := Lib.hid (HP2.out.exx HX6.out)
                clear h1 h2 HNm HR5 HG5
                go_wp2_with fail
                have hx7 : Ex w6 (w6.alloc (.cells #[.string (bs nm), .slice none 0 0, .slice none 0 0] 35)) := (Ex.refl w6).alloc _
                have hB7 := Blk.new w6 35 [.string (bs nm), .slice none 0 0, .slice none 0 0]
                obtain ⟨qb, hqb⟩ : ∃ qb, qb = w6.heap.size := ⟨_, rfl⟩
                rw [← hqb] at hB7 ⊢
                have hqg : qb ≠ g := by have := HR6.out.lt; omega
                have HQw : Hid (w3.heap.size ≤ qb) := by have := HG6.out.size; exact Lib.hid (by omega)
                have HB7 := Lib.hid hB7
                have HR7 := Lib.hid (HR6.out.ex hx7)
                have HG7 := Lib.hid (HG6.out.ex hx7)
                have HQb := Lib.hid hqb
                clear hx7 hB7 hqb HR6 HP6 HX6
                generalize w6.alloc (.cells #[.string (bs nm), .slice none 0 0, .slice none 0 0] 35) = W7 at *
                go_loopg [22] ws.length (fun gg _ w8 => ∃ (sr : Rst) (l : List (ByteArray × Int)) (V : Option Addr) (c : Nat), Hid (pcD ws cs en gg sr l = pcD ws cs en ws.length s2 [] ∧ l.length + gg ≤ ws.length ∧ (sr.e = 0 → ws.length ≤ gg + sr.at_)) ∧
                  Hid (Blk w8 qb 35 [.string (bs nm), .slice V l.length c, .slice none 0 0] ∧ OwnO w8 qb 71 2 (.slice V l.length c) l.length (varV l) ∧ RdC w8 g ws cs en sr ∧ Exg g w3 w8))
                case atStart => exact ⟨s2, [], none, 0, Lib.hid ⟨rfl, by simp, fun _ => by omega⟩, Lib.hid ⟨HB7.out, OwnO.nil _ _ _ _, HR7.out, HG7.out⟩⟩
                case round =>
                  obtain ⟨sr, l, V, c, HD, HH⟩ := hrel
                  clear HB7 HR7 HG7
                  obtain ⟨hB, hO, hR, hG⟩ := HH.out
                  have HB := Lib.hid hB
                  have HO := Lib.hid hO
                  have HR := Lib.hid hR
                  have HG := Lib.hid hG
                  clear hB hO hR hG HH
                  have HMs := Lib.hid (more_c g ws cs en sr _ HR.out)
                  cases hm : moreF ws sr with
                  | false =>
                    rw [hm] at HMs
                    have hD0 : pcD ws cs en gk sr l = (l, sr) := by
                      cases gk with
                      | zero => rfl
                      | succ k => unfold pcD; rw [hm]; rfl
                    have hF : pcF ws cs en ws.length ⟨0, 0, 0⟩ = ⟨nm, l, sr⟩ := by
                      unfold pcF
                      rw [← HA.out, ← HNF.out]
                      dsimp only
                      rw [← HD.out.1, hD0]
                    have hEP := HEP.out
                    rw [hF] at hEP
                    dsimp only at hEP
                    clear hm hD0 hF HEP HD
                    go_wp2_with fail
                    refine (HMs.out).mono ?_
                    rintro e9 w8 ⟨rfl, hx⟩
                    have HB8 := Lib.hid (HB.out.ex hx)
                    have HO8 := Lib.hid (HO.out.ex hx)
                    have HR8 := Lib.hid (HR.out.ex hx)
                    have HG8 := Lib.hid (HG.out.ex hx)
                    have HX8 := Lib.hid (Exg.out HX3.out HG8.out HGw.out)
                    have HP8 := Lib.hid (HP2.out.exx HX8.out)
                    have c4 := HR8.out.cell4
                    have c5 := HR8.out.cell5
                    have lg := HR8.out.lt
                    clear hx HB HO HR HG HMs
                    cases hpc : pcL la with
                    | error x =>
                      obtain ⟨xe, xc⟩ := x
                      rw [hpc] at hEP
                      obtain ⟨he1, he2, he3⟩ := hEP
                      have hP1 : parseT s = .error (xe, n, xc) := by
                        rw [HP.out, HP8.out.text, HSt.out]
                        unfold lineX
                        rw [HBd2.out]
                        dsimp only
                        rw [hpc]
                      have HPe := Lib.hid hP1
                      have HFs := Lib.hid (fun w' => HFa.out (n : Int) (xc : Int) xe w')
                      dsimp only at he1 he2 he3
                      rw [he1] at c4
                      rw [he2] at c5
                      have be : (xe == 0) = false := beq_eq_false_iff_ne.2 he3
                      clear hP1 HSt HBd2 hpc he1 he2 he3 HB8 HO8 HR8 HG8 HX8 HX3 HP2
                      go_upto_region 33 with fail
                      unfold errV at HFs
                      go_region_with (refine (HFs.out _).mono ?_; rintro e9 w9 ⟨rfl, hx9⟩; have HP9 := Lib.hid (HP8.out.exx (Ex.trans (by first | exact Ex.refl _ | exact (Ex.refl _).drew | exact (Ex.refl _).drew.drew | exact (Ex.refl _).drew.drew.drew) hx9)); have f0 := HP9.out.res.frozen 0; have f1 := HP9.out.pos.frozen 0; have f2 := HP9.out.pos.frozen 1; have z0 := HP9.out.res.cell 0; have z1 := HP9.out.pos.cell 0; have z2 := HP9.out.pos.cell 1; have zl := HP9.out.res.lt; have zm := HP9.out.pos.lt)
                      all_goals
                        go_wp2_with fail
                        have hr1 := HRb.out
                        have hp1 := HPb.out
                        exact pErr HP9.out.ex HPe.out HP9.out.res HP9.out.pos (by omega) (by omega) n1 rfl rfl rfl
                    | ok S =>
                      rw [hpc] at hEP
                      obtain ⟨he1, hsn, hsv⟩ := hEP
                      try dsimp only at he1 hsn hsv
                      have hnx : linesX 1 [] (spl 10 s) = linesX (n + 1) (ps ++ [⟨n, S.name, S.vars, []⟩]) (spl 10 lb) := by
                        rw [HP8.out.text, HSt.out]
                        unfold lineX
                        rw [HBd2.out]
                        dsimp only
                        rw [hpc]
                      have hsml := pcL_small hpc
                      rw [hsn, hsv] at hnx hsml
                      have hsz := RSm.pr (p := ⟨n, bs nm, l, []⟩) HP8.out.small (Nat.le_trans hsml.1 (by omega)) (Nat.le_trans hsml.2.2 (by omega)) (fun v hv => Nat.le_trans (hsml.2.1 v hv) (by omega)) rfl
                      have HNx := Lib.hid hnx
                      have HSz := Lib.hid hsz
                      rw [he1] at c4
                      have hpw : PW w rb pb tb (ps.map (·.line)) L lc Q qc w8 A ac ms rows := ⟨HP8.out.px, HP8.out.res, HP8.out.pos, HP8.out.ex, Nat.le_of_eq HRb.out.symm, n3, by have := HTb.out; omega⟩
                      have HW8 := Lib.hid hpw
                      have HPR := Lib.hid (And.intro HP8.out.pr HP8.out.row)
                      have HMl := Lib.hid hml
                      have hrl : rows.length = ps.length := by have := congrArg List.length HP8.out.row; simpa using this
                      have HRl := Lib.hid hrl
                      have x0 : w8.cell? ⟨tb, 0, none⟩ = some (.slice A ps.length ac) := by rw [← hml]; exact hpw.px.cell.cell 0
                      have xl := hpw.px.cell.lt
                      have b0 := HB8.out.cell 0
                      have b1 := HB8.out.cell 1
                      have b2 := HB8.out.cell 2
                      have bl := HB8.out.lt
                      have hrq : rb ≤ qb := by have h1 := HP2.out.res.lt; have h2 := HX3.out.below.size; have h3 := HQw.out; omega
                      have HVr := Lib.hid (OwnO.mono HO8.out hrq)
                      have HPo : Hid (OwnO w8 rb 35 3 (.slice A ps.length ac) ps.length (ms.flatMap procV)) := by
                        have := hpw.px.tp.procs
                        rw [hml] at this
                        exact Lib.hid this
                      have hsz8 : rb ≤ w8.heap.size := Nat.le_of_lt hpw.res.lt
                      obtain ⟨ip, hip, ip0, ip1, ip2⟩ := info_parts infoPrc
                      obtain ⟨ii, hii, ii0, ii1, ii2⟩ := info_parts infoInt'
                      obtain ⟨iw, hiw, iw0, iw1, iw2⟩ := info_parts infoRow
                      clear he1 hsn hsv hnx hsml hsz hpw hpc HBd2 HSt HB8 HO8 HR8 HG8 HX8 HX3 HP2 HP8 hml hrl HP
                      go_wp2_with (at_builtin; refine wpList_append_one _ rfl _ _ 22 rfl rb 35 ip _ 3 64 Tryz.underlying22 hip ip0 ip1 ip2 rfl (.slice A ps.length ac) ps.length (ms.flatMap procV) rfl (OwnO.ex HPo.out ((Ex.refl _).alloc _)) _ [.string (bs nm), .slice V l.length c, .slice none 0 0] rfl rfl ?h1 ?h2 ?h3 ?h4 ?h5 ?_)
                      try case h1 => exact news_new rfl (by simp)
                      try case h2 => (intro u hu; simp only [List.mem_cons, List.not_mem_nil, or_false] at hu; rcases hu with rfl | rfl | rfl <;> rfl)
                      try case h3 => omega
                      try case h4 => omega
                      try case h5 => first | exact hsz8 | (simp; omega)
                      intro A' ac' w9 ho hg hat hEx
                      have hxa : Ex w8 (w8.alloc (.cells #[.string (bs nm), .slice V l.length c, .slice none 0 0] 35)) := (Ex.refl _).alloc _
                      have hN9 := PW.pr (m := PM.mk (bs nm) l [] V c none 0) (A' := A') (ac' := ac') (w1 := w9) (HW8.out.exx hxa) (by rw [HMl.out]; exact hg) (by rw [HMl.out]; exact ho) rfl ⟨rfl, rfl⟩ (HVr.out.ex hxa)
                      have hB9 := (HW8.out.px.cell.ex hxa).chg (Chg.of_own (HPo.out.ex hxa) hg) (by decide)
                      rw [HMl.out] at hN9
                      have y0 := hB9.cell 0
                      rw [HMl.out] at y0
                      have yl := hB9.lt
                      have yf := hB9.frozen 0
                      have HN9 := Lib.hid hN9
                      clear hN9 hB9 hxa ho hg hat hEx x0 xl b0 b1 b2 bl c4 c5 lg HPo HVr HW8
                      go_upto_region 35 with fail
                      generalize w9.setCell ⟨tb, 0, none⟩ (.slice A' (ps.length + 1) ac') = W9 at *
                      have HLo : Hid (OwnO W9 rb 3 1 (.slice L ps.length lc) ps.length (lnV (ps.map (·.line)))) := by
                        have := HN9.out.px.lines
                        rw [List.length_map] at this
                        exact Lib.hid this
                      have hsz9 : rb ≤ W9.heap.size := Nat.le_of_lt HN9.out.res.lt
                      go_wp2_with (at_builtin; refine wpList_append_one _ rfl _ _ 93 rfl rb 3 ii _ 1 8 Tryz.underlying93 hii ii0 ii1 ii2 rfl (.slice L ps.length lc) ps.length (lnV (ps.map (·.line))) rfl (OwnO.ex HLo.out ((Ex.refl _).alloc _)) _ [.int .i64 (n : Int)] rfl rfl ?h1 ?h2 ?h3 ?h4 ?h5 ?_)
                      try case h1 => exact news_new rfl (by simp)
                      try case h2 => (intro u hu; simp only [List.mem_cons, List.not_mem_nil, or_false] at hu; rcases hu with rfl; rfl)
                      try case h3 => omega
                      try case h4 => omega
                      try case h5 => first | exact hsz9 | (simp; omega)
                      intro L' lc' w10 ho hg hat hEx
                      have hxb : Ex W9 (W9.alloc (.cells #[.int .i64 (n : Int)] 3)) := (Ex.refl _).alloc _
                      have hN10 := PW.line_ (n := n) (L' := L') (lc' := lc') (w1 := w10) (HN9.out.exx hxb) (by rw [List.length_map]; exact hg) (by rw [List.length_map]; exact ho)
                      have HN10 := Lib.hid hN10
                      have HQo : Hid (OwnO w10 rb 107 1 (.slice Q ps.length qc) ps.length (rows.map (·.v))) := by
                        have := hN10.px.sd.outer
                        rw [HRl.out] at this
                        exact Lib.hid this
                      have hsz10 : rb ≤ w10.heap.size := Nat.le_of_lt hN10.res.lt
                      clear hN10 hxb ho hg hat hEx HLo HN9 y0 yl yf
                      go_wp2_with (at_builtin; refine wpList_append_one _ rfl _ _ 104 rfl rb 107 iw _ 1 24 Tryz.underlying104 hiw iw0 iw1 iw2 rfl (.slice Q ps.length qc) ps.length (rows.map (·.v)) rfl (OwnO.ex HQo.out ((Ex.refl _).alloc _)) _ [.slice none 0 0] rfl rfl ?h1 ?h2 ?h3 ?h4 ?h5 ?_)
                      try case h1 => exact news_new rfl (by simp)
                      try case h2 => (intro u hu; simp only [List.mem_cons, List.not_mem_nil, or_false] at hu; rcases hu with rfl; rfl)
                      try case h3 => omega
                      try case h4 => omega
                      try case h5 => first | exact hsz10 | (simp; omega)
                      intro Q' qc' w11 ho hg hat hEx
                      have hxb : Ex w10 (w10.alloc (.cells #[.slice none 0 0] 107)) := (Ex.refl _).alloc _
                      have hN11 := PW.rw_ (Q' := Q') (qc' := qc') (w1 := w11) (HN10.out.exx hxb) (by rw [HRl.out]; exact hg) (by rw [HRl.out]; exact ho)
                      have HN11 := Lib.hid hN11
                      have qn : IntKind.i64.wrap ((n : Int) + 1) = ((n + 1 : Nat) : Int) := IntWalk.i64_in _ (by omega)
                      clear hN11 hxb ho hg hat hEx HQo HN10
                      go_wp2_with fail
                      have hl' : (ps ++ [RP.mk n (bs nm) l []]).length = ps.length + 1 := by simp
                      have hpx := HN11.out.px
                      have hpf : PLoop w rb pb tb s lb (n + 1) (ps ++ [RP.mk n (bs nm) l []]) L' lc' Q' qc' w11 A' ac' (ms ++ [PM.mk (bs nm) l [] V c none 0]) (rows ++ [⟨.slice none 0 0, 0, []⟩]) := ⟨HNx.out, by rw [List.map_append]; exact hpx, by
                        rw [List.map_append, List.map_append, HPR.out.1]
                        rfl, by
                        rw [List.map_append, List.map_append, HPR.out.2]
                        rfl, HN11.out.res, HN11.out.pos, HN11.out.ex, HSz.out⟩
                      have HPf := Lib.hid hpf
                      have hN2 := HN.out
                      go_roundg lb.length
                      case measure => omega
                      case rel => exact ⟨lb, n + 1, ps ++ [RP.mk n (bs nm) l []], L', lc', Q', qc', rfl, by rw [hl'], by rw [hl'], by go_num, Nat.le_refl _, Lib.hid ⟨by omega, by omega, _, _, _, _, HPf.out⟩⟩
                  | true =>
                    rw [hm] at HMs
                    have hm2 : sr.e = 0 ∧ sr.at_ < ws.length := by
                      unfold moreF at hm
                      simpa using hm
                    have hAd := asg_adv ws cs en sr hm2.1 hm2.2
                    have hgk := HD.out.2.2 hm2.1
                    obtain ⟨n9, rfl⟩ : ∃ n9, gk = n9 + 1 := ⟨gk - 1, by omega⟩
                    have hD1 := HD.out.1
                    have hsc : pcD ws cs en (n9 + 1) sr l = if moreF ws sr then pcD ws cs en n9 (asgF ws cs en sr).2.2 (l ++ [(bs (asgF ws cs en sr).1, (asgF ws cs en sr).2.1)]) else (l, sr) := rfl
                    rw [hsc, hm, if_pos rfl] at hD1
                    have hlg := HD.out.2.1
                    have HAss := Lib.hid (fun w' (hx : Exg g w3 w') (h : RdC w' g ws cs en sr) => assignment_c g ws cs en HWsl.out sr w' h (fun w9 h9 => HE.out w9 (HP2.out.ex.trans (Exg.out HX3.out (hx.trans h9) HGw.out))))
                    have HAt : Hid ((asgF ws cs en sr).2.2.e = 0 → ws.length ≤ n9 + (asgF ws cs en sr).2.2.at_) := fun h => by have := hAd h; omega
                    have HLg : Hid (l.length + 1 + n9 ≤ ws.length) := Lib.hid (by omega)
                    have hll : l.length ≤ 20000 := by have := HLa.out; omega
                    generalize asgF ws cs en sr = M at *
                    obtain ⟨an, av, s9⟩ := M
                    dsimp only at *
                    have HDn := Lib.hid hD1
                    clear hm hm2 hgk hD1 hsc hlg hAd HD
                    go_wp2_with fail
                    refine (HMs.out).mono ?_
                    rintro e9 w8 ⟨rfl, hx⟩
                    have HB8 := Lib.hid (HB.out.ex hx)
                    have HO8 := Lib.hid (HO.out.ex hx)
                    have HR8 := Lib.hid (HR.out.ex hx)
                    have HG8 := Lib.hid (HG.out.ex hx)
                    clear hx HB HO HR HG HMs
                    go_wp2_with fail
                    refine (HAss.out _ HG8.out HR8.out).mono ?_
                    rintro e9 w9 ⟨rfl, h1, h2⟩
                    have hrb : ∃ cs9, Blk w8 g 95 cs9 := by
                      obtain ⟨_, _, _, _, _, _, _, _, hb3, _⟩ := HR8.out
                      exact ⟨_, hb3⟩
                    obtain ⟨cs9, hb9⟩ := hrb
                    have HR9 := Lib.hid h1
                    have HG9 := Lib.hid (HG8.out.trans h2)
                    have HB9 := Lib.hid (h2.blk HB8.out hqg)
                    have HO9 := Lib.hid (HO8.out.kept h2.grown (.inr fun e => OwnO.ne HO8.out hb9 (by decide) e.symm))
                    have x1 := HB9.out.cell 1
                    have xl := HB9.out.lt
                    have hsz : qb ≤ w9.heap.size := by omega
                    obtain ⟨iv, hiv, iv0, iv1, iv2⟩ := info_parts infoVr
                    clear h1 h2 hb9 HB8 HR8 HO8 HG8 HAss
                    go_wp2_with (at_builtin; refine wpList_append_one _ rfl _ _ 32 rfl qb 71 iv _ 2 24 Tryz.underlying32 hiv iv0 iv1 iv2 rfl (.slice V l.length c) l.length (varV l) rfl (OwnO.ex HO9.out ((Ex.refl _).alloc _)) _ [.string (bs an), .int .i64 av] rfl rfl ?g1 ?g2 ?g3 ?g4 ?g5 ?_)
                    try case g1 => exact news_new rfl (by simp)
                    try case g2 => (intro u hu; simp only [List.mem_cons, List.not_mem_nil, or_false] at hu; rcases hu with rfl | rfl <;> rfl)
                    try case g3 => omega
                    try case g4 => omega
                    try case g5 => first | exact hsz | (simp; omega)
                    intro V' c' w12 ho hg hat hEx
                    have hvs : varV l ++ [.string (bs an), .int .i64 av] = varV (l ++ [(bs an, av)]) := by unfold varV; rw [List.flatMap_append]; rfl
                    rw [hvs] at ho
                    have hxa : Ex w9 (w9.alloc (.cells #[.string (bs an), .int .i64 av] 71)) := (Ex.refl _).alloc _
                    have hOa := HO9.out.ex hxa
                    have hBa := HB9.out.ex hxa
                    have hRa := HR9.out.ex hxa
                    have hGa := HG9.out.ex hxa
                    have hb12 := hBa.grown hg (OwnO.ne hOa hBa (by decide))
                    have hr12 := hRa.grown hg (by
                      obtain ⟨_, _, _, _, _, _, _, _, hb3, _⟩ := hRa
                      exact OwnO.ne hOa hb3 (by decide)) (OwnO.typed hOa (by decide) (by decide))
                    have hg12 := hGa.by_ hg (fun x e => .inl (Nat.le_trans HQw.out (OwnO.lt hOa x e).1))
                    have hll' : (l ++ [(bs an, av)]).length = l.length + 1 := by simp
                    have HL' := Lib.hid hll'
                    rw [← hll'] at ho hat ⊢
                    clear hll'
                    have z1 := hb12.cell 1
                    have zl := hb12.lt
                    have zf := hb12.frozen 1
                    have hno : some qb ≠ (Value.slice V' (l ++ [(bs an, av)]).length c').ownBlock := OwnO.ne ho hb12 (by decide)
                    have HB13 := Lib.hid (hb12.set_ 1 (.slice V' (l ++ [(bs an, av)]).length c'))
                    have HO13 := Lib.hid (ho.set_ (p := ⟨qb, 1, none⟩) (fun e => hno e.symm) (.slice V' (l ++ [(bs an, av)]).length c'))
                    have HR13 := Lib.hid (hr12.other hb12 (by decide) (by decide) (by decide) 1 (.slice V' (l ++ [(bs an, av)]).length c'))
                    have HG13 := Lib.hid (hg12.new_ (p := ⟨qb, 1, none⟩) HQw.out (.slice V' (l ++ [(bs an, av)]).length c'))
                    have HLg' : Hid ((l ++ [(bs an, av)]).length + n9 ≤ ws.length) := by show _ ≤ _; rw [HL'.out]; exact HLg.out
                    clear ho hg hat hEx hxa hOa hBa hRa hGa hb12 hr12 hg12 hno x1 xl hvs
                    generalize l ++ [(bs an, av)] = l2 at *
                    go_wp2_with fail
                    go_roundg n9
                    case measure => omega
                    case rel => exact ⟨s9, l2, V', c', Lib.hid ⟨HDn.out, HLg'.out, HAt.out⟩, Lib.hid ⟨HB13.out, HO13.out, HR13.out, HG13.out⟩⟩
end Go.Proofs.YtpmponafjhnegaaGreatDoor
