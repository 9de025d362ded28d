/-
  The line of an event, read by the program: walked.
  Conditions: as each theorem says; the world's tables are as laid (Env).
-/
import Derived.Test.YtpmponafjhnegaaGreatDoorMe
import Derived.Deep.Cut
import Derived.Deep.CutBlock
import Derived.Deep.LoopGhost
namespace Go.Proofs.YtpmponafjhnegaaGreatDoor
open Go.RowKit Nu
theorem infoAsg : (Tryz.prog.info? 102).map (fun i => (i.zero, i.size, i.bytes)) = some (some (.agg #[.int .i64 0, .int .i64 0]), 2, 16) := by kernel_rfl
def EvtV (F : EvF) (B : Option Addr) (c : Nat) : Value := .tuple #[.agg #[.int .i64 F.kind, .int .i64 0, .int .i64 F.msg, .int .i64 F.time, .slice B F.asg.length c], .string (bs F.peer), .int .i64 (F.pcol : Int)]
/-- what the reading of an event leaves -/
def EvtR (w : World) (g : Nat) (ws : List (List UInt8)) (cs : List Nat) (en : Nat) (F : EvF) (e : Ending) (w' : World) : Prop :=
  ∃ B c, e = .returned (EvtV F B c) ∧ OwnO w' w.heap.size 102 2 (.slice B F.asg.length c) F.asg.length (asgV F.asg) ∧ RdC w' g ws cs en F.s ∧ Exg g w w'
theorem beq_dec (a b : List UInt8) : (a == b) = decide (a = b) := by rw [Bool.eq_iff_iff, beq_iff_eq, decide_eq_true_eq]
theorem kind_str (l : List UInt8) : (l == [108, 111, 99, 97, 108]) = decide (l = wLocal) ∧ (l == [115, 101, 110, 100]) = decide (l = wSend) ∧ (l == [114, 101, 99, 101, 105, 118, 101]) = decide (l = wReceive) ∧ (l == [112, 114, 111, 99, 101, 115, 115]) = decide (l = wProcess) :=
  ⟨beq_dec _ _, beq_dec _ _, beq_dec _ _, beq_dec _ _⟩
theorem results_evt {fn : Func} {p q s g : Nat} {a b c d e x y : Value} {w : World} {tmps : Array Value} (hr : fn.results = #[.cell p 38, .tmp q, .tmp s]) (hp : tmps.getD p undef = .pointer (some ⟨g, 0, none⟩)) (hq : tmps.getD q undef = x) (hs : tmps.getD s undef = y) (hB : Blk w g 38 [a, b, c, d, e]) :
    (results fn tmps).run Tryz.prog w = .ok (.tuple #[.agg #[a, b, c, d, e], x, y]) w := by
  have h0 : w.cell? ⟨g, 0, none⟩ = some a := hB.cell 0
  have h1 : w.cell? ⟨g, 1, none⟩ = some b := hB.cell 1
  have h2 : w.cell? ⟨g, 2, none⟩ = some c := hB.cell 2
  have h3 : w.cell? ⟨g, 3, none⟩ = some d := hB.cell 3
  have h4 : w.cell? ⟨g, 4, none⟩ = some e := hB.cell 4
  rw [Array.getD_eq_getD_getElem?] at hp hq hs
  simp [results, hr, hp, hq, hs, go_sem, h0, h1, h2, h3, h4]
theorem OwnO.typed {w : World} {base : Nat} {e : TypeId} {size : Nat} {v : Value} {n : Nat} {xs : List Value} (h : OwnO w base e size v n xs) (h1 : 9 ≠ e) (h2 : 3 ≠ e) :
    ∀ b, v.ownBlock = some b → (∃ cur, w.heap[b]? = some (.cells cur 9 (0, 0))) ∨ (∃ cur, w.heap[b]? = some (.cells cur 3 (0, 0))) → False := by
  intro b hb hc
  rcases h.2 with ⟨rfl, _⟩ | ⟨g, o, cap, cur, rfl, -, hgg, _⟩
  · simp [Value.ownBlock] at hb
  · simp only [Value.ownBlock, Option.some.injEq] at hb
    subst hb
    rcases hc with ⟨c, hc⟩ | ⟨c, hc⟩
    all_goals
      rw [hgg] at hc
      injection hc with hc
      injection hc with _ ht
    · exact h1 ht.symm
    · exact h2 ht.symm
theorem asgV_snoc (l : List (Int × Int)) (a b : Int) : asgV l ++ [.int .i64 a, .int .i64 b] = asgV (l ++ [(a, b)]) := by unfold asgV; rw [List.flatMap_append]; rfl
theorem num_alive (cs : List Nat) (l : List UInt8) (ok : Bool) (s : Rst) (h : (numF cs l ok s).2.e = 0) : (numF cs l ok s).2 = s := by
  unfold numF at h ⊢
  by_cases he : s.e = 0
  · rw [if_pos he] at h ⊢
    have hf : ∀ E : Int, E ≠ 0 → (failF cs E s).e ≠ 0 := fun E hE => by unfold failF; rw [if_pos he]; exact hE
    split at h
    · rename_i hok
      rw [if_pos hok]
      dsimp only at h ⊢
      split at h
      · rename_i hp; rw [if_pos hp]
      · rename_i hp; exact absurd h (hf _ hp)
    · exact absurd h (hf 3 (by decide))
  · rw [if_neg he] at h
    exact absurd h he
theorem evD_succ (ws : List (List UInt8)) (cs : List Nat) (en : Nat) (vars : List (ByteArray × Int)) (n : Nat) (s : Rst) (l : List (Int × Int)) (h : moreF ws s = true) : evD ws cs en vars (n + 1) s l = if (asgF ws cs en s).2.2.e = 0 then
      (match vIdx (bs (asgF ws cs en s).1) vars with
        | some i => evD ws cs en vars n (asgF ws cs en s).2.2 (l ++ [((i : Int), (asgF ws cs en s).2.1)])
        | none => evD ws cs en vars n (failF cs 13 (asgF ws cs en s).2.2) (l ++ [(0, (asgF ws cs en s).2.1)]))
    else (l, (asgF ws cs en s).2.2) := by
  show (if moreF ws s = true then _ else _) = _
  rw [if_pos h]
  rfl
theorem asg_adv (ws : List (List UInt8)) (cs : List Nat) (en : Nat) (s : Rst) (he : s.e = 0) (hl : s.at_ < ws.length) (h : (asgF ws cs en s).2.2.e = 0) : (asgF ws cs en s).2.2.at_ = s.at_ + 1 := by
  have h2 := num_alive cs _ _ _ h
  unfold asgF
  unfold asgF at h2
  dsimp only at h2 ⊢
  rw [h2, word_at ws en he (List.getElem?_eq_getElem hl)]
theorem asg_len (ws : List (List UInt8)) (cs : List Nat) (en : Nat) (hws : ∀ w ∈ ws, w.length ≤ 20000) (s : Rst) : (asgF ws cs en s).1.length ≤ 20000 := by
  have h1 := word_len ws en hws s
  have h2 := (cutG_len 61 (wordF ws en s).1).1
  unfold asgF
  dsimp only
  rw [cutF_G]
  omega
theorem asg_pos (ws : List (List UInt8)) (cs : List Nat) (en : Nat) (s : Rst) (h : (asgF ws cs en s).2.2.e = 0) : 1 ≤ (asgF ws cs en s).2.2.at_ := by
  have h2 := num_alive cs _ _ _ h
  have hp := word_pos ws en s
  unfold asgF at h h2 ⊢
  rw [h2] at h ⊢
  exact hp h
theorem name_pos' (ws : List (List UInt8)) (cs : List Nat) (en : Nat) (s : Rst) (h : (nameF ws cs en s).2.e = 0) : 1 ≤ (nameF ws cs en s).2.at_ := by
  have hp := word_pos ws en s
  unfold nameF at h ⊢
  by_cases he : (wordF ws en s).2.e = 0
  · rw [if_pos he] at h ⊢
    split at h
    · rename_i hn
      rw [if_pos hn]
      exact hp he
    · exfalso
      unfold failF at h
      dsimp only at h
      rw [if_pos he] at h
      exact absurd h (by simp)
  · rw [if_neg he] at h
    exact absurd h he
set_option maxRecDepth 100000 in
set_option maxHeartbeats 12800000 in
theorem event_c (g : Nat) (ws : List (List UInt8)) (cs : List Nat) (en : Nat) (vars : List (ByteArray × Int)) (V : Option Addr) (vc : Nat) (w : World) (h : RdC w g ws cs en ⟨0, 0, 0⟩) (hws : ∀ w ∈ ws, w.length ≤ 20000)
    (hE : ∀ w', Exg g w w' → Env w') (hV : ∀ w', Exg g w w' → Row w' V (varV vars)) (hvl : vars.length ≤ 20000) (hvs : ∀ v ∈ vars, v.1.size ≤ 20000) :
    Calls Tryz.prog 46 #[.pointer (some ⟨g, 0, none⟩), .slice V vars.length vc] w (EvtR w g ws cs en (evF vars ws cs en ws.length ⟨0, 0, 0⟩)) := by
  obtain ⟨i0, hi0, hz0, hz1, hz2⟩ := info_parts infoAsg
  have HWo := Lib.hid (fun s w' (h : RdC w' g ws cs en s) => word_c g ws cs en s w' h)
  have HFl := Lib.hid (fun E s w' (h : RdC w' g ws cs en s) (hs : s.e = 0 → 1 ≤ s.at_) => fail_c g ws cs en E s w' h hs)
  have HNm := Lib.hid (fun s w' (h : RdC w' g ws cs en s) => name_c g ws cs en hws s w' h)
  have HNu := Lib.hid (fun S ok s w' (hx : Exg g w w') (h : RdC w' g ws cs en s) (hs : s.e = 0 → 1 ≤ s.at_) (hS : S.size ≤ 20000) => number_c g ws cs en S ok s w' (hE w' hx) h hs hS)
  have HMo := Lib.hid (fun s w' (h : RdC w' g ws cs en s) => more_c g ws cs en s w' h)
  have HAs := Lib.hid (fun s w' (hx : Exg g w w') (h : RdC w' g ws cs en s) => assignment_c g ws cs en hws s w' h (fun w2 h2 => hE w2 (hx.trans h2)))
  have HLen := Lib.hid (word_len ws en hws)
  have HVr := Lib.hid hV
  have HAl := Lib.hid (asg_len ws cs en hws)
  unfold Rdr at *
  obtain ⟨F, hF⟩ : ∃ F, F = evF vars ws cs en ws.length ⟨0, 0, 0⟩ := ⟨_, rfl⟩
  rw [← hF]
  have HF := Lib.hid hF
  have hgl := h.lt
  have HR0 := Lib.hid h
  obtain ⟨eb, heb⟩ : ∃ eb, eb = w.heap.size := ⟨_, rfl⟩
  have HEb := Lib.hid heb
  have hge : g ≠ eb := by omega
  have hB0 := Blk.new w 38 [.int .i64 0, .int .i64 0, .int .i64 0, .int .i64 0, .slice none 0 0]
  rw [← heb] at hB0
  have hX0 : Ex w (w.alloc (.cells #[.int .i64 0, .int .i64 0, .int .i64 0, .int .i64 0, .slice none 0 0] 38)) := (Ex.refl w).alloc _
  have HB0 := Lib.hid hB0
  have HX0 := Lib.hid hX0
  clear hF h hE hV hB0 hX0 hws
  unfold EvtR
  go_enter Tryz.func46, Tryz.ntmps46
  go_upto_block 0 with fail
  rw [← heb]
  generalize w.alloc (.cells #[.int .i64 0, .int .i64 0, .int .i64 0, .int .i64 0, .slice none 0 0] 38) = W0 at *
  refine (HWo.out _ _ (HR0.out.ex HX0.out)).mono ?_
  rintro e9 w1 ⟨rfl, h1, h2⟩
  have HR1 := Lib.hid h1
  have HG1 := Lib.hid ((Exg.of HX0.out).trans h2)
  have HB1 := Lib.hid (h2.blk HB0.out (fun e => hge e.symm))
  clear h1 h2 HB0 HX0 heb
  go_upto_block 0 with fail
  go_cut [] from 17 (fun wx => ∃ (k : Int) (s : Rst), Hid (k = (evA ws cs en ⟨0, 0, 0⟩).1 ∧ s = (evA ws cs en ⟨0, 0, 0⟩).2) ∧ Hid (Blk wx eb 38 [.int .i64 k, .int .i64 0, .int .i64 0, .int .i64 0, .slice none 0 0] ∧ RdC wx g ws cs en s ∧ Exg g w wx))
  case first =>
    obtain ⟨b1, b2, b3, -⟩ := kind_str (wordF ws en ⟨0, 0, 0⟩).1
    have hpos := word_pos ws en ⟨0, 0, 0⟩
    have HEA : Hid (evA ws cs en ⟨0, 0, 0⟩ = (kindF (wordF ws en ⟨0, 0, 0⟩).1, if kindF (wordF ws en ⟨0, 0, 0⟩).1 = 0 then failF cs 3 (wordF ws en ⟨0, 0, 0⟩).2 else (wordF ws en ⟨0, 0, 0⟩).2)) := rfl
    generalize wordF ws en ⟨0, 0, 0⟩ = P at *
    obtain ⟨l0, s1⟩ := P
    dsimp only at *
    have x0 := HB1.out.cell 0
    have xl := HB1.out.lt
    have xf := HB1.out.frozen 0
    have hnew : ∀ u, Hid (Exg g w (w1.setCell ⟨eb, 0, none⟩ u)) := fun u => HG1.out.new_ (p := ⟨eb, 0, none⟩) (Nat.le_of_eq HEb.out.symm) u
    have HNw := Lib.hid hnew
    clear hnew
    by_cases h1 : l0 = wLocal
    · rw [decide_eq_true h1] at b1
      have HK : Hid (kindF l0 = 1) := by unfold kindF; rw [if_pos h1]; exact Lib.hid rfl
      clear h1 b2 b3
      go_wp2_with fail
      go_meet
      case rel => exact ⟨1, s1, Lib.hid (by rw [HEA.out, HK.out]; exact ⟨rfl, rfl⟩), Lib.hid ⟨HB1.out.set_ 0 _, HR1.out.other HB1.out (by decide) (by decide) (by decide) 0 _, (HNw.out _).out⟩⟩
    rw [decide_eq_false h1] at b1
    by_cases h2 : l0 = wSend
    · rw [decide_eq_true h2] at b2
      have HK : Hid (kindF l0 = 2) := by unfold kindF; rw [if_neg h1, if_pos h2]; exact Lib.hid rfl
      clear h1 h2 b3
      go_wp2_with fail
      go_meet
      case rel => exact ⟨2, s1, Lib.hid (by rw [HEA.out, HK.out]; exact ⟨rfl, rfl⟩), Lib.hid ⟨HB1.out.set_ 0 _, HR1.out.other HB1.out (by decide) (by decide) (by decide) 0 _, (HNw.out _).out⟩⟩
    rw [decide_eq_false h2] at b2
    by_cases h3 : l0 = wReceive
    · rw [decide_eq_true h3] at b3
      have HK : Hid (kindF l0 = 3) := by unfold kindF; rw [if_neg h1, if_neg h2, if_pos h3]; exact Lib.hid rfl
      clear h1 h2 h3
      go_wp2_with fail
      go_meet
      case rel => exact ⟨3, s1, Lib.hid (by rw [HEA.out, HK.out]; exact ⟨rfl, rfl⟩), Lib.hid ⟨HB1.out.set_ 0 _, HR1.out.other HB1.out (by decide) (by decide) (by decide) 0 _, (HNw.out _).out⟩⟩
    rw [decide_eq_false h3] at b3
    have HK : Hid (kindF l0 = 0) := by unfold kindF; rw [if_neg h1, if_neg h2, if_neg h3]; exact Lib.hid rfl
    have c4 := HR1.out.cell4
    clear h1 h2 h3
    by_cases he : s1.e = 0
    · rw [he] at c4
      have HFs := Lib.hid (HFl.out 3 s1 w1 HR1.out hpos)
      clear he hpos
      go_wp2_with fail
      refine (HFs.out).mono ?_
      rintro e9 w2 ⟨rfl, h1, h2⟩
      have HR2 := Lib.hid h1
      have HG2 := Lib.hid (HG1.out.trans h2)
      have HB2 := Lib.hid (h2.blk HB1.out (fun e => hge e.symm))
      clear h1 h2
      go_wp2_with fail
      go_meet
      case rel => exact ⟨0, failF cs 3 s1, Lib.hid (by rw [HEA.out, HK.out]; exact ⟨rfl, rfl⟩), Lib.hid ⟨HB2.out, HR2.out, HG2.out⟩⟩
    · have be : (s1.e == 0) = false := beq_eq_false_iff_ne.2 he
      have HFd : Hid (failF cs 3 s1 = s1) := fail_dead cs 3 he
      clear he hpos
      go_wp2_with fail
      go_meet
      case rel => exact ⟨0, s1, Lib.hid (by rw [HEA.out, HK.out, HFd.out]; exact ⟨rfl, rfl⟩), Lib.hid ⟨HB1.out, HR1.out, HG1.out⟩⟩
  case rest =>
    clear HR1 HG1 HB1 HR0
    obtain ⟨k, s, HK, HC⟩ := hcut
    go_step
    go_step
    have HE1 : Hid (∃ b, b = evB ws cs en k s) := ⟨_, rfl⟩
    obtain ⟨EB, hEB⟩ := HE1.out
    have HEB := Lib.hid hEB
    clear hEB HE1
    obtain ⟨p1, p2, p3, p4⟩ := EB
    go_cut [5, 6] from 33 (fun s5 s6 wx => s5 = .string (bs p1) ∧ s6 = .int .i64 (p2 : Int) ∧ Hid (Blk wx eb 38 [.int .i64 k, .int .i64 0, .int .i64 p3, .int .i64 0, .slice none 0 0] ∧ RdC wx g ws cs en p4 ∧ Exg g w wx))
    case first =>
      obtain ⟨hB, hR, hG⟩ := HC.out
      have x0 := hB.cell 0
      have xl := hB.lt
      have HB2 := Lib.hid hB
      have HR2 := Lib.hid hR
      have HG2 := Lib.hid hG
      clear hB hR hG HC HK HF
      by_cases hk : k = 2 ∨ k = 3
      · have HEq : Hid ((p1, p2, p3, p4) = ((nameF ws cs en s).1, (if (nameF ws cs en s).2.e = 0 then cs.getD ((nameF ws cs en s).2.at_ - 1) 0 else 0), numF cs (wordF ws en (nameF ws cs en s).2).1 true (wordF ws en (nameF ws cs en s).2).2)) := by
          rw [HEB.out]; unfold evB; rw [if_pos hk]; exact Lib.hid rfl
        have e := HEq.out
        simp only [Prod.mk.injEq] at e
        have hnp := name_pos' ws cs en s
        have HNs := Lib.hid (HNm.out s _ HR2.out)
        clear HEq HEB
        generalize nameF ws cs en s = N at *
        obtain ⟨nl, n2⟩ := N
        dsimp only at *
        have HWd := Lib.hid (HWo.out n2)
        have hwp := word_pos ws en n2
        have hwl := HLen.out n2
        generalize wordF ws en n2 = M at *
        obtain ⟨ml, m2⟩ := M
        dsimp only at *
        have HNd := Lib.hid (fun w' (hx : Exg g w w') (h : RdC w' g ws cs en m2) => HNu.out (bs ml) true m2 w' hx h hwp hwl)
        have hbm : (bs ml).data.toList = ml := rfl
        rw [hbm] at HNd
        generalize numF cs ml true m2 = Q at *
        obtain ⟨qv, q2⟩ := Q
        dsimp only at *
        obtain ⟨rfl, e2, rfl, rfl⟩ := e
        clear hbm hwp hwl
        have k23 : ((k == 2) = true) ∨ ((k == 2) = false ∧ (k == 3) = true) := by
          rcases hk with rfl | rfl
          · exact .inl rfl
          · exact .inr ⟨rfl, rfl⟩
        clear hk
        rcases k23 with k2 | ⟨k2, k3⟩
        all_goals
          go_wp2_with fail
          refine (HNs.out).mono ?_
          rintro e9 w3 ⟨rfl, h1, h2⟩
          have HR3 := Lib.hid h1
          have HG3 := Lib.hid (HG2.out.trans h2)
          have HB3 := Lib.hid (h2.blk HB2.out (fun e => hge e.symm))
          have c4 := h1.cell4
          have lg := h1.lt
          clear h1 h2 x0 xl
          by_cases he : n2.e = 0
          · have hn1 := hnp he
            rw [if_pos he] at e2
            rw [he] at c4
            obtain ⟨ba, oa, ca, bc, oc, cc, h1, h2, h3, h4, h5⟩ := HR3.out
            have c1 : w3.cell? ⟨g, 1, none⟩ = some (.slice (some ⟨bc, oc, none⟩) ws.length cc) := h3.cell 1
            obtain ⟨a, ha⟩ : ∃ a, n2.at_ = a + 1 := ⟨n2.at_ - 1, by omega⟩
            have c3 : w3.cell? ⟨g, 3, none⟩ = some (.int .i64 ((a : Int) + 1)) := by
              have := h3.cell 3
              rw [this, ha]
              rfl
            obtain ⟨-, -, hal, hwl, hcl⟩ := h2
            obtain ⟨C, hC⟩ : ∃ C, cs[a]? = some C := ⟨_, List.getElem?_eq_getElem (by omega)⟩
            have hp2 : p2 = C := by
              rw [e2, ha, Nat.add_sub_cancel, List.getD_eq_getElem?_getD, hC]
              rfl
            have d0 := h5.1.2 _ _ (natV_get hC)
            have lc := h5.1.1
            have m0 : (0 : Int) ≤ (a : Int) := by omega
            have m1 : (a : Int) < (ws.length : Int) := by omega
            have q5 : IntKind.i64.wrap ((a : Int) + 1 - 1) = (a : Int) := by rw [Int.add_sub_cancel]; exact IntWalk.i64_in _ (by omega)
            have q6 : IntKind.i64.wrap (a : Int) = (a : Int) := IntWalk.i64_in _ (by omega)
            have HCol : Hid (p2 = C) := hp2
            clear h1 h3 h4 h5 hp2 e2 he hn1 hnp ha hal hC hcl
            go_wp2_with fail
            go_quiet (fail)
            have hxq := (Ex.refl w3).drewN nq
            have HR3' := Lib.hid (HR3.out.ex hxq)
            have HG3' := Lib.hid (HG3.out.ex hxq)
            have HB3' := Lib.hid (HB3.out.ex hxq)
            clear hxq HR3 HG3 HB3 c1 c3 c4 d0
            have HR3 := HR3'
            have HG3 := HG3'
            have HB3 := HB3'
            clear HR3' HG3' HB3'
            go_wp2_with fail
            refine (HWd.out _ HR3.out).mono ?_
            rintro e9 w4 ⟨rfl, h1, h2⟩
            have HR4 := Lib.hid h1
            have HG4 := Lib.hid (HG3.out.trans h2)
            have HB4 := Lib.hid (h2.blk HB3.out (fun e => hge e.symm))
            clear h1 h2
            go_wp2_with fail
            refine (HNd.out _ HG4.out HR4.out).mono ?_
            rintro e9 w5 ⟨rfl, h1, h2⟩
            have HR5 := Lib.hid h1
            have HG5 := Lib.hid (HG4.out.trans h2)
            have HB5 := Lib.hid (h2.blk HB4.out (fun e => hge e.symm))
            have x2 := HB5.out.cell 2
            have xl := HB5.out.lt
            have xf := HB5.out.frozen 2
            clear h1 h2
            go_wp2_with fail
            go_meet
            case rel => exact ⟨rfl, by first | rfl | (rw [HCol.out]; first | done | rfl), Lib.hid ⟨HB5.out.set_ 2 _, HR5.out.other HB5.out (by decide) (by decide) (by decide) 2 _, HG5.out.new_ (p := ⟨eb, 2, none⟩) (Nat.le_of_eq HEb.out.symm) _⟩⟩
          · rw [if_neg he] at e2
            have be : (n2.e == 0) = false := beq_eq_false_iff_ne.2 he
            have HCol : Hid (p2 = 0) := e2
            clear e2 he hnp
            go_wp2_with fail
            refine (HWd.out _ HR3.out).mono ?_
            rintro e9 w4 ⟨rfl, h1, h2⟩
            have HR4 := Lib.hid h1
            have HG4 := Lib.hid (HG3.out.trans h2)
            have HB4 := Lib.hid (h2.blk HB3.out (fun e => hge e.symm))
            clear h1 h2
            go_wp2_with fail
            refine (HNd.out _ HG4.out HR4.out).mono ?_
            rintro e9 w5 ⟨rfl, h1, h2⟩
            have HR5 := Lib.hid h1
            have HG5 := Lib.hid (HG4.out.trans h2)
            have HB5 := Lib.hid (h2.blk HB4.out (fun e => hge e.symm))
            have x2 := HB5.out.cell 2
            have xl := HB5.out.lt
            have xf := HB5.out.frozen 2
            clear h1 h2
            go_wp2_with fail
            go_meet
            case rel => exact ⟨rfl, by first | rfl | (rw [HCol.out]; first | done | rfl), Lib.hid ⟨HB5.out.set_ 2 _, HR5.out.other HB5.out (by decide) (by decide) (by decide) 2 _, HG5.out.new_ (p := ⟨eb, 2, none⟩) (Nat.le_of_eq HEb.out.symm) _⟩⟩
      · have HEq : Hid ((p1, p2, p3, p4) = (([] : List UInt8), 0, (0 : Int), s)) := by
          rw [HEB.out]; unfold evB; rw [if_neg hk]; exact Lib.hid rfl
        have e := HEq.out
        simp only [Prod.mk.injEq] at e
        obtain ⟨rfl, rfl, rfl, rfl⟩ := e
        have k2 : (k == 2) = false := beq_eq_false_iff_ne.2 fun h => hk (.inl h)
        have k3 : (k == 3) = false := beq_eq_false_iff_ne.2 fun h => hk (.inr h)
        clear hk HEq HEB
        go_wp2_with fail
        go_meet
        case rel => exact ⟨rfl, rfl, Lib.hid ⟨HB2.out, HR2.out, HG2.out⟩⟩
    case rest =>
      obtain ⟨rfl, rfl, HC2⟩ := hcut
      clear HC
      obtain ⟨hB, hR, hG⟩ := HC2.out
      have HB2 := Lib.hid hB
      have HR2 := Lib.hid hR
      have HG2 := Lib.hid hG
      clear hB hR hG HC2
      have hFq : F = ⟨k, p1, p2, p3, (evC ws cs en p4).1, (evD ws cs en vars ws.length (evC ws cs en p4).2 []).1, (evD ws cs en vars ws.length (evC ws cs en p4).2 []).2⟩ := by
        rw [HF.out]
        unfold evF
        dsimp only
        rw [← HK.out.1, ← HK.out.2, ← HEB.out]
      have HWd := Lib.hid (HWo.out p4 _ HR2.out)
      have hwp := word_pos ws en p4
      have hwl := HLen.out p4
      unfold evC at hFq
      generalize wordF ws en p4 = M at *
      obtain ⟨ml, m2⟩ := M
      dsimp only at *
      have HCk := Lib.hid (fun w' => clk_c ml w')
      have hck := clk_len ml
      generalize clkF ml = CK at *
      obtain ⟨cl, ok⟩ := CK
      dsimp only at *
      have HNd := Lib.hid (fun w' (hx : Exg g w w') (h : RdC w' g ws cs en m2) => HNu.out (bs cl) ok m2 w' hx h hwp (by show cl.length ≤ _; omega))
      have hbm : (bs cl).data.toList = cl := rfl
      rw [hbm] at HNd
      generalize numF cs cl ok m2 = Q at *
      obtain ⟨tv, s7⟩ := Q
      dsimp only at *
      have HFq := Lib.hid hFq
      clear hFq hbm hwp hwl hck HK HEB HF
      go_wp2_with fail
      refine (HWd.out).mono ?_
      rintro e9 w3 ⟨rfl, h1, h2⟩
      have HR3 := Lib.hid h1
      have HG3 := Lib.hid (HG2.out.trans h2)
      have HB3 := Lib.hid (h2.blk HB2.out (fun e => hge e.symm))
      clear h1 h2
      go_wp2_with fail
      refine (HCk.out _).mono ?_
      rintro e9 w4 ⟨rfl, hx⟩
      have HR4 := Lib.hid (HR3.out.ex hx)
      have HG4 := Lib.hid (HG3.out.ex hx)
      have HB4 := Lib.hid (HB3.out.ex hx)
      clear hx HR3 HG3 HB3
      go_wp2_with fail
      refine (HNd.out _ HG4.out HR4.out).mono ?_
      rintro e9 w5 ⟨rfl, h1, h2⟩
      have HR5 := Lib.hid h1
      have HG5 := Lib.hid (HG4.out.trans h2)
      have HB5 := Lib.hid (h2.blk HB4.out (fun e => hge e.symm))
      have x3 := HB5.out.cell 3
      have xl := HB5.out.lt
      have xf := HB5.out.frozen 3
      have wv : IntKind.i64.wrap ((vars.length : Int) - 1) = (vars.length : Int) - 1 := IntWalk.i64_in _ (by omega)
      have hmm := @run_makeMap Tryz.prog
      clear h1 h2
      go_wp2_with fail
      have hs5 : (w5.setCell ⟨eb, 3, none⟩ (.int .i64 tv)).heap.size = w5.heap.size := by simp [World.setCell]
      have hM6 := IdxM.made (w5.setCell ⟨eb, 3, none⟩ (.int .i64 tv)) vars
      rw [hs5] at hM6
      have hx6 : Ex (w5.setCell ⟨eb, 3, none⟩ (.int .i64 tv)) ((w5.setCell ⟨eb, 3, none⟩ (.int .i64 tv)).alloc (.map #[] 0)) := (Ex.refl _).alloc _
      have hB6 := (HB5.out.set_ 3 (.int .i64 tv)).ex hx6
      have hR6 := (HR5.out.other HB5.out (by decide) (by decide) (by decide) 3 (.int .i64 tv)).ex hx6
      have hG6 := (HG5.out.new_ (p := ⟨eb, 3, none⟩) (Nat.le_of_eq HEb.out.symm) (.int .i64 tv)).ex hx6
      have hmb : w.heap.size ≤ w5.heap.size := HG5.out.size
      generalize (w5.setCell ⟨eb, 3, none⟩ (.int .i64 tv)).alloc (.map #[] 0) = W6 at *
      have HMb := Lib.hid hmb
      generalize w5.heap.size = mb at *
      have HM6 := Lib.hid hM6
      have HB6 := Lib.hid hB6
      have HR6 := Lib.hid hR6
      have HG6 := Lib.hid hG6
      clear hM6 hB6 hR6 hG6 hx6 hs5 hmb x3 xl xf wv hmm HB5 HR5 HG5 HB4 HR4 HG4 HCk HWd HNd
      go_loopw [10] (fun q wr => ∃ k9 : Nat, ((q = .int .i64 (-1) ∧ k9 = 0) ∨ ∃ j : Nat, q = .int .i64 (j : Int) ∧ k9 = j + 1) ∧ k9 ≤ vars.length ∧ Hid (IdxM wr mb (vars.length - k9) vars k9 ∧ Blk wr eb 38 [.int .i64 k, .int .i64 0, .int .i64 p3, .int .i64 tv, .slice none 0 0] ∧ RdC wr g ws cs en s7 ∧ Exg g w wr)) (fun q _ => (intOf q + 1).toNat)
      case atStart =>
        by_cases hv0 : vars.length = 0
        · exact ⟨0, .inl ⟨by rw [hv0]; rfl, rfl⟩, Nat.zero_le _, Lib.hid ⟨by have := HM6.out; rwa [hv0] at this ⊢, HB6.out, HR6.out, HG6.out⟩⟩
        · exact ⟨vars.length, .inr ⟨vars.length - 1, by congr 1; omega, by omega⟩, Nat.le_refl _, Lib.hid ⟨by rw [Nat.sub_self]; exact HM6.out, HB6.out, HR6.out, HG6.out⟩⟩
      case round =>
        obtain ⟨k9, hq, hk9, HH⟩ := hrel
        clear HM6 HB6 HR6 HG6
        rcases hq with ⟨rfl, rfl⟩ | ⟨j, rfl, rfl⟩
        · clear hk9
          go_wp2_with fail
          clear HMb
          rw [Nat.sub_zero] at HH
          obtain ⟨hM, hB, hR, hG⟩ := HH.out
          have HM := Lib.hid hM
          have HB := Lib.hid hB
          have HR := Lib.hid hR
          have HG := Lib.hid hG
          have hwsl : ws.length ≤ 100000 := by obtain ⟨_, _, _, _, _, _, _, h, _⟩ := hR; exact h.2.2.2.1
          clear hM hB hR hG HH
          go_loopg [11] ws.length (fun gg _ w8 => ∃ (s : Rst) (l : List (Int × Int)) (B : Option Addr) (c : Nat), l.length ≤ 100000 ∧ Hid (evD ws cs en vars gg s l = evD ws cs en vars ws.length s7 [] ∧ l.length + gg ≤ ws.length ∧ (s.e = 0 → ws.length ≤ gg + s.at_)) ∧
            Hid (Blk w8 eb 38 [.int .i64 k, .int .i64 0, .int .i64 p3, .int .i64 tv, .slice B l.length c] ∧ OwnO w8 w.heap.size 102 2 (.slice B l.length c) l.length (asgV l) ∧ RdC w8 g ws cs en s ∧ IdxM w8 mb vars.length vars 0 ∧ Exg g w w8))
          case atStart => exact ⟨s7, [], none, 0, by simp, Lib.hid ⟨rfl, by simp, fun _ => by omega⟩, Lib.hid ⟨HB.out, OwnO.nil _ _ _ _, HR.out, HM.out, HG.out⟩⟩
          case round =>
            obtain ⟨s, l, B, c, hll, HD, HH⟩ := hrel
            clear HM HB HR HG
            obtain ⟨hB, hO, hR, hM, hG⟩ := HH.out
            have HB := Lib.hid hB
            have HO := Lib.hid hO
            have HR := Lib.hid hR
            have HM := Lib.hid hM
            have HG := Lib.hid hG
            clear hB hO hR hM hG HH
            have HMs := Lib.hid (HMo.out s _ HR.out)
            cases hm : moreF ws s with
            | false =>
              rw [hm] at HMs
              have HFin : Hid (F = ⟨k, p1, p2, p3, tv, l, s⟩) := by
                rw [HFq.out, ← HD.out.1]
                cases gk with
                | zero => exact Lib.hid rfl
                | succ n =>
                  unfold evD
                  rw [hm]
                  exact Lib.hid rfl
              clear hm HFq
              go_wp2_with fail
              refine (HMs.out).mono ?_
              rintro e9 w9 ⟨rfl, hx⟩
              have HB9 := Lib.hid (HB.out.ex hx)
              have HR9 := Lib.hid (HR.out.ex hx)
              have HO9 := Lib.hid (HO.out.ex hx)
              have HG9 := Lib.hid (HG.out.ex hx)
              clear hx HB HR HO HG HM
              have hB9 := HB9.out
              have x0 := hB9.cell 0
              have x1 := hB9.cell 1
              have x2 := hB9.cell 2
              have x3 := hB9.cell 3
              have x4 := hB9.cell 4
              have xl := hB9.lt
              have f0 := hB9.frozen 0
              have f1 := hB9.frozen 1
              have f2 := hB9.frozen 2
              have f3 := hB9.frozen 3
              have f4 := hB9.frozen 4
              clear hB9
              go_wp2_with fail
              have hb1 := HB9.out.set_ 0 (.int .i64 k)
              have hb2 := hb1.set_ 1 (.int .i64 0)
              have hb3 := hb2.set_ 2 (.int .i64 p3)
              have hb4 := hb3.set_ 3 (.int .i64 tv)
              have hb5 := hb4.set_ 4 (.slice B l.length c)
              have hr1 := HR9.out.other HB9.out (by decide) (by decide) (by decide) 0 (.int .i64 k)
              have hr2 := hr1.other hb1 (by decide) (by decide) (by decide) 1 (.int .i64 0)
              have hr3 := hr2.other hb2 (by decide) (by decide) (by decide) 2 (.int .i64 p3)
              have hr4 := hr3.other hb3 (by decide) (by decide) (by decide) 3 (.int .i64 tv)
              have hr5 := hr4.other hb4 (by decide) (by decide) (by decide) 4 (.slice B l.length c)
              have hee := Nat.le_of_eq HEb.out.symm
              have hg5 := ((((HG9.out.new_ (p := ⟨eb, 0, none⟩) hee (.int .i64 k)).new_ (p := ⟨eb, 1, none⟩) hee (.int .i64 0)).new_ (p := ⟨eb, 2, none⟩) hee (.int .i64 p3)).new_ (p := ⟨eb, 3, none⟩) hee (.int .i64 tv)).new_ (p := ⟨eb, 4, none⟩) hee (.slice B l.length c)
              have hno : some eb ≠ (Value.slice B l.length c).ownBlock := OwnO.ne HO9.out HB9.out (by decide)
              have ho5 := ((((HO9.out.set_ (p := ⟨eb, 0, none⟩) (fun e => hno e.symm) (.int .i64 k)).set_ (p := ⟨eb, 1, none⟩) (fun e => hno e.symm) (.int .i64 0)).set_ (p := ⟨eb, 2, none⟩) (fun e => hno e.symm) (.int .i64 p3)).set_ (p := ⟨eb, 3, none⟩) (fun e => hno e.symm) (.int .i64 tv)).set_ (p := ⟨eb, 4, none⟩) (fun e => hno e.symm) (.slice B l.length c)
              exact bodyPost_ret (results_evt rfl rfl rfl rfl hb5) rfl ⟨B, c, by rw [HFin.out]; rfl, by rw [HFin.out]; exact ho5, by rw [HFin.out]; exact hr5, hg5⟩
            | true =>
              rw [hm] at HMs
              have hm2 : s.e = 0 ∧ s.at_ < ws.length := by
                unfold moreF at hm
                simpa using hm
              have hAd := asg_adv ws cs en s hm2.1 hm2.2
              have hAp := asg_pos ws cs en s
              have hAl := HAl.out s
              have hgk := HD.out.2.2 hm2.1
              obtain ⟨n, rfl⟩ : ∃ n, gk = n + 1 := ⟨gk - 1, by omega⟩
              have hD1 := HD.out.1
              rw [evD_succ ws cs en vars n s l hm] at hD1
              have hlg := HD.out.2.1
              have HAss := Lib.hid (fun w' (hx : Ex wr w') => HAs.out s w' (HG.out.ex hx) (HR.out.ex hx))
              generalize asgF ws cs en s = M at *
              obtain ⟨nm, v, s2⟩ := M
              dsimp only at *
              have HLk := Lib.hid (fun w' (hM : IdxM w' mb vars.length vars 0) => hM.look (bs nm) (by show nm.length ≤ _; unfold maxLen; omega))
              clear hm HD
              by_cases he : s2.e = 0
              · rw [if_pos he] at hD1
                have hAd' := hAd he
                have hAp' := hAp he
                have HAt : Hid (ws.length ≤ n + s2.at_) := Lib.hid (by omega)
                have HAp := Lib.hid hAp'
                have HLg : Hid (l.length + 1 + n ≤ ws.length) := Lib.hid (by omega)
                clear hAd hAp hAd' hAp' hgk hm2 hAl hlg
                go_wp2_with fail
                refine (HMs.out).mono ?_
                rintro e9 w9 ⟨rfl, hx⟩
                have HX9 := Lib.hid hx
                clear hx
                go_wp2_with fail
                refine (HAss.out _ HX9.out).mono ?_
                rintro e9 w10 ⟨rfl, h1, h2⟩
                have HR10 := Lib.hid h1
                have HG10 := Lib.hid ((HG.out.ex HX9.out).trans h2)
                have HB10 := Lib.hid (h2.blk (HB.out.ex HX9.out) (fun e => hge e.symm))
                have hrb : ∃ cs9, Blk w9 g 95 cs9 := by
                  obtain ⟨_, _, _, _, _, _, _, _, hb3, _⟩ := HR.out.ex HX9.out
                  exact ⟨_, hb3⟩
                obtain ⟨cs9, hb9⟩ := hrb
                have HO10 := Lib.hid ((HO.out.ex HX9.out).kept h2.grown (.inr fun e => OwnO.ne (HO.out.ex HX9.out) hb9 (by decide) e.symm))
                have HM10 := Lib.hid ((HM.out.ex HX9.out).kept h2.grown (fun e => hb9.noIdx (HM.out.ex HX9.out) (by injection e with e; exact e.symm)))
                have c4 := h1.cell4
                rw [he] at c4
                have lg := h1.lt
                have hlk := HLk.out _ HM10.out
                clear h1 h2 hb9 HLk HAss HB HO HR HM HG HX9 HMs
                cases hvi : vIdx (bs nm) vars with
                | some i =>
                  rw [hvi] at hD1 hlk
                  dsimp only at hD1
                  simp only [Option.getD_some, Option.isSome_some] at hlk
                  have HDn := Lib.hid hD1
                  have x4 := HB10.out.cell 4
                  have xl := HB10.out.lt
                  have HBs := Lib.hid (((HG10.out).alloc (.cells #[.int .i64 (i : Int), .int .i64 v] 102)).size)
                  have HF2 := Lib.hid he
                  clear hD1 hvi he
                  go_wp2_with (at_builtin; refine wpList_append_one _ rfl _ _ 36 rfl w.heap.size 102 i0 _ 2 16 Tryz.underlying36 hi0 hz0 hz1 hz2 rfl (.slice B l.length c) l.length (asgV l) rfl (OwnO.ex HO10.out ((Ex.refl _).alloc _)) _ [.int .i64 (i : Int), .int .i64 v] rfl rfl ?c1 ?c2 ?c3 ?c4 ?c5 ?_)
                  try case c1 => exact news_new rfl (by simp)
                  try case c2 => first | exact one_ints (by simp) | (intro u hu; simp only [List.mem_cons, List.not_mem_nil, or_false] at hu; rcases hu with rfl | rfl <;> rfl) | (simp [Value.oneCell']; done)
                  try case c3 => omega
                  try case c4 => omega
                  try case c5 => first | (have hh := HBs.out; omega) | (have hh := HBs.out; simp at hh ⊢; omega)
                  intro B' c' w12 ho hg hat hEx
                  rw [asgV_snoc] at ho
                  have hxa : Ex w10 (w10.alloc (.cells #[.int .i64 (i : Int), .int .i64 v] 102)) := (Ex.refl _).alloc _
                  have hOa := HO10.out.ex hxa
                  have hBa := HB10.out.ex hxa
                  have hMa := HM10.out.ex hxa
                  have hRa := HR10.out.ex hxa
                  have hGa := HG10.out.ex hxa
                  have hb12 := hBa.grown hg (OwnO.ne hOa hBa (by decide))
                  have hm12 := hMa.kept hg (OwnO.noIdx hOa hMa)
                  have hr12 := hRa.grown hg (by
                    obtain ⟨_, _, _, _, _, _, _, _, hb3, _⟩ := hRa
                    exact OwnO.ne hOa hb3 (by decide)) (OwnO.typed hOa (by decide) (by decide))
                  have hg12 := hGa.by_ hg (fun x e => .inl (OwnO.lt hOa x e).1)
                  have hll' : (l ++ [(((i : Int) : Int), v)]).length = l.length + 1 := by simp
                  have HL' := Lib.hid hll'
                  rw [← hll'] at ho hat ⊢
                  clear hll'
                  have z4 := hb12.cell 4
                  have zl := hb12.lt
                  have zf := hb12.frozen 4
                  have hno : some eb ≠ (Value.slice B' (l ++ [(((i : Int) : Int), v)]).length c').ownBlock := OwnO.ne ho hb12 (by decide)
                  have HB13 := Lib.hid (hb12.set_ 4 (.slice B' (l ++ [(((i : Int) : Int), v)]).length c'))
                  have HO13 := Lib.hid (ho.set_ (p := ⟨eb, 4, none⟩) (fun e => hno e.symm) (.slice B' (l ++ [(((i : Int) : Int), v)]).length c'))
                  have HR13 := Lib.hid (hr12.other hb12 (by decide) (by decide) (by decide) 4 (.slice B' (l ++ [(((i : Int) : Int), v)]).length c'))
                  have HM13 := Lib.hid (hm12.kept (Exg.grown (Exg.owno eb w12 4 (.slice B' (l ++ [(((i : Int) : Int), v)]).length c'))) (fun e => hb12.noIdx hm12 (by injection e with e; exact e.symm)))
                  have HG13 := Lib.hid (hg12.new_ (p := ⟨eb, 4, none⟩) (Nat.le_of_eq HEb.out.symm) (.slice B' (l ++ [(((i : Int) : Int), v)]).length c'))
                  have HLen : Hid ((l ++ [(((i : Int) : Int), v)]).length ≤ 100000) := by show _ ≤ _; rw [HL'.out]; have := HLg.out; omega
                  have HLg' : Hid ((l ++ [(((i : Int) : Int), v)]).length + n ≤ ws.length) := by show _ ≤ _; rw [HL'.out]; exact HLg.out
                  clear ho hg hat hEx hxa hOa hBa hMa hRa hGa hb12 hm12 hr12 hg12 hno x4 xl hlk c4 lg
                  generalize l ++ [(((i : Int) : Int), v)] = l2 at *
                  go_wp2_with fail
                  go_roundg n
                  case measure => omega
                  case rel => exact ⟨s2, l2, B', c', HLen.out, Lib.hid ⟨HDn.out, HLg'.out, fun h0 => by first | exact HAt.out | exact absurd h0 HF2.out⟩, Lib.hid ⟨HB13.out, HO13.out, HR13.out, HM13.out, HG13.out⟩⟩
                | none =>
                  rw [hvi] at hD1 hlk
                  dsimp only at hD1
                  simp only [Option.getD_none, Option.isSome_none] at hlk
                  have HDn := Lib.hid hD1
                  have HFs := Lib.hid (HFl.out 13 s2 w10 HR10.out (fun _ => HAp.out))
                  have HF2 : Hid (¬ (failF cs 13 s2).e = 0) := by unfold failF; rw [if_pos he]; exact Lib.hid (by simp)
                  clear hD1 hvi he
                  generalize failF cs 13 s2 = s3 at *
                  go_wp2_with fail
                  refine (HFs.out).mono ?_
                  rintro e9 w11 ⟨rfl, h1, h2⟩
                  have hrb : ∃ cs9, Blk w10 g 95 cs9 := by
                    obtain ⟨_, _, _, _, _, _, _, _, hb3, _⟩ := HR10.out
                    exact ⟨_, hb3⟩
                  obtain ⟨cs9, hb9⟩ := hrb
                  have HR11 := Lib.hid h1
                  have HG11 := Lib.hid (HG10.out.trans h2)
                  have HB11 := Lib.hid (h2.blk HB10.out (fun e => hge e.symm))
                  have HO11 := Lib.hid (HO10.out.kept h2.grown (.inr fun e => OwnO.ne HO10.out hb9 (by decide) e.symm))
                  have HM11 := Lib.hid (HM10.out.kept h2.grown (fun e => hb9.noIdx HM10.out (by injection e with e; exact e.symm)))
                  have x4 := HB11.out.cell 4
                  have xl := HB11.out.lt
                  have HBs := Lib.hid (((HG11.out).alloc (.cells #[.int .i64 0, .int .i64 v] 102)).size)
                  clear h1 h2 hb9 c4 lg hlk HFs HR10 HG10 HB10 HO10 HM10
                  have hlk := True.intro
                  have c4 := True.intro
                  have lg := True.intro
                  go_wp2_with (at_builtin; refine wpList_append_one _ rfl _ _ 36 rfl w.heap.size 102 i0 _ 2 16 Tryz.underlying36 hi0 hz0 hz1 hz2 rfl (.slice B l.length c) l.length (asgV l) rfl (OwnO.ex HO11.out ((Ex.refl _).alloc _)) _ [.int .i64 0, .int .i64 v] rfl rfl ?d1 ?d2 ?d3 ?d4 ?d5 ?_)
                  try case d1 => exact news_new rfl (by simp)
                  try case d2 => first | exact one_ints (by simp) | (intro u hu; simp only [List.mem_cons, List.not_mem_nil, or_false] at hu; rcases hu with rfl | rfl <;> rfl) | (simp [Value.oneCell']; done)
                  try case d3 => omega
                  try case d4 => omega
                  try case d5 => first | (have hh := HBs.out; omega) | (have hh := HBs.out; simp at hh ⊢; omega)
                  intro B' c' w12 ho hg hat hEx
                  rw [asgV_snoc] at ho
                  have hxa : Ex w11 (w11.alloc (.cells #[.int .i64 0, .int .i64 v] 102)) := (Ex.refl _).alloc _
                  have hOa := HO11.out.ex hxa
                  have hBa := HB11.out.ex hxa
                  have hMa := HM11.out.ex hxa
                  have hRa := HR11.out.ex hxa
                  have hGa := HG11.out.ex hxa
                  have hb12 := hBa.grown hg (OwnO.ne hOa hBa (by decide))
                  have hm12 := hMa.kept hg (OwnO.noIdx hOa hMa)
                  have hr12 := hRa.grown hg (by
                    obtain ⟨_, _, _, _, _, _, _, _, hb3, _⟩ := hRa
                    exact OwnO.ne hOa hb3 (by decide)) (OwnO.typed hOa (by decide) (by decide))
                  have hg12 := hGa.by_ hg (fun x e => .inl (OwnO.lt hOa x e).1)
                  have hll' : (l ++ [((0 : Int), v)]).length = l.length + 1 := by simp
                  have HL' := Lib.hid hll'
                  rw [← hll'] at ho hat ⊢
                  clear hll'
                  have z4 := hb12.cell 4
                  have zl := hb12.lt
                  have zf := hb12.frozen 4
                  have hno : some eb ≠ (Value.slice B' (l ++ [((0 : Int), v)]).length c').ownBlock := OwnO.ne ho hb12 (by decide)
                  have HB13 := Lib.hid (hb12.set_ 4 (.slice B' (l ++ [((0 : Int), v)]).length c'))
                  have HO13 := Lib.hid (ho.set_ (p := ⟨eb, 4, none⟩) (fun e => hno e.symm) (.slice B' (l ++ [((0 : Int), v)]).length c'))
                  have HR13 := Lib.hid (hr12.other hb12 (by decide) (by decide) (by decide) 4 (.slice B' (l ++ [((0 : Int), v)]).length c'))
                  have HM13 := Lib.hid (hm12.kept (Exg.grown (Exg.owno eb w12 4 (.slice B' (l ++ [((0 : Int), v)]).length c'))) (fun e => hb12.noIdx hm12 (by injection e with e; exact e.symm)))
                  have HG13 := Lib.hid (hg12.new_ (p := ⟨eb, 4, none⟩) (Nat.le_of_eq HEb.out.symm) (.slice B' (l ++ [((0 : Int), v)]).length c'))
                  have HLen : Hid ((l ++ [((0 : Int), v)]).length ≤ 100000) := by show _ ≤ _; rw [HL'.out]; have := HLg.out; omega
                  have HLg' : Hid ((l ++ [((0 : Int), v)]).length + n ≤ ws.length) := by show _ ≤ _; rw [HL'.out]; exact HLg.out
                  clear ho hg hat hEx hxa hOa hBa hMa hRa hGa hb12 hm12 hr12 hg12 hno x4 xl hlk c4 lg
                  generalize l ++ [((0 : Int), v)] = l2 at *
                  go_wp2_with fail
                  go_roundg n
                  case measure => omega
                  case rel => exact ⟨s3, l2, B', c', HLen.out, Lib.hid ⟨HDn.out, HLg'.out, fun h0 => by first | exact HAt.out | exact absurd h0 HF2.out⟩, Lib.hid ⟨HB13.out, HO13.out, HR13.out, HM13.out, HG13.out⟩⟩
              · rw [if_neg he] at hD1
                have HFin : Hid (F = ⟨k, p1, p2, p3, tv, l, s2⟩) := by rw [HFq.out, ← hD1]; exact Lib.hid rfl
                have be : (s2.e != 0) = true := by rw [bne_iff_ne]; exact he
                have be2 : (s2.e == 0) = false := beq_eq_false_iff_ne.2 he
                clear hAd hAp hgk hm2 hAl hlg hD1 HLk he HFq
                go_wp2_with fail
                refine (HMs.out).mono ?_
                rintro e9 w9 ⟨rfl, hx⟩
                have HX9 := Lib.hid hx
                clear hx
                go_wp2_with fail
                refine (HAss.out _ HX9.out).mono ?_
                rintro e9 w10 ⟨rfl, h1, h2⟩
                have HR9 := Lib.hid h1
                have HG9 := Lib.hid ((HG.out.ex HX9.out).trans h2)
                have HB9 := Lib.hid (h2.blk (HB.out.ex HX9.out) (fun e => hge e.symm))
                have hrb : ∃ cs9, Blk w9 g 95 cs9 := by
                  obtain ⟨_, _, _, _, _, _, _, _, hb3, _⟩ := HR.out.ex HX9.out
                  exact ⟨_, hb3⟩
                obtain ⟨cs9, hb9⟩ := hrb
                have HO9 := Lib.hid ((HO.out.ex HX9.out).kept h2.grown (.inr fun e => OwnO.ne (HO.out.ex HX9.out) hb9 (by decide) e.symm))
                have c4 := h1.cell4
                have lg := h1.lt
                clear h1 h2 hb9 HAss HB HO HR HM HG HX9 HMs
                have hB9 := HB9.out
                have x0 := hB9.cell 0
                have x1 := hB9.cell 1
                have x2 := hB9.cell 2
                have x3 := hB9.cell 3
                have x4 := hB9.cell 4
                have xl := hB9.lt
                have f0 := hB9.frozen 0
                have f1 := hB9.frozen 1
                have f2 := hB9.frozen 2
                have f3 := hB9.frozen 3
                have f4 := hB9.frozen 4
                clear hB9
                go_wp2_with fail
                have hb1 := HB9.out.set_ 0 (.int .i64 k)
                have hb2 := hb1.set_ 1 (.int .i64 0)
                have hb3 := hb2.set_ 2 (.int .i64 p3)
                have hb4 := hb3.set_ 3 (.int .i64 tv)
                have hb5 := hb4.set_ 4 (.slice B l.length c)
                have hr1 := HR9.out.other HB9.out (by decide) (by decide) (by decide) 0 (.int .i64 k)
                have hr2 := hr1.other hb1 (by decide) (by decide) (by decide) 1 (.int .i64 0)
                have hr3 := hr2.other hb2 (by decide) (by decide) (by decide) 2 (.int .i64 p3)
                have hr4 := hr3.other hb3 (by decide) (by decide) (by decide) 3 (.int .i64 tv)
                have hr5 := hr4.other hb4 (by decide) (by decide) (by decide) 4 (.slice B l.length c)
                have hee := Nat.le_of_eq HEb.out.symm
                have hg5 := ((((HG9.out.new_ (p := ⟨eb, 0, none⟩) hee (.int .i64 k)).new_ (p := ⟨eb, 1, none⟩) hee (.int .i64 0)).new_ (p := ⟨eb, 2, none⟩) hee (.int .i64 p3)).new_ (p := ⟨eb, 3, none⟩) hee (.int .i64 tv)).new_ (p := ⟨eb, 4, none⟩) hee (.slice B l.length c)
                have hno : some eb ≠ (Value.slice B l.length c).ownBlock := OwnO.ne HO9.out HB9.out (by decide)
                have ho5 := ((((HO9.out.set_ (p := ⟨eb, 0, none⟩) (fun e => hno e.symm) (.int .i64 k)).set_ (p := ⟨eb, 1, none⟩) (fun e => hno e.symm) (.int .i64 0)).set_ (p := ⟨eb, 2, none⟩) (fun e => hno e.symm) (.int .i64 p3)).set_ (p := ⟨eb, 3, none⟩) (fun e => hno e.symm) (.int .i64 tv)).set_ (p := ⟨eb, 4, none⟩) (fun e => hno e.symm) (.slice B l.length c)
                exact bodyPost_ret (results_evt rfl rfl rfl rfl hb5) rfl ⟨B, c, by rw [HFin.out]; rfl, by rw [HFin.out]; exact ho5, by rw [HFin.out]; exact hr5, hg5⟩
        · obtain ⟨h1, h2, h3, h4⟩ := HH.out
          obtain ⟨v, hv⟩ : ∃ v, vars[j]? = some v := ⟨_, List.getElem?_eq_getElem (by omega)⟩
          have hvm := hvs v (List.mem_of_getElem? hv)
          obtain ⟨bv, ov, rfl, hbv, r0, -⟩ := (HVr.out _ h4).var hv
          obtain ⟨w7, hup, hM7, hg7⟩ := h1.put (by unfold maxLen; omega) hv (by unfold maxLen; omega) (by omega)
          have HM7 := Lib.hid hM7
          have HB7 := Lib.hid (h2.grown hg7 (fun e => h2.noIdx h1 (by injection e)))
          have HR7 := Lib.hid (h3.grown hg7 (fun e => by
            obtain ⟨es, clock, hmap⟩ := h1.map
            obtain ⟨_, _, _, _, _, _, _, _, hb3, _⟩ := h3
            injection e with e
            rw [← e] at hmap
            unfold Blk at hb3
            rw [hb3] at hmap
            cases hmap) h1.cells)
          have HG7 := Lib.hid (h4.by_ hg7 (fun x e => .inl (by injection e with e; rw [← e]; exact HMb.out)))
          have HSz : Hid (vars.length - j = vars.length - (j + 1) + 1) := by show vars.length - j = _; omega
          have m0 : (0 : Int) ≤ (j : Int) := by omega
          have m1 : (j : Int) < (vars.length : Int) := by omega
          have qj : IntKind.i64.wrap ((j : Int) - 1) = (j : Int) - 1 := IntWalk.i64_in _ (by omega)
          clear h1 h2 h3 h4 hM7 hg7 hv HH
          go_wp2_with fail
          have HM8 : Hid (IdxM w7 mb (vars.length - j) vars j) := by rw [HSz.out]; exact HM7
          cases j with
          | zero => exact ⟨⟨0, .inl ⟨rfl, rfl⟩, Nat.zero_le _, Lib.hid ⟨HM8.out, HB7.out, HR7.out, HG7.out⟩⟩, by simp [intOf]⟩
          | succ j => exact ⟨⟨j + 1, .inr ⟨j, by congr 1; omega, rfl⟩, by omega, Lib.hid ⟨HM8.out, HB7.out, HR7.out, HG7.out⟩⟩, by simp [intOf]; omega⟩
end Go.Proofs.YtpmponafjhnegaaGreatDoor
