/-
  What is received and not sent in a cut: the program's missing.
  Conditions: as each theorem says.
-/
import Derived.Test.YtdenojfbdkdpiaaPb
namespace Go.Proofs.Ytdenojfbdkdpiaa
open Go.RowKit Go.Shelf
theorem cloneI_c (xs : List Int) (A : Option Addr) (c n : Nat) (w : World) (hx : Row w A (intsV xs)) (hn : xs.length = n) (hl : n ≤ 1000000) :
    Calls Try.prog 44 #[.slice A n c] w (fun e w' => ∃ D k, e = .returned (.slice D n k) ∧ OwnO w' w.heap.size 3 1 (.slice D n k) n (intsV xs) ∧ Ex w w') := by
  subst hn
  by_cases h0 : xs = []
  · subst h0
    cases A with
    | none =>
      refine (Try.slices_Clone_int_nil 0 c w).mono ?_
      rintro e w' ⟨rfl, rfl⟩
      exact ⟨none, 0, rfl, OwnO.nil _ _ _ _, Ex.refl _⟩
    | some a =>
      refine (Try.slices_Clone_int_zero a c w).mono ?_
      rintro e w' ⟨v, rfl, h1, -, h2⟩
      obtain ⟨D, k, rfl, -, -⟩ := (OwnO.of h1).len
      exact ⟨D, k, rfl, OwnO.of h1, Ex.of h2⟩
  · obtain ⟨b, o, rfl, hb, hc⟩ := row_at hx h0
    refine (Try.slices_Clone_int b o xs.length c xs w (Nat.le_refl _) (by omega) (contains_int hc)).mono ?_
    rintro e w' ⟨v, rfl, h1, -, h2⟩
    rw [List.take_length] at h1
    have hO : OwnO w' w.heap.size 3 1 v xs.length (intsV xs) := OwnO.of h1
    obtain ⟨D, k, rfl, -, -⟩ := hO.len
    exact ⟨D, k, rfl, hO, Ex.of h2⟩
theorem containsI_c (xs : List Int) (A : Option Addr) (c n : Nat) (x : Int) (w : World) (hx : Row w A (intsV xs)) (hn : xs.length = n) (lx : n ≤ 1000000) :
    Calls Try.prog 45 #[.slice A n c, .int .i64 x] w (Ret w (.bool (decide (x ∈ xs)))) := by
  subst hn
  by_cases h0 : xs = []
  · subst h0
    refine (Try.slices_Contains_int_empty A c x w).mono ?_
    rintro e w' ⟨rfl, rfl⟩
    exact ⟨by simp, Ex.refl _⟩
  · obtain ⟨b, o, rfl, -, hc⟩ := row_at hx h0
    refine (Try.slices_Contains_int b o xs.length c xs x w (Nat.le_refl _) (by omega) (contains_int hc)).mono ?_
    rintro e w' ⟨rfl, rfl⟩
    rw [List.take_length]
    exact ⟨by rw [show xs.contains x = decide (x ∈ xs) by rw [Bool.eq_iff_iff]; simp], Ex.refl _⟩
theorem results_miss {fn : Func} {p q u g h : Nat} {a b a' b' v : Value} {w : World} {tmps : Array Value} (hr : fn.results = #[.cell p 27, .cell q 27, .tmp u]) (hp : tmps.getD p undef = .pointer (some ⟨g, 0, none⟩)) (hq : tmps.getD q undef = .pointer (some ⟨h, 0, none⟩)) (hu : tmps.getD u undef = v) (hB : Blk w g 27 [a, b]) (hC : Blk w h 27 [a', b']) :
    (results fn tmps).run Try.prog w = .ok (.tuple #[.agg #[a, b], .agg #[a', b'], v]) w := by
  have h0 : w.cell? ⟨g, 0, none⟩ = some a := hB.cell 0
  have h1 : w.cell? ⟨g, 1, none⟩ = some b := hB.cell 1
  have h2 : w.cell? ⟨h, 0, none⟩ = some a' := hC.cell 0
  have h3 : w.cell? ⟨h, 1, none⟩ = some b' := hC.cell 1
  rw [Array.getD_eq_getD_getElem?] at hp hq hu
  simp [results, hr, hp, hq, hu, go_sem, h0, h1, h2, h3]
/-- what missing hands back -/
def MissR (t : List Pr) (cs : List Int) (w : World) (e : Ending) (w' : World) : Prop :=
  Ex w w' ∧ ((Closed (msgs t) cs ∧ e = .returned (.tuple #[.agg #[.int .i64 0, .int .i64 0], .agg #[.int .i64 0, .int .i64 0], .bool false])) ∨
    ∃ (m : Msg) (a : Int), m ∈ msgs t ∧ cs[m.2.1]? = some a ∧ (m.2.2 : Int) ≤ a ∧ 1 ≤ m.2.2 ∧ ¬ Closed (msgs t) cs ∧ e = .returned (.tuple #[idV m.1, idV m.2, .bool true]))
set_option maxRecDepth 20000 in
set_option maxHeartbeats 3200000 in
theorem miss_c (t : List Pr) (A : Option Addr) (c : Nat) (cs : List Int) (C : Option Addr) (cc L : Nat) (w : World) (hT : TcC w A t) (hs : TSm t) (hcap : t.length ≤ c) (hv : validB t = true) (hl : cs.length = t.length) (hL : cs.length = L) (hr : rngP t cs) (hC : Row w C (intsV cs)) :
    Calls Try.prog 100 #[.agg #[.slice A t.length c], .slice C L cc] w (MissR t cs w) := by
  subst hL
  have hP : Paired t := paired_of (fault_zero (of_decide_eq_true hv)).2.2.2.1
  have htl := hs.procs
  have HEn : Hid (∀ q, evN t q ≤ 100000) := fun q => evN_le hs q
  have HRg := Lib.hid hr
  have HT : Hid (∀ w', Ex w w' → TcC w' A t) := fun w' h => hT.ex h
  have HC : Hid (∀ w', Ex w w' → Row w' C (intsV cs)) := fun w' hx => hC.ex hx
  have HSn : Hid (∀ m w', Ex w w' → Calls Try.prog 87 #[.agg #[.slice A t.length c], .int .i64 m] w' (Ret w' (.tuple #[idV (findO t 2 m), .bool (decide (0 < (findO t 2 m).2))]))) := fun m w' h => sender_c t A c m w' (hT.ex h) hs hcap hv
  have HFi : Hid (∀ p i e, evAt t p i = some e → e.kind = 3 → (findO t 2 e.msg).1 < cs.length) := fun p i e he hk => by
    rw [hl]
    exact in_proc (find_sent hP (y := (p, i + 1)) ⟨by simp, evAt_lt he⟩ he hk).1
  have HNo : Hid (∀ p i e a b, evAt t p i = some e → e.kind = 3 → cs[p]? = some a → (i : Int) < a → cs[(findO t 2 e.msg).1]? = some b → b < ((findO t 2 e.msg).2 : Int) → ¬ Closed (msgs t) cs) := fun p i e a b he hk ha hi hb hlt hc => by
    have := hc (findO t 2 e.msg, (p, i + 1)) (msgs_iff.2 ⟨p, i, e, he, hk, rfl⟩) a b ha hb (by dsimp only; omega)
    dsimp only at this
    omega
  have HYes := Lib.hid (@sent_closed t cs)
  have HMs : Hid (∀ p i e, evAt t p i = some e → e.kind = 3 → ((findO t 2 e.msg, (p, i + 1)) : Msg) ∈ msgs t) := fun p i e he hk => msgs_iff.2 ⟨p, i, e, he, hk, rfl⟩
  have hl1 : cs.length ≤ t.length := Nat.le_of_eq hl
  obtain ⟨W0, hW0⟩ : ∃ W0, W0 = ((w.alloc (.cells #[.slice A t.length c] 24)).alloc (.cells #[.int .i64 0, .int .i64 0] 27)).alloc (.cells #[.int .i64 0, .int .i64 0] 27) := ⟨_, rfl⟩
  have HX0 : Hid (Ex w W0) := by rw [hW0]; exact (((Ex.refl w).alloc _).alloc _).alloc _
  have HB0 : Hid (∀ w', Ex W0 w' → Blk w' w.heap.size 24 [.slice A t.length c]) := fun w' hx => by
    have : Blk W0 w.heap.size 24 [.slice A t.length c] := by rw [hW0]; exact ((Blk.new w _ _).alloc _).alloc _
    exact this.ex hx
  have HB1 : Hid (∀ w', Ex W0 w' → Blk w' (w.heap.size + 1) 27 [.int .i64 0, .int .i64 0]) := fun w' hx => by
    have : Blk W0 (w.heap.size + 1) 27 [.int .i64 0, .int .i64 0] := by
      rw [hW0, show w.heap.size + 1 = (w.alloc (.cells #[.slice A t.length c] 24)).heap.size by simp]
      exact (Blk.new _ _ _).alloc _
    exact this.ex hx
  have HB2 : Hid (∀ w', Ex W0 w' → Blk w' (w.heap.size + 1 + 1) 27 [.int .i64 0, .int .i64 0]) := fun w' hx => by
    have : Blk W0 (w.heap.size + 1 + 1) 27 [.int .i64 0, .int .i64 0] := by
      rw [hW0, show w.heap.size + 1 + 1 = ((w.alloc (.cells #[.slice A t.length c] 24)).alloc (.cells #[.int .i64 0, .int .i64 0] 27)).heap.size by simp]
      exact Blk.new _ _ _
    exact this.ex hx
  have HW0 := Lib.hid hW0
  clear hW0 hT hs hC hr hl hP hv hcap
  unfold MissR
  go_enter Try.func100, Try.ntmps100
  go_wp2_with fail
  rw [← HW0.out]
  have hn12 : w.heap.size ≤ w.heap.size + 1 ∧ w.heap.size ≤ w.heap.size + 1 + 1 ∧ w.heap.size + 1 ≠ w.heap.size + 1 + 1 := by omega
  have HN12 := Lib.hid hn12
  clear hn12 HW0
  generalize w.heap.size + 1 + 1 = n2 at *
  generalize w.heap.size + 1 = n1 at *
  have EN : Hid (∀ (X : World) (a b a' b' : Value), Ex W0 X → Blk ((((X.setCell ⟨n1, 0, none⟩ a).setCell ⟨n1, 1, none⟩ b).setCell ⟨n2, 0, none⟩ a').setCell ⟨n2, 1, none⟩ b') n1 27 [a, b] ∧ Blk ((((X.setCell ⟨n1, 0, none⟩ a).setCell ⟨n1, 1, none⟩ b).setCell ⟨n2, 0, none⟩ a').setCell ⟨n2, 1, none⟩ b') n2 27 [a', b'] ∧ Ex w ((((X.setCell ⟨n1, 0, none⟩ a).setCell ⟨n1, 1, none⟩ b).setCell ⟨n2, 0, none⟩ a').setCell ⟨n2, 1, none⟩ b')) := fun X a b a' b' h => by
    obtain ⟨g1, g2, g3⟩ := HN12.out
    refine ⟨(((((HB1.out X h).set_ 0 a).set_ 1 b).far (p := ⟨n2, 0, none⟩) g3 _).far (p := ⟨n2, 1, none⟩) g3 _), (((((HB2.out X h).far (p := ⟨n1, 0, none⟩) g3.symm _).far (p := ⟨n1, 1, none⟩) g3.symm _).set_ 0 a').set_ 1 b'), ?_⟩
    exact ((((HX0.out.trans h).setCell (p := ⟨n1, 0, none⟩) g1 _).setCell (p := ⟨n1, 1, none⟩) g1 _).setCell (p := ⟨n2, 0, none⟩) g2 _).setCell (p := ⟨n2, 1, none⟩) g2 _
  go_loopw [15] (fun q wr => ∃ p : Nat, q = .int .i64 p ∧ p ≤ cs.length ∧ Hid ((∀ (p' i : Nat) (a : Int), p' < p → cs[p']? = some a → (i : Int) < a → sentB t cs p' i = true) ∧ Ex W0 wr)) (fun q _ => cs.length - (intOf q).toNat)
  case atStart => exact ⟨0, rfl, Nat.zero_le _, Lib.hid ⟨fun p' i a h => absurd h (Nat.not_lt_zero _), Ex.refl _⟩⟩
  case round =>
    obtain ⟨p, rfl, hp, HH⟩ := hrel
    by_cases hpl : p < cs.length
    · have m0 : (0 : Int) ≤ (p : Int) := by omega
      have m1 : (p : Int) < (cs.length : Int) := by omega
      have m2 : (p : Int) < (t.length : Int) := by omega
      obtain ⟨a, ha⟩ := get_at hpl
      have har := HRg.out p a ha
      obtain ⟨n, rfl⟩ : ∃ n : Nat, a = (n : Int) := ⟨a.toNat, by omega⟩
      obtain ⟨x, hx⟩ := get_at (show p < t.length by omega)
      have hev := HEn.out p
      rw [evN_at hx] at har hev
      have HAa := Lib.hid ha
      obtain ⟨bc, oc, hCC, hbc, hcs⟩ := row_at (HC.out _ (HX0.out.trans HH.out.2)) (fun h => by rw [h] at hpl; exact absurd hpl (Nat.not_lt_zero _))
      subst hCC
      have d0 := hcs p _ ha
      obtain ⟨b, o, hA, hbl, V, vc, E, ec, k0, k1, k2, ⟨-, -, hec⟩, kE⟩ := HT.out _ (HX0.out.trans HH.out.2) p x hx
      subst hA
      have HXe : Hid (∀ w', Ex wr w' → EvsC w' E x.evs) := fun w' h => kE.ex h
      have x0 := (HB0.out _ HH.out.2).cell 0
      have xl := (HB0.out _ HH.out.2).lt
      have HAt : Hid (∀ j e, x.evs[j]? = some e → evAt t p j = some e) := fun j e he => evAt_at hx he
      have c0 : (0 : Int) ≤ (n : Int) := by omega
      have c1 : (n : Int) ≤ (ec : Int) := by omega
      have hnx : n ≤ x.evs.length := by omega
      clear ha hcs k0 k1 kE hx har
      go_wp2_with fail
      clear d0 hbc hbl k2 x0 xl c0 c1
      go_loopw [29] (fun q w2 => ∃ i : Nat, q = .int .i64 i ∧ i ≤ n ∧ Hid ((∀ i' : Nat, i' < i → sentB t cs p i' = true) ∧ Ex wr w2)) (fun q _ => n - (intOf q).toNat)
      case atStart => exact ⟨0, rfl, Nat.zero_le _, Lib.hid ⟨fun i' h => absurd h (Nat.not_lt_zero _), Ex.refl _⟩⟩
      case round =>
        obtain ⟨i, rfl, hi, HJ⟩ := hrel
        by_cases hil : i < n
        · have q0 : (0 : Int) ≤ (i : Int) := by omega
          have q1 : (i : Int) < (n : Int) := by omega
          obtain ⟨e, he⟩ := get_at (show i < x.evs.length by omega)
          obtain ⟨b2, o2, hE, hb2, B, bc2, e0, e1, e2, e3, e4, -⟩ := HXe.out _ HJ.out.2 i e he
          subst hE
          have HAe := Lib.hid (HAt.out i e he)
          clear he
          by_cases hk : e.kind = 3
          · have s1 : (e.kind != 3) = false := by simp [hk]
            have HMi := Lib.hid (HMs.out p i e HAe.out hk)
            have HFl := Lib.hid (HFi.out p i e HAe.out hk)
            have HNx : Hid (∀ b, cs[(findO t 2 e.msg).1]? = some b → b < ((findO t 2 e.msg).2 : Int) → ¬ Closed (msgs t) cs) := fun b hb hlt => HNo.out p i e _ b HAe.out hk HAa.out (by omega) hb hlt
            have HYx : Hid (∀ b, cs[(findO t 2 e.msg).1]? = some b → ((findO t 2 e.msg).2 : Int) ≤ b → ∀ i' : Nat, i' < i + 1 → sentB t cs p i' = true) := fun b hb hle i' h => by
              by_cases he : i' = i
              · rw [he, sent_at HAe.out hk hb]; exact decide_eq_true hle
              · exact HJ.out.1 i' (by omega)
            have hXe : Ex wr (wr.alloc (.cells #[.int .i64 e.kind, .int .i64 e.peer, .int .i64 e.msg, .int .i64 e.time, .slice B e.asg.length bc2] 61)) := (Ex.refl _).alloc _
            have HX2 := Lib.hid (HH.out.2.trans HJ.out.2)
            have HS1 := Lib.hid (HSn.out e.msg _ (HX0.out.trans (HX2.out.trans hXe)))
            have x0 := (HB0.out _ HX2.out).cell 0
            have xl := (HB0.out _ HX2.out).lt
            have HXe2 := Lib.hid hXe
            have w1' : IntKind.i64.wrap ((i : Int) + 1) = (i : Int) + 1 := IntWalk.i64_in _ (by omega)
            clear hk hXe
            generalize findO t 2 e.msg = F at *
            obtain ⟨F1, F2⟩ := F
            obtain ⟨bv, hbv⟩ := get_at HFl.out
            dsimp only at hbv
            have HBv := Lib.hid hbv
            obtain ⟨bc', oc', hCC, hbc', hcs⟩ := row_at (HC.out _ (HX0.out.trans HX2.out)) (fun h => by rw [h] at hbv; simp at hbv)
            cases hCC
            have d0 := hcs F1 _ hbv
            have r0 : (0 : Int) ≤ (F1 : Int) := by omega
            have r1 : (F1 : Int) < (cs.length : Int) := by have := HFl.out; dsimp only at this; omega
            have HD : Hid (∀ w', Ex wr w' → w'.cell? ⟨bc, oc + F1, none⟩ = some (.int .i64 bv) ∧ bc < w'.heap.size) := fun w' h => ⟨(h.below.cell hbc').trans d0, Nat.lt_of_lt_of_le hbc' h.below.size⟩
            unfold idV at HS1
            clear hcs hbv d0
            go_wp2_with fail
            refine (HS1.out).mono ?_
            rintro e9 w5 ⟨rfl, hx5⟩
            have HX5 := Lib.hid (HXe2.out.trans hx5)
            obtain ⟨d0, d1⟩ := HD.out _ HX5.out
            clear hx5 e0 e1 e2 e3 e4 hb2 hbc' x0 xl
            by_cases hlt : bv < (F2 : Int)
            · have s2 : decide (bv < (F2 : Int)) = true := decide_eq_true hlt
              have HR := Lib.hid (HNx.out bv HBv.out hlt)
              clear hlt
              go_wp2_with fail
              go_quiet (fail)
              have hBs : Blk ((w5.alloc (.cells #[.int .i64 (F1 : Nat), .int .i64 (F2 : Nat)] 27)).drewN nq) w5.heap.size 27 [.int .i64 (F1 : Nat), .int .i64 (F2 : Nat)] := (Blk.new w5 _ _).ex ((Ex.refl _).drewN _)
              have hX3 : Ex wr ((w5.alloc (.cells #[.int .i64 (F1 : Nat), .int .i64 (F2 : Nat)] 27)).drewN nq) := (HX5.out.alloc _).drewN _
              generalize ((w5.alloc (.cells #[.int .i64 (F1 : Nat), .int .i64 (F2 : Nat)] 27)).drewN nq) = W3 at *
              have HX3 := Lib.hid (HX2.out.trans hX3)
              have y0 := hBs.cell 0
              have y1 := hBs.cell 1
              have yl := hBs.lt
              have c0 := (HB1.out _ HX3.out).cell 0
              have c1 := (HB1.out _ HX3.out).cell 1
              have f0 := (HB1.out _ HX3.out).frozen 0
              have f1 := (HB1.out _ HX3.out).frozen 1
              have l1 := (HB1.out _ HX3.out).lt
              have c2 := (HB2.out _ HX3.out).cell 0
              have c3 := (HB2.out _ HX3.out).cell 1
              have f2 := (HB2.out _ HX3.out).frozen 0
              have f3 := (HB2.out _ HX3.out).frozen 1
              have l2 := (HB2.out _ HX3.out).lt
              have ne12 := HN12.out.2.2
              have ne21 := ne12.symm
              clear hBs hX3 d0 d1
              generalize w5.heap.size = b5 at *
              go_wp2_with fail
              obtain ⟨g1, g2, g3⟩ := EN.out _ (.int .i64 (F1 : Nat)) (.int .i64 (F2 : Nat)) (.int .i64 (p : Nat)) (.int .i64 ((i : Int) + 1)) HX3.out
              refine bodyPost_ret (results_miss rfl rfl rfl rfl g1 g2) rfl ?_
              exact ⟨g3, .inr ⟨((F1, F2), (p, i + 1)), (n : Int), HMi.out, HAa.out, by dsimp only; omega, by dsimp only; omega, HR.out, by unfold idV; simp⟩⟩
            · have s2 : decide (bv < (F2 : Int)) = false := decide_eq_false hlt
              have HN := Lib.hid (HYx.out bv HBv.out (Int.not_lt.1 hlt))
              clear hlt
              go_wp2_with fail
              go_quiet (fail)
              go_wp2_with fail
              refine ⟨⟨i + 1, by go_num, by omega, Lib.hid ⟨HN.out, (HJ.out.2.trans (HX5.out.alloc _)).drewN _⟩⟩, by simp [intOf]; omega⟩
          · have s1 : (e.kind != 3) = true := by simp [hk]
            have HN : Hid (∀ i' : Nat, i' < i + 1 → sentB t cs p i' = true) := fun i' h => by
              by_cases he : i' = i
              · rw [he]; exact sent_other HAe.out hk
              · exact HJ.out.1 i' (by omega)
            clear hk
            go_wp2_with fail
            refine ⟨⟨i + 1, by go_num, by omega, Lib.hid ⟨HN.out, HJ.out.2.alloc _⟩⟩, by simp [intOf]; omega⟩
        · obtain rfl : i = n := by omega
          have s1 : decide ((i : Int) < (i : Int)) = false := decide_eq_false (by omega)
          have HN : Hid (∀ (p' i : Nat) (a : Int), p' < p + 1 → cs[p']? = some a → (i : Int) < a → sentB t cs p' i = true) := fun p' i' a' h h' hi' => by
            by_cases he : p' = p
            · subst he
              rw [HAa.out] at h'
              cases h'
              exact HJ.out.1 i' (by omega)
            · exact HH.out.1 p' i' a' (by omega) h' hi'
          go_wp2_with fail
          refine ⟨⟨p + 1, by go_num, by omega, Lib.hid ⟨HN.out, HH.out.2.trans HJ.out.2⟩⟩, by simp [intOf]; omega⟩
    · obtain rfl : p = cs.length := by omega
      have s1 : decide ((cs.length : Int) < (cs.length : Int)) = false := decide_eq_false (by omega)
      have HR := Lib.hid (HYes.out fun p i hp _ a ha hi => HH.out.1 p i a (List.getElem?_eq_some_iff.1 ha).1 ha hi)
      have c0 := (HB1.out _ HH.out.2).cell 0
      have c1 := (HB1.out _ HH.out.2).cell 1
      have f0 := (HB1.out _ HH.out.2).frozen 0
      have f1 := (HB1.out _ HH.out.2).frozen 1
      have l1 := (HB1.out _ HH.out.2).lt
      have c2 := (HB2.out _ HH.out.2).cell 0
      have c3 := (HB2.out _ HH.out.2).cell 1
      have f2 := (HB2.out _ HH.out.2).frozen 0
      have f3 := (HB2.out _ HH.out.2).frozen 1
      have l2 := (HB2.out _ HH.out.2).lt
      have ne12 := HN12.out.2.2
      have ne21 := ne12.symm
      go_wp2_with fail
      obtain ⟨g1, g2, g3⟩ := EN.out _ (.int .i64 0) (.int .i64 0) (.int .i64 0) (.int .i64 0) HH.out.2
      refine bodyPost_ret (results_miss rfl rfl rfl rfl g1 g2) rfl ?_
      exact ⟨g3, .inl ⟨HR.out, rfl⟩⟩
end Go.Proofs.Ytdenojfbdkdpiaa
