/-
  The law's example: plain facts. The law's example, walked.
  Conditions: as each theorem says.
-/
import Derived.Test.YtpmponafjhnegaaGreatDoorWc
import Derived.Test.YtpmponafjhnegaaGreatDoorMk
namespace Go.Proofs.YtpmponafjhnegaaGreatDoor
section
open Nu
def awE : Ev := ⟨2, 1, 5, 3, [(0, -1)]⟩
def awA : Pr := ⟨⟨#[97]⟩, [(⟨#[120]⟩, 0)], [awE]⟩
def awB : Pr := ⟨⟨#[98]⟩, [], []⟩
def awT : List Pr := [awA, awB]
def awS : List UInt8 := [112, 114, 111, 99, 101, 115, 115, 32, 97, 32, 120, 61, 48, 10, 32, 32, 115, 101, 110, 100, 32, 98, 32, 53, 32, 64, 51, 32, 120, 61, 45, 49, 10, 112, 114, 111, 99, 101, 115, 115, 32, 98, 10]
theorem aw_nm : nameB ⟨#[97]⟩ = true ∧ nameB ⟨#[98]⟩ = true ∧ nameB ⟨#[120]⟩ = true := by decide
theorem aw_in {x : Nat × Nat} (h : InT awT x) : x = (0, 1) := by
  obtain ⟨a, b⟩ := x
  obtain ⟨h1, h2⟩ := h
  dsimp only at h1 h2
  match a, h2 with
  | 0, h2 =>
    have : evN awT 0 = 1 := rfl
    rw [this] at h2
    have : b = 1 := by omega
    rw [this]
  | 1, h2 =>
    have : evN awT 1 = 0 := rfl
    omega
  | a + 2, h2 =>
    have : evN awT (a + 2) = 0 := rfl
    omega
theorem aw_ev : evAt awT 0 0 = some awE := rfl
theorem aw_dir {x y : Nat × Nat} (h : Dir awT x y) : False := by
  obtain ⟨h1, h2, h3⟩ := h
  have e1 := aw_in h1
  have e2 := aw_in h2
  subst e1 e2
  rcases h3 with ⟨g1, g2⟩ | ⟨e, f, g1, g2, g3, g4, g5⟩
  · simp at g2
  · simp only [Nat.sub_self, aw_ev, Option.some.injEq] at g1 g2
    subst g1 g2
    simp [awE] at g4
theorem aw_acyclic (x : Nat × Nat) : ¬ OnC awT x := fun h => by
  have : ∀ x y, Hap awT x y → False := fun x y h => by
    induction h with
    | single h => exact aw_dir h
    | tail _ h _ => exact aw_dir h
  exact this x x h
theorem aw_head (q : Nat) (hq : q < awT.length) : headE awT q = 0 := by
  have h0 : firstN (varE []) 0 = 0 := firstN_none fun j h => absurd h (Nat.not_lt_zero _)
  have h1 : firstN (varE [(⟨#[120]⟩, 0)]) 1 = 0 := firstN_none fun j h => by
    obtain rfl : j = 0 := by omega
    decide
  have hn := aw_nm
  match q, hq with
  | 0, _ => simp [headE, awT, awA, awB, hn.1, h1]
  | 1, _ => simp [headE, awT, awA, awB, hn.2.1, h0]
theorem aw_form (x : Nat × Nat) (hx : InT awT x) : formE awT x = 0 := by
  have h0 : firstN (asgE 1 [(0, -1)]) 1 = 0 := firstN_none fun j h => by
    obtain rfl : j = 0 := by omega
    decide
  have e := aw_in hx
  subst e
  simp [formE, awT, awA, awB, awE, evE, frmB, lastT, h0]
theorem aw_pair (x : Nat × Nat) (hx : InT awT x) : pairE awT x = 0 := by
  have e := aw_in hx
  subst e
  unfold pairE
  simp only [Nat.sub_self, aw_ev]
  rw [if_neg (by decide), if_neg, if_neg (by simp [awE])]
  rintro ⟨y, h1, h2, -⟩
  have e := aw_in h1
  subst e
  exact bef_irr _ h2
theorem aw_fault : faultO awT = ((0, 0), 0) := fault_none (by decide) aw_head aw_form aw_pair aw_acyclic
theorem aw_itoa : Lib.itoa 0 = [48] ∧ Lib.itoa 5 = [53] ∧ Lib.itoa 3 = [51] ∧ Lib.itoa (-1) = [45, 49] ∧ Lib.itoa 1 = [49] := by
  have h1 := (itoa_par [48] (by decide)).1
  have h2 := (itoa_par [53] (by decide)).1
  have h3 := (itoa_par [51] (by decide)).1
  have h4 := (itoa_par [45, 49] (by decide)).1
  have h5 := (itoa_par [49] (by decide)).1
  have g1 : parV [48] = 0 := by decide
  have g2 : parV [53] = 5 := by decide
  have g3 : parV [51] = 3 := by decide
  have g4 : parV [45, 49] = -1 := by decide
  have g5 : parV [49] = 1 := by decide
  rw [g1] at h1
  rw [g2] at h2
  rw [g3] at h3
  rw [g4] at h4
  rw [g5] at h5
  exact ⟨h1, h2, h3, h4, h5⟩
theorem aw_text : wTr awT = awS := by
  obtain ⟨h1, h2, h3, h4, -⟩ := aw_itoa
  simp [wTr, awT, awA, awB, awE, wPr, wVars, wAsg, wEvs, wEv, wHead, nmOf, wAsgs, h1, h2, h3, h4, wProcess, wSend, awS]
theorem aw_parse : parseT awS = .ok awT := by
  rw [← aw_text]
  exact parse_w (by rw [aw_fault]) (by rw [aw_text]; decide)
theorem aw_small : TSm awT := by
  refine ⟨by decide, by decide, fun x hx => ?_⟩
  simp only [awT, List.mem_cons, List.not_mem_nil, or_false] at hx
  rcases hx with rfl | rfl
  · refine ⟨by decide, by decide, by decide, ?_, ?_⟩
    · intro v hv
      simp only [awA, List.mem_cons, List.not_mem_nil, or_false] at hv
      subst hv
      decide
    · intro e he
      simp only [awA, List.mem_cons, List.not_mem_nil, or_false] at he
      subst he
      decide
  · exact ⟨by decide, by decide, by decide, fun v hv => absurd hv List.not_mem_nil, fun e he => absurd he List.not_mem_nil⟩
theorem aw_valid : validB awT = true := by
  unfold validB
  rw [aw_fault]
  rfl
theorem aw_textV : textV awT = .tuple #[.string (bs awS), .int .i64 0] := by
  unfold textV
  rw [if_pos aw_valid, aw_text, if_neg (by decide)]
theorem aw_name : nameV awT 0 1 = .tuple #[.string (bs [97, 46, 49]), .int .i64 0] := by
  have h1 : checkE awT 0 1 = 0 := by
    unfold checkE
    rw [if_pos aw_valid, if_pos (by decide)]
  have h2 : nameS awT 0 1 = [97, 46, 49] := by
    unfold nameS nmOf
    rw [aw_itoa.2.2.2.2]
    rfl
  unfold nameV
  rw [if_pos h1, h2]
end
section
open Go.RowKit Nu
theorem poGuard : Tryz.prog.eqGuardType Tryz.prog.depth 48 = false := by kernel_rfl
theorem poHeld : Tryz.prog.stoodInHeld 48 = false := by kernel_rfl
theorem poStruct : Tryz.prog.underlying 48 = some (.struct (Tryz.prog.fieldsOf 48)) := by kernel_rfl
theorem eq_po (a b c d : Int) (w : World) : (Op.equalIn 10000 48 (.agg #[.int .i64 a, .int .i64 b]) (.agg #[.int .i64 c, .int .i64 d])).run Tryz.prog w = .ok (a == c && b == d) w := by
  rw [run_equalIn_struct _ _ _ _ _ poStruct poHeld]
  simp only [Program.fieldsOf, Tryz.underlying48]
  by_cases h1 : a = c <;> by_cases h2 : b = d <;> simp [Op.eqFields, go_sem, h1, h2]
theorem neq_po (a b c d : Int) (w : World) : (binOp .neq 48 (.agg #[.int .i64 a, .int .i64 b]) (.agg #[.int .i64 c, .int .i64 d])).run Tryz.prog w = .ok (.bool (!(a == c && b == d))) w := by
  rw [run_neq_struct, eq_po]
  rfl
theorem eql_po (a b c d : Int) (w : World) : (binOp .eql 48 (.agg #[.int .i64 a, .int .i64 b]) (.agg #[.int .i64 c, .int .i64 d])).run Tryz.prog w = .ok (.bool (a == c && b == d)) w := by
  rw [run_eql_struct, eq_po]
  rfl
attribute [go_sem] poGuard neq_po eql_po
set_option maxRecDepth 100000 in
set_option maxHeartbeats 3200000 in
theorem awake_c (w : World) (hE : Env w) : Calls Tryz.prog 10 #[] w (Ret w (.bool true)) := by
  have HE : Hid (∀ w', Ex w w' → Env w') := fun w' h => hE.ex h
  have HP : Hid (Calls Tryz.prog 20 #[.string ⟨#[112, 114, 111, 99, 101, 115, 115, 32, 97, 32, 120, 61, 48, 10, 32, 32, 115, 101, 110, 100, 32, 98, 32, 53, 32, 64, 51, 32, 120, 61, 45, 49, 10, 112, 114, 111, 99, 101, 115, 115, 32, 98, 10]⟩] w (ParseR awS w)) := parse_c awS w hE (by decide)
  have hv : textV awT = .tuple #[.string ⟨#[112, 114, 111, 99, 101, 115, 115, 32, 97, 32, 120, 61, 48, 10, 32, 32, 115, 101, 110, 100, 32, 98, 32, 53, 32, 64, 51, 32, 120, 61, 45, 49, 10, 112, 114, 111, 99, 101, 115, 115, 32, 98, 10]⟩, .int .i64 0] := aw_textV
  have hn : nameV awT 0 1 = .tuple #[.string ⟨#[97, 46, 49]⟩, .int .i64 0] := aw_name
  have HTx : Hid (∀ A c w', Ex w w' → TcC w' A awT → 2 ≤ c → Calls Tryz.prog 13 #[.agg #[.slice A 2 c]] w' (Ret w' (.tuple #[.string ⟨#[112, 114, 111, 99, 101, 115, 115, 32, 97, 32, 120, 61, 48, 10, 32, 32, 115, 101, 110, 100, 32, 98, 32, 53, 32, 64, 51, 32, 120, 61, 45, 49, 10, 112, 114, 111, 99, 101, 115, 115, 32, 98, 10]⟩, .int .i64 0]))) := fun A c w' hx hT hc => by
    have h := text_c awT A c w' (hE.ex hx) hT aw_small hc
    rw [hv] at h
    exact h
  have HNm : Hid (∀ A c w', Ex w w' → TcC w' A awT → 2 ≤ c → Calls Tryz.prog 16 #[.agg #[.slice A 2 c], .agg #[.int .i64 0, .int .i64 1]] w' (Ret w' (.tuple #[.string ⟨#[97, 46, 49]⟩, .int .i64 0]))) := fun A c w' hx hT hc => by
    have h := name2_c awT A c 0 1 w' (hE.ex hx) hT aw_small hc
    rw [hn] at h
    exact h
  clear hv hn hE
  go_enter Tryz.func10, Tryz.ntmps10
  go_wp2_with fail
  refine (HP.out).mono ?_
  rintro e9 w1 ⟨hx1, hm⟩
  rw [aw_parse] at hm
  obtain ⟨A, c, rfl, hT, hc⟩ := hm
  have hc2 : 2 ≤ c := hc
  have hl : awT.length = 2 := rfl
  rw [hl]
  have hB2 := (Blk.new w1 24 [.slice A 2 c]).alloc (.cells #[.int .i64 0, .int .i64 0] 48)
  have hz : (w1.alloc (.cells #[.slice A 2 c] 24)).heap.size = w1.heap.size + 1 := Array.size_push _
  have hB3 := Blk.new (w1.alloc (.cells #[.slice A 2 c] 24)) 48 [.int .i64 0, .int .i64 0]
  rw [hz] at hB3
  have hX2 : Ex w1 ((w1.alloc (.cells #[.slice A 2 c] 24)).alloc (.cells #[.int .i64 0, .int .i64 0] 48)) := ((Ex.refl w1).alloc _).alloc _
  have HX1 := Lib.hid hx1
  have HT := Lib.hid hT
  have HB2 := Lib.hid hB2
  have HB3 := Lib.hid hB3
  have HX2 := Lib.hid hX2
  clear hx1 hT hB2 hB3 hX2 hz hc
  go_upto_region 2 with fail
  generalize (w1.alloc (.cells #[.slice A 2 c] 24)).alloc (.cells #[.int .i64 0, .int .i64 0] 48) = W2 at *
  have x0 := HB2.out.cell 0
  have xl := HB2.out.lt
  have y0 := HB3.out.cell 0
  have y1 := HB3.out.cell 1
  have yl := HB3.out.lt
  go_wp2_with fail
  refine (HTx.out A c _ (HX1.out.trans HX2.out) (HT.out.ex HX2.out) hc2).mono ?_
  rintro e9 w3 ⟨rfl, hx⟩
  have HX3 := Lib.hid hx
  clear hx x0 xl y0 y1 yl
  have x0 := (HB2.out.ex HX3.out).cell 0
  have xl := (HB2.out.ex HX3.out).lt
  go_wp2_with fail
  refine (HNm.out A c _ ((HX1.out.trans HX2.out).trans HX3.out) (HT.out.ex (HX2.out.trans HX3.out)) hc2).mono ?_
  rintro e9 w4 ⟨rfl, hx⟩
  have HX4 := Lib.hid (HX3.out.trans hx)
  clear hx x0 xl
  have x0 := (HB2.out.ex HX4.out).cell 0
  have xl := (HB2.out.ex HX4.out).lt
  have y0 := (HB3.out.ex HX4.out).cell 0
  have y1 := (HB3.out.ex HX4.out).cell 1
  have yl := (HB3.out.ex HX4.out).lt
  go_wp2_with fail
  go_ret
  exact Ret.mk rfl (HX1.out.trans (HX2.out.trans HX4.out))
end
end Go.Proofs.YtpmponafjhnegaaGreatDoor
