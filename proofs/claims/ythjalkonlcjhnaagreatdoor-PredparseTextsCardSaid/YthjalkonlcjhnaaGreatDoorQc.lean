/-
  The parser's steps: next, take, wrong, need, name.
  Conditions: as each theorem says.
-/
import Derived.Test.YthjalkonlcjhnaaGreatDoorQb
namespace Go.Proofs.YthjalkonlcjhnaaGreatDoor
open Go.RowKit
theorem field_k (a b c d : Value) (w : World) : Sem.run Tryz.prog (Instr.field 66 (.agg #[a, b, c, d]) 0) w = .ok a w := by kernel_rfl
theorem field_t (a b c d : Value) (w : World) : Sem.run Tryz.prog (Instr.field 66 (.agg #[a, b, c, d]) 1) w = .ok b w := by kernel_rfl
theorem field_p (a b c d : Value) (w : World) : Sem.run Tryz.prog (Instr.field 66 (.agg #[a, b, c, d]) 2) w = .ok (.agg #[c, d]) w := by kernel_rfl
attribute [go_sem] field_k field_t field_p
set_option maxRecDepth 20000 in
theorem next_c (g b : Nat) (x : Wd) (r : List Wd) (e : Nat) (p : Nat × Nat) (w : World) (h : PSt w g b (x :: r) e p) :
    Calls Tryz.prog 50 #[.pointer (some ⟨g, 0, none⟩)] w (Ret w (wdV x)) := by
  obtain ⟨o, c, hc, hbg, hB, hR⟩ := h
  obtain ⟨a0, a1, a2, a3⟩ := hR.head
  have lb := hR.1
  have lg := hB.lt
  have c0 : w.cell? ⟨g, 0, none⟩ = some (.slice (some ⟨b, o, none⟩) (r.length + 1) c) := hB.cell 0
  unfold wdV
  obtain ⟨k, T, q1, q2⟩ := x
  dsimp only at a0 a1 a2 a3 ⊢
  generalize (⟨T.toArray⟩ : ByteArray) = TB at *
  clear hB hR hc
  go_enter Tryz.func50, Tryz.ntmps50
  go_wp2_with fail
  exact bodyPost_ret (results_word rfl rfl (Blk.new w 66 _)) rfl ⟨rfl, (Ex.refl _).alloc _⟩
theorem bytes_iff (a b : ByteArray) : (a.toList == b.toList) = decide (a.data.toList = b.data.toList) := by
  cases h : (a.toList == b.toList) with
  | true =>
    rw [bytes_eq h]; simp
  | false =>
    refine (decide_eq_false fun e => bytes_ne h ?_).symm
    rw [of_data e]
theorem take_dead (g b : Nat) (ws : List Wd) (e : Nat) (p : Nat × Nat) (S : ByteArray) (w : World) (h : PSt w g b ws e p) (he : e ≠ 0) :
    Calls Tryz.prog 108 #[.pointer (some ⟨g, 0, none⟩), .string S] w (Ret w (.bool false)) := by
  obtain ⟨o, c, hc, hbg, hB, hR⟩ := h
  have lg := hB.lt
  have c3 : w.cell? ⟨g, 3, none⟩ = some (.int .i64 e) := hB.cell 3
  have be : ((e : Int) != 0) = true := by rw [bne_iff_ne]; omega
  have be2 : ((e : Int) == 0) = false := beq_eq_false_iff_ne.2 (by omega)
  clear hB hR hc he
  go_enter Tryz.func108, Tryz.ntmps108
  go_wp2_with fail
  go_ret
  exact Ret.mk rfl (Ex.refl _)
set_option maxRecDepth 20000 in
set_option maxHeartbeats 800000 in
theorem take_no (g b : Nat) (x : Wd) (r : List Wd) (p : Nat × Nat) (S : ByteArray) (w : World) (h : PSt w g b (x :: r) 0 p) (hT : isT (key x) S.data.toList = false) :
    Calls Tryz.prog 108 #[.pointer (some ⟨g, 0, none⟩), .string S] w (Ret w (.bool false)) := by
  have HN := Lib.hid (fun w' (hx : Ex w w') => next_c g b x r 0 p w' (h.ex hx))
  obtain ⟨o, c, hc, hbg, hB, hR⟩ := h
  have lg := hB.lt
  have c3 : w.cell? ⟨g, 3, none⟩ = some (.int .i64 0) := hB.cell 3
  unfold wdV at HN
  unfold isT key at hT
  obtain ⟨k, T, q1, q2⟩ := x
  dsimp only at HN hT
  obtain ⟨TB, hTB⟩ : ∃ TB : ByteArray, TB = ⟨T.toArray⟩ := ⟨_, rfl⟩
  have hTd : TB.data.toList = T := by rw [hTB]
  rw [← hTB] at HN
  by_cases h4 : k = 4
  · have b4 : ((k : Int) == 4) = true := by rw [beq_iff_eq]; omega
    clear hB hR hc hT hTB hTd h4
    go_enter Tryz.func108, Tryz.ntmps108
    go_wp2_with fail
    refine (HN.out _ (Ex.refl _)).mono ?_
    rintro e w' ⟨rfl, z, rfl⟩
    go_wp2_with fail
    go_ret
    exact Ret.mk rfl ((Ex.refl _).ext _)
  · have b4 : ((k : Int) == 4) = false := beq_eq_false_iff_ne.2 (by omega)
    have hne : ¬ T = S.data.toList := by
      intro h
      rw [decide_eq_true h, decide_eq_true h4] at hT
      cases hT
    have bt : (TB.toList == S.toList) = false := by rw [bytes_iff, hTd]; exact decide_eq_false hne
    have bt2 : (TB.toList != S.toList) = true := by unfold bne; rw [bt]; rfl
    clear hB hR hc hT hTB hTd h4 hne
    go_enter Tryz.func108, Tryz.ntmps108
    go_wp2_with fail
    refine (HN.out _ (Ex.refl _)).mono ?_
    rintro e w' ⟨rfl, z, rfl⟩
    go_wp2_with fail
    refine (HN.out _ ((Ex.refl _).ext z)).mono ?_
    rintro e w' ⟨rfl, z2, rfl⟩
    go_wp2_with fail
    go_ret
    exact Ret.mk rfl (((Ex.refl _).ext _).ext _)
set_option maxRecDepth 20000 in
set_option maxHeartbeats 800000 in
theorem take_yes (g b : Nat) (x y : Wd) (r : List Wd) (p : Nat × Nat) (S : ByteArray) (w : World) (h : PSt w g b (x :: y :: r) 0 p) (hT : isT (key x) S.data.toList = true) :
    Calls Tryz.prog 108 #[.pointer (some ⟨g, 0, none⟩), .string S] w (fun e w' => e = .returned (.bool true) ∧ PSt w' g b (y :: r) 0 p ∧ Exg g w w') := by
  have HN := Lib.hid (fun w' (hx : Ex w w') => next_c g b x (y :: r) 0 p w' (h.ex hx))
  obtain ⟨o, c, hc, hbg, hB, hR⟩ := h
  have lg := hB.lt
  have c3 : w.cell? ⟨g, 3, none⟩ = some (.int .i64 0) := hB.cell 3
  have c0 : w.cell? ⟨g, 0, none⟩ = some (.slice (some ⟨b, o, none⟩) (r.length + 1 + 1) c) := hB.cell 0
  have d0 := hB.frozen 0
  unfold wdV at HN
  unfold isT key at hT
  have HR := Lib.hid hR.next
  have HB := Lib.hid hB
  obtain ⟨k, T, q1, q2⟩ := x
  dsimp only at HN hT
  obtain ⟨TB, hTB⟩ : ∃ TB : ByteArray, TB = ⟨T.toArray⟩ := ⟨_, rfl⟩
  have hTd : TB.data.toList = T := by rw [hTB]
  rw [← hTB] at HN
  simp only [Bool.and_eq_true, decide_eq_true_eq] at hT
  have b4 : ((k : Int) == 4) = false := beq_eq_false_iff_ne.2 (by omega)
  have bt : (TB.toList == S.toList) = true := by rw [bytes_iff, hTd]; exact decide_eq_true hT.2
  have bt2 : (TB.toList != S.toList) = false := by unfold bne; rw [bt]; rfl
  have hc1 : r.length + 1 + 1 ≤ c := hc
  have hc2 : c ≠ 1 := by omega
  have hc3 : 1 ≤ c := by omega
  have HC : Hid ((y :: r).length ≤ c - 1) := by show r.length + 1 ≤ c - 1; omega
  clear hB hR hc hT hTB hTd
  go_enter Tryz.func108, Tryz.ntmps108
  go_wp2_with fail
  refine (HN.out _ (Ex.refl _)).mono ?_
  rintro e w' ⟨rfl, z, rfl⟩
  go_wp2_with fail
  refine (HN.out _ ((Ex.refl _).ext z)).mono ?_
  rintro e w' ⟨rfl, z2, rfl⟩
  have hx : Ex w (ext (ext w z) z2) := ((Ex.refl _).ext z).ext z2
  have lg2 := (HB.out.ex hx).lt
  have HX := Lib.hid hx
  clear hx
  go_wp2_with fail
  go_ret
  exact ⟨rfl, ⟨o + 4, c - 1, HC.out, hbg, (HB.out.ex HX.out).set_ 0 _, (HR.out.exg hbg (Exg.of HX.out)).exg hbg (Exg.owno _ _ _ _)⟩, (Exg.of HX.out).seto _ _⟩
/-- the error at a word -/
def errAt (x : Wd) : Nat := if x.kind = 4 then 4 else 3
theorem wrong_dead (g b : Nat) (ws : List Wd) (e : Nat) (p : Nat × Nat) (w : World) (h : PSt w g b ws e p) (he : e ≠ 0) :
    Calls Tryz.prog 51 #[.pointer (some ⟨g, 0, none⟩)] w (Ret w (.tuple #[])) := by
  obtain ⟨o, c, hc, hbg, hB, hR⟩ := h
  have lg := hB.lt
  have c3 : w.cell? ⟨g, 3, none⟩ = some (.int .i64 e) := hB.cell 3
  have be : ((e : Int) != 0) = true := by rw [bne_iff_ne]; omega
  have be2 : ((e : Int) == 0) = false := beq_eq_false_iff_ne.2 (by omega)
  clear hB hR hc he
  go_enter Tryz.func51, Tryz.ntmps51
  go_wp2_with fail
  go_end0
  exact Ret.mk rfl (Ex.refl _)
set_option maxRecDepth 20000 in
set_option maxHeartbeats 800000 in
theorem wrong_c (g b : Nat) (x : Wd) (r : List Wd) (p : Nat × Nat) (w : World) (h : PSt w g b (x :: r) 0 p) :
    Calls Tryz.prog 51 #[.pointer (some ⟨g, 0, none⟩)] w (fun e w' => e = .returned (.tuple #[]) ∧ PSt w' g b (x :: r) (errAt x) x.pos ∧ Exg g w w') := by
  have HN := Lib.hid (fun w' (hx : Ex w w') => next_c g b x r 0 p w' (h.ex hx))
  have HN2 := Lib.hid (fun W (hW : PSt W g b (x :: r) 3 x.pos) => next_c g b x r 3 x.pos W hW)
  obtain ⟨o, c, hc, hbg, hB, hR⟩ := h
  have lg := hB.lt
  have c3 : w.cell? ⟨g, 3, none⟩ = some (.int .i64 0) := hB.cell 3
  have c1 : w.cell? ⟨g, 1, none⟩ = some (.int .i64 p.1) := hB.cell 1
  have c2 : w.cell? ⟨g, 2, none⟩ = some (.int .i64 p.2) := hB.cell 2
  have d1 := hB.frozen 1
  have d2 := hB.frozen 2
  have d3 := hB.frozen 3
  have HR := Lib.hid hR
  have HB := Lib.hid hB
  have HC := Lib.hid hc
  unfold wdV at HN HN2
  unfold errAt
  obtain ⟨k, T, q1, q2⟩ := x
  dsimp only at HN HN2 ⊢
  clear hB hR hc
  have hk : (((k : Int) == 4) = true ∧ k = 4) ∨ (((k : Int) == 4) = false ∧ k ≠ 4) := by
    by_cases h : k = 4
    · exact .inl ⟨by rw [beq_iff_eq]; omega, h⟩
    · exact .inr ⟨beq_eq_false_iff_ne.2 (by omega), h⟩
  rcases hk with ⟨b4, h4⟩ | ⟨b4, h4⟩
  · rw [if_pos h4]
    have H4 := Lib.hid h4
    clear h4
    go_enter Tryz.func51, Tryz.ntmps51
    go_wp2_with fail
    refine (HN.out _ (Ex.refl _)).mono ?_
    rintro e w' ⟨rfl, z, rfl⟩
    have lg2 := lt_ext z lg
    go_wp2_with fail
    refine (HN2.out _ ?c1).mono ?_
    case c1 => exact ⟨o, c, HC.out, hbg, (((HB.out.ex ⟨z, rfl⟩).set_ 3 _).set_ 1 _).set_ 2 _, ((((HR.out.exg hbg (Exg.of ⟨z, rfl⟩)).exg hbg (Exg.owno _ _ _ _)).exg hbg (Exg.owno _ _ _ _)).exg hbg (Exg.owno _ _ _ _))⟩
    rintro e w2 ⟨rfl, hx2⟩
    have hB2 := ((((HB.out.ex ((Ex.refl _).ext z)).set_ 3 (.int .i64 3)).set_ 1 (.int .i64 q1)).set_ 2 (.int .i64 q2)).ex hx2
    have d4 := hB2.frozen 3
    have c4 : w2.cell? ⟨g, 3, none⟩ = some (.int .i64 3) := hB2.cell 3
    have lg3 := hB2.lt
    have HB2 := Lib.hid hB2
    have HX2 := Lib.hid hx2
    clear hB2 hx2
    go_wp2_with fail
    go_end0
    exact ⟨rfl, ⟨o, c, HC.out, hbg, HB2.out.set_ 3 _, (((((HR.out.exg hbg (Exg.of ((Ex.refl _).ext z))).exg hbg (Exg.owno _ _ _ _)).exg hbg (Exg.owno _ _ _ _)).exg hbg (Exg.owno _ _ _ _)).exg hbg (Exg.of HX2.out)).exg hbg (Exg.owno _ _ _ _)⟩, (((((Exg.of ((Ex.refl _).ext z)).seto _ _).seto _ _).seto _ _).ex HX2.out).seto _ _⟩
  · rw [if_neg h4]
    clear h4
    go_enter Tryz.func51, Tryz.ntmps51
    go_wp2_with fail
    refine (HN.out _ (Ex.refl _)).mono ?_
    rintro e w' ⟨rfl, z, rfl⟩
    have lg2 := lt_ext z lg
    go_wp2_with fail
    refine (HN2.out _ ?c2).mono ?_
    case c2 => exact ⟨o, c, HC.out, hbg, (((HB.out.ex ⟨z, rfl⟩).set_ 3 _).set_ 1 _).set_ 2 _, ((((HR.out.exg hbg (Exg.of ⟨z, rfl⟩)).exg hbg (Exg.owno _ _ _ _)).exg hbg (Exg.owno _ _ _ _)).exg hbg (Exg.owno _ _ _ _))⟩
    rintro e w2 ⟨rfl, hx2⟩
    have hB2 := ((((HB.out.ex ((Ex.refl _).ext z)).set_ 3 (.int .i64 3)).set_ 1 (.int .i64 q1)).set_ 2 (.int .i64 q2)).ex hx2
    have HB2 := Lib.hid hB2
    have HX2 := Lib.hid hx2
    clear hB2 hx2
    go_wp2_with fail
    go_end0
    exact ⟨rfl, ⟨o, c, HC.out, hbg, HB2.out, ((((HR.out.exg hbg (Exg.of ((Ex.refl _).ext z))).exg hbg (Exg.owno _ _ _ _)).exg hbg (Exg.owno _ _ _ _)).exg hbg (Exg.owno _ _ _ _)).exg hbg (Exg.of HX2.out)⟩, ((((Exg.of ((Ex.refl _).ext z)).seto _ _).seto _ _).seto _ _).ex HX2.out⟩
theorem need_dead (g b : Nat) (ws : List Wd) (e : Nat) (p : Nat × Nat) (S : ByteArray) (w : World) (h : PSt w g b ws e p) (he : e ≠ 0) :
    Calls Tryz.prog 172 #[.pointer (some ⟨g, 0, none⟩), .string S] w (Ret w (.tuple #[])) := by
  have HT := Lib.hid (take_dead g b ws e p S w h he)
  have HW := Lib.hid (fun w' (hx : Ex w w') => wrong_dead g b ws e p w' (h.ex hx) he)
  clear h he
  go_enter Tryz.func172, Tryz.ntmps172
  go_wp2_with fail
  refine HT.out.mono ?_
  rintro e w' ⟨rfl, z, rfl⟩
  go_wp2_with fail
  refine (HW.out _ ((Ex.refl _).ext z)).mono ?_
  rintro e w' ⟨rfl, z2, rfl⟩
  go_wp2_with fail
  go_end0
  exact Ret.mk rfl (((Ex.refl _).ext _).ext _)
theorem need_yes (g b : Nat) (x y : Wd) (r : List Wd) (p : Nat × Nat) (S : ByteArray) (w : World) (h : PSt w g b (x :: y :: r) 0 p) (hT : isT (key x) S.data.toList = true) :
    Calls Tryz.prog 172 #[.pointer (some ⟨g, 0, none⟩), .string S] w (fun e w' => e = .returned (.tuple #[]) ∧ PSt w' g b (y :: r) 0 p ∧ Exg g w w') := by
  have HT := Lib.hid (take_yes g b x y r p S w h hT)
  clear h hT
  go_enter Tryz.func172, Tryz.ntmps172
  go_wp2_with fail
  refine HT.out.mono ?_
  rintro e w' ⟨rfl, hp, hx⟩
  have HP := Lib.hid hp
  have HX := Lib.hid hx
  clear hp hx
  go_wp2_with fail
  go_end0
  exact ⟨rfl, HP.out, HX.out⟩
theorem need_no (g b : Nat) (x : Wd) (r : List Wd) (p : Nat × Nat) (S : ByteArray) (w : World) (h : PSt w g b (x :: r) 0 p) (hT : isT (key x) S.data.toList = false) :
    Calls Tryz.prog 172 #[.pointer (some ⟨g, 0, none⟩), .string S] w (fun e w' => e = .returned (.tuple #[]) ∧ PSt w' g b (x :: r) (errAt x) x.pos ∧ Exg g w w') := by
  have HT := Lib.hid (take_no g b x r p S w h hT)
  have HW := Lib.hid (fun w' (hx : Ex w w') => wrong_c g b x r p w' (h.ex hx))
  clear h hT
  go_enter Tryz.func172, Tryz.ntmps172
  go_wp2_with fail
  refine HT.out.mono ?_
  rintro e w' ⟨rfl, z, rfl⟩
  go_wp2_with fail
  refine (HW.out _ ((Ex.refl _).ext z)).mono ?_
  rintro e w' ⟨rfl, hp, hx⟩
  have HP := Lib.hid hp
  have HX := Lib.hid hx
  clear hp hx
  go_wp2_with fail
  go_end0
  exact ⟨rfl, HP.out, (Exg.of ((Ex.refl _).ext z)).trans HX.out⟩
set_option maxRecDepth 20000 in
set_option maxHeartbeats 800000 in
theorem name_dead (g b : Nat) (x : Wd) (r : List Wd) (e : Nat) (p : Nat × Nat) (w : World) (h : PSt w g b (x :: r) e p) (he : e ≠ 0) :
    Calls Tryz.prog 173 #[.pointer (some ⟨g, 0, none⟩)] w (Ret w (.string ⟨#[]⟩)) := by
  have HN := Lib.hid (next_c g b x r e p w h)
  have HW := Lib.hid (fun w' (hx : Ex w w') => wrong_dead g b (x :: r) e p w' (h.ex hx) he)
  obtain ⟨o, c, hc, hbg, hB, hR⟩ := h
  have lg := hB.lt
  have c3 : w.cell? ⟨g, 3, none⟩ = some (.int .i64 e) := hB.cell 3
  have be : ((e : Int) != 0) = true := by rw [bne_iff_ne]; omega
  have be2 : ((e : Int) == 0) = false := beq_eq_false_iff_ne.2 (by omega)
  unfold wdV at HN
  clear hB hR hc he
  go_enter Tryz.func173, Tryz.ntmps173
  go_wp2_with fail
  refine HN.out.mono ?_
  rintro e' w' ⟨rfl, z, rfl⟩
  have lg2 := lt_ext z lg
  go_wp2_with fail
  refine (HW.out _ (((Ex.refl _).ext z).alloc _)).mono ?_
  rintro e' w' ⟨rfl, z2, rfl⟩
  go_wp2_with fail
  go_ret
  exact Ret.mk rfl ((((Ex.refl _).ext _).alloc _).ext _)
set_option maxRecDepth 20000 in
set_option maxHeartbeats 800000 in
theorem name_yes (g b : Nat) (x y : Wd) (r : List Wd) (p : Nat × Nat) (w : World) (h : PSt w g b (x :: y :: r) 0 p) (hT : isNm (key x) = true) :
    Calls Tryz.prog 173 #[.pointer (some ⟨g, 0, none⟩)] w (fun e w' => e = .returned (.string ⟨x.text.toArray⟩) ∧ PSt w' g b (y :: r) 0 p ∧ Exg g w w') := by
  have HN := Lib.hid (next_c g b x (y :: r) 0 p w h)
  obtain ⟨o, c, hc, hbg, hB, hR⟩ := h
  have lg := hB.lt
  have c3 : w.cell? ⟨g, 3, none⟩ = some (.int .i64 0) := hB.cell 3
  have c0 : w.cell? ⟨g, 0, none⟩ = some (.slice (some ⟨b, o, none⟩) (r.length + 1 + 1) c) := hB.cell 0
  have d0 := hB.frozen 0
  have HR := Lib.hid hR.next
  have HB := Lib.hid hB
  unfold wdV at HN
  unfold isNm key at hT
  obtain ⟨k, T, q1, q2⟩ := x
  dsimp only at HN hT ⊢
  obtain ⟨TB, hTB⟩ : ∃ TB : ByteArray, TB = ⟨T.toArray⟩ := ⟨_, rfl⟩
  rw [← hTB] at HN hT ⊢
  simp only [Bool.and_eq_true, decide_eq_true_eq, Bool.not_eq_true'] at hT
  have HK := Lib.hid (isKey_c TB)
  rw [hT.2] at HK
  have b4 : ((k : Int) == 2) = true := by rw [beq_iff_eq]; omega
  have b5 : ((k : Int) != 2) = false := by unfold bne; rw [b4]; rfl
  have hc1 : r.length + 1 + 1 ≤ c := hc
  have hc2 : c ≠ 1 := by omega
  have hc3 : 1 ≤ c := by omega
  have HC : Hid ((y :: r).length ≤ c - 1) := by show r.length + 1 ≤ c - 1; omega
  clear hB hR hc hT hTB
  go_enter Tryz.func173, Tryz.ntmps173
  go_wp2_with fail
  refine HN.out.mono ?_
  rintro e' w' ⟨rfl, z, rfl⟩
  have lg2 := lt_ext z lg
  go_wp2_with fail
  refine (HK.out _).mono ?_
  rintro e' w' ⟨rfl, z2, rfl⟩
  have hx : Ex w (ext ((ext w z).alloc (.cells #[.int .i64 k, .string TB, .int .i64 q1, .int .i64 q2] 66)) z2) := (((Ex.refl _).ext z).alloc _).ext z2
  have lg3 := (HB.out.ex hx).lt
  have ne3 : (ext w z).heap.size ≠ g := Nat.ne_of_gt lg2
  have HX := Lib.hid hx
  clear hx
  go_wp2_with fail
  go_ret
  exact ⟨rfl, ⟨o + 4, c - 1, HC.out, hbg, (HB.out.ex HX.out).set_ 0 _, (HR.out.exg hbg (Exg.of HX.out)).exg hbg (Exg.owno _ _ _ _)⟩, (Exg.of HX.out).seto _ _⟩
set_option maxRecDepth 20000 in
set_option maxHeartbeats 800000 in
theorem name_no (g b : Nat) (x : Wd) (r : List Wd) (p : Nat × Nat) (w : World) (h : PSt w g b (x :: r) 0 p) (hT : isNm (key x) = false) :
    Calls Tryz.prog 173 #[.pointer (some ⟨g, 0, none⟩)] w (fun e w' => e = .returned (.string ⟨#[]⟩) ∧ PSt w' g b (x :: r) (errAt x) x.pos ∧ Exg g w w') := by
  have HN := Lib.hid (next_c g b x r 0 p w h)
  have HW := Lib.hid (fun w' (hx : Ex w w') => wrong_c g b x r p w' (h.ex hx))
  obtain ⟨o, c, hc, hbg, hB, hR⟩ := h
  have lg := hB.lt
  have c3 : w.cell? ⟨g, 3, none⟩ = some (.int .i64 0) := hB.cell 3
  unfold wdV at HN
  unfold isNm key at hT
  obtain ⟨k, T, q1, q2⟩ := x
  dsimp only at HN hT
  generalize (⟨T.toArray⟩ : ByteArray) = TB at *
  clear hB hR hc
  by_cases h2 : k = 2
  · have b4 : ((k : Int) == 2) = true := by rw [beq_iff_eq]; omega
    have b5 : ((k : Int) != 2) = false := by unfold bne; rw [b4]; rfl
    have HK := Lib.hid (isKey_c TB)
    have hk : keyB TB = true := by
      rw [decide_eq_true h2] at hT
      simpa using hT
    rw [hk] at HK
    clear hT hk h2
    go_enter Tryz.func173, Tryz.ntmps173
    go_wp2_with fail
    refine HN.out.mono ?_
    rintro e' w' ⟨rfl, z, rfl⟩
    have lg2 := lt_ext z lg
    go_wp2_with fail
    refine (HK.out _).mono ?_
    rintro e' w' ⟨rfl, z2, rfl⟩
    go_wp2_with fail
    refine (HW.out _ ((((Ex.refl _).ext z).alloc _).ext z2)).mono ?_
    rintro e' w' ⟨rfl, hp, hx⟩
    have HP := Lib.hid hp
    have HX := Lib.hid hx
    clear hp hx
    go_wp2_with fail
    go_ret
    exact ⟨rfl, HP.out, (Exg.of ((((Ex.refl _).ext z).alloc _).ext z2)).trans HX.out⟩
  · have b4 : ((k : Int) == 2) = false := beq_eq_false_iff_ne.2 (by omega)
    have b5 : ((k : Int) != 2) = true := by unfold bne; rw [b4]; rfl
    clear hT h2
    go_enter Tryz.func173, Tryz.ntmps173
    go_wp2_with fail
    refine HN.out.mono ?_
    rintro e' w' ⟨rfl, z, rfl⟩
    have lg2 := lt_ext z lg
    go_wp2_with fail
    refine (HW.out _ (((Ex.refl _).ext z).alloc _)).mono ?_
    rintro e' w' ⟨rfl, hp, hx⟩
    have HP := Lib.hid hp
    have HX := Lib.hid hx
    clear hp hx
    go_wp2_with fail
    go_ret
    exact ⟨rfl, HP.out, (Exg.of (((Ex.refl _).ext z).alloc _)).trans HX.out⟩
/-! one contract for each, over states -/
structure St where
  ws : List Wd
  e : Nat
  p : Nat × Nat
def hdW (ws : List Wd) : Wd := ws.headD ⟨4, [], (0, 0)⟩
def takeB (s : St) (S : List UInt8) : Bool := decide (s.e = 0) && isT (key (hdW s.ws)) S
def wrongS (s : St) : St := if s.e = 0 then ⟨s.ws, errAt (hdW s.ws), (hdW s.ws).pos⟩ else s
def takeS (s : St) (S : List UInt8) : St := if takeB s S then ⟨s.ws.tail, 0, s.p⟩ else s
def needS (s : St) (S : List UInt8) : St := if takeB s S then ⟨s.ws.tail, 0, s.p⟩ else wrongS s
def nameB (s : St) : Bool := decide (s.e = 0) && isNm (key (hdW s.ws))
def nameS (s : St) : St := if nameB s then ⟨s.ws.tail, 0, s.p⟩ else wrongS s
def nameV (s : St) : List UInt8 := if nameB s then (hdW s.ws).text else []
/-- the words end with the end -/
def WfW (ws : List Wd) : Prop := ∃ us E, ws = us ++ [E] ∧ E.kind = 4 ∧ E.text = [] ∧ ∀ u ∈ us, Right u.kind u.text ∧ u.text.length ≤ 16384
theorem WfW.cons {ws : List Wd} (h : WfW ws) : ∃ x r, ws = x :: r := by
  obtain ⟨us, E, rfl, _⟩ := h
  cases us with
  | nil => exact ⟨E, [], rfl⟩
  | cons a l => exact ⟨a, _, rfl⟩
theorem WfW.next {x : Wd} {r : List Wd} (h : WfW (x :: r)) (hx : x.kind ≠ 4) : WfW r ∧ ∃ y r', r = y :: r' := by
  obtain ⟨us, E, h, hE, hT, hu⟩ := h
  cases us with
  | nil =>
    injection h with h1 h2
    exact absurd (by rw [h1]; exact hE) hx
  | cons a l =>
    injection h with h1 h2
    have hw : WfW r := ⟨l, E, h2, hE, hT, fun u h => hu u (List.mem_cons_of_mem _ h)⟩
    exact ⟨hw, hw.cons⟩
theorem WfW.right {x : Wd} {r : List Wd} (h : WfW (x :: r)) (hx : x.kind ≠ 4) : Right x.kind x.text ∧ x.text.length ≤ 16384 := by
  obtain ⟨us, E, h, hE, hT, hu⟩ := h
  cases us with
  | nil =>
    injection h with h1 h2
    exact absurd (by rw [h1]; exact hE) hx
  | cons a l =>
    injection h with h1 h2
    rw [h1]
    exact hu a (List.mem_cons_self ..)
def Pst (w : World) (g b : Nat) (s : St) : Prop := WfW s.ws ∧ PSt w g b s.ws s.e s.p
theorem Pst.ex {w w' : World} {g b : Nat} {s : St} (h : Pst w g b s) (hx : Ex w w') : Pst w' g b s := ⟨h.1, h.2.ex hx⟩
theorem isT_kind {x : Wd} {S : List UInt8} (h : isT (key x) S = true) : x.kind ≠ 4 := by
  unfold isT key at h
  simp only [Bool.and_eq_true, decide_eq_true_eq] at h
  exact h.1
theorem isNm_kind {x : Wd} (h : isNm (key x) = true) : x.kind ≠ 4 := by
  unfold isNm key at h
  simp only [Bool.and_eq_true, decide_eq_true_eq] at h
  omega
def unitV : Value := .tuple #[]
theorem take_c (g b : Nat) (s : St) (S : ByteArray) (w : World) (h : Pst w g b s) :
    Calls Tryz.prog 108 #[.pointer (some ⟨g, 0, none⟩), .string S] w (fun e w' => e = .returned (.bool (takeB s S.data.toList)) ∧ Pst w' g b (takeS s S.data.toList) ∧ Exg g w w') := by
  obtain ⟨ws, e, p⟩ := s
  obtain ⟨hw, hp⟩ := h
  dsimp only at hw hp
  unfold takeS takeB
  dsimp only
  by_cases he : e = 0
  · subst he
    obtain ⟨x, r, rfl⟩ := hw.cons
    have e1 : (decide ((0 : Nat) = 0) && isT (key (hdW (x :: r))) S.data.toList) = isT (key x) S.data.toList := by simp [hdW]
    rw [e1]
    cases hT : isT (key x) S.data.toList with
    | false =>
      refine (take_no g b x r p S w hp hT).mono ?_
      rintro e w' ⟨rfl, hx⟩
      exact ⟨rfl, ⟨hw, hp.ex hx⟩, Exg.of hx⟩
    | true =>
      obtain ⟨hw2, y, r', rfl⟩ := hw.next (isT_kind hT)
      refine (take_yes g b x y r' p S w hp hT).mono ?_
      rintro e w' ⟨rfl, h1, h2⟩
      exact ⟨rfl, ⟨hw2, h1⟩, h2⟩
  · rw [decide_eq_false he, Bool.false_and]
    refine (take_dead g b ws e p S w hp he).mono ?_
    rintro e' w' ⟨rfl, hx⟩
    exact ⟨rfl, ⟨hw, hp.ex hx⟩, Exg.of hx⟩
theorem wrong_s (g b : Nat) (s : St) (w : World) (h : Pst w g b s) :
    Calls Tryz.prog 51 #[.pointer (some ⟨g, 0, none⟩)] w (fun e w' => e = .returned unitV ∧ Pst w' g b (wrongS s) ∧ Exg g w w') := by
  obtain ⟨ws, e, p⟩ := s
  obtain ⟨hw, hp⟩ := h
  dsimp only at hw hp
  unfold wrongS
  dsimp only
  by_cases he : e = 0
  · subst he
    obtain ⟨x, r, rfl⟩ := hw.cons
    rw [if_pos rfl]
    refine (wrong_c g b x r p w hp).mono ?_
    rintro e w' ⟨rfl, h1, h2⟩
    exact ⟨rfl, ⟨hw, h1⟩, h2⟩
  · rw [if_neg he]
    refine (wrong_dead g b ws e p w hp he).mono ?_
    rintro e' w' ⟨rfl, hx⟩
    exact ⟨rfl, ⟨hw, hp.ex hx⟩, Exg.of hx⟩
theorem need_c (g b : Nat) (s : St) (S : ByteArray) (w : World) (h : Pst w g b s) :
    Calls Tryz.prog 172 #[.pointer (some ⟨g, 0, none⟩), .string S] w (fun e w' => e = .returned unitV ∧ Pst w' g b (needS s S.data.toList) ∧ Exg g w w') := by
  have HT := Lib.hid (take_c g b s S w h)
  have HW := Lib.hid (fun w' (hp : Pst w' g b s) => wrong_s g b s w' hp)
  unfold takeS at HT
  unfold needS unitV
  unfold unitV at HW
  cases hb : takeB s S.data.toList with
  | true =>
    rw [hb] at HT
    clear h hb
    go_enter Tryz.func172, Tryz.ntmps172
    go_wp2_with fail
    refine HT.out.mono ?_
    rintro e w' ⟨rfl, hp, hx⟩
    have HP := Lib.hid hp
    have HX := Lib.hid hx
    clear hp hx
    go_wp2_with fail
    go_end0
    exact ⟨rfl, HP.out, HX.out⟩
  | false =>
    rw [hb] at HT
    clear h hb
    go_enter Tryz.func172, Tryz.ntmps172
    go_wp2_with fail
    refine HT.out.mono ?_
    rintro e w' ⟨rfl, hp, hx⟩
    have HP := Lib.hid hp
    have HX := Lib.hid hx
    clear hp hx
    go_wp2_with fail
    refine (HW.out _ HP.out).mono ?_
    rintro e w2 ⟨rfl, hp2, hx2⟩
    have HP2 := Lib.hid hp2
    have HX2 := Lib.hid hx2
    clear hp2 hx2
    go_wp2_with fail
    go_end0
    exact ⟨rfl, HP2.out, HX.out.trans HX2.out⟩
theorem name_c (g b : Nat) (s : St) (w : World) (h : Pst w g b s) :
    Calls Tryz.prog 173 #[.pointer (some ⟨g, 0, none⟩)] w (fun e w' => e = .returned (.string ⟨(nameV s).toArray⟩) ∧ Pst w' g b (nameS s) ∧ Exg g w w') := by
  obtain ⟨ws, e, p⟩ := s
  obtain ⟨hw, hp⟩ := h
  dsimp only at hw hp
  unfold nameS nameV nameB wrongS
  dsimp only
  obtain ⟨x, r, rfl⟩ := hw.cons
  by_cases he : e = 0
  · subst he
    have e1 : (decide ((0 : Nat) = 0) && isNm (key (hdW (x :: r)))) = isNm (key x) := by simp [hdW]
    rw [e1]
    cases hT : isNm (key x) with
    | false =>
      refine (name_no g b x r p w hp hT).mono ?_
      rintro e w' ⟨rfl, h1, h2⟩
      exact ⟨rfl, ⟨hw, h1⟩, h2⟩
    | true =>
      obtain ⟨hw2, y, r', rfl⟩ := hw.next (isNm_kind hT)
      refine (name_yes g b x y r' p w hp hT).mono ?_
      rintro e w' ⟨rfl, h1, h2⟩
      exact ⟨rfl, ⟨hw2, h1⟩, h2⟩
  · rw [decide_eq_false he, Bool.false_and]
    refine (name_dead g b x r e p w hp he).mono ?_
    rintro e' w' ⟨rfl, hx⟩
    refine ⟨rfl, ?_, Exg.of hx⟩
    show Pst w' g b (if e = 0 then _ else _)
    rw [if_neg he]
    exact ⟨hw, hp.ex hx⟩
end Go.Proofs.YthjalkonlcjhnaaGreatDoor
