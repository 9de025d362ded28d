/-
  PROVED HERE: the law RecoveryGreatest: for every input that the row admits, the law's function returns true, and each argument reads behind the call as it read before.
  Conditions: none beyond the given row's own.
-/
import Derived.Test.YtdenojfbdkdpiaaRq
import Derived.Test.YtdenojfbdkdpiaaYo
namespace Go.Proofs.Ytdenojfbdkdpiaa.recoveryGreatest
open Go.ChangeShapes Go.WideShapes Go.ChangeAt Go.RowKit

set_option maxRecDepth 100000 in
theorem contract (H : Type) (enc : TypeId × Value → H) (W : World) (base : Nat) (args : Array Value) (ds gs : List (DataW H)) (before : List MemPlace)
    (hval : ∀ (j : Nat) t v, Try.f9.params[j]? = some t → args[j]? = some v → Value.okWide Try.prog W .any base t v)
    (hW : DataW.Whole enc Try.prog Try.f9.params.toList Rows.recoveryGreatestSpec.vars false W args.toList ds gs before)
    (hsz0 : (DataW.weightsEach Try.prog (Try.f9.params.toList ++ Rows.recoveryGreatestSpec.plain.varTypes Try.prog) (ds ++ gs)).all (· ≤ reachBytes) = true) :
    Calls Try.prog 9 args W fun e W' => ∃ v, e = .returned v ∧ Rows.recoveryGreatestSpec.post enc Try.prog Try.f9 false true false false W args v W' := by
  have hW' := hW
  obtain ⟨p, q, hA0, hV, rfl, hfz, hnd⟩ := hW
  have hA : DataW.TrodAll enc Try.prog W 0 (fun _ => true) true Try.f9.params.toList args.toList ds p := hA0
  have hsz := hsz0
  rw [Try.params9] at hA hval hsz
  obtain ⟨v0, vs0, d0, ds0, p0, q0, hargs, rfl, rfl, h0, g0⟩ := trodAll_cons hA
  obtain ⟨v1, vs1, d1, ds1, p1, q1, rfl, rfl, rfl, h1, g1⟩ := trodAll_cons g0
  obtain ⟨v2, vs2, d2, ds2, p2, q2, rfl, rfl, rfl, h2, g2⟩ := trodAll_cons g1
  obtain ⟨v3, vs3, d3, ds3, p3, q3, rfl, rfl, rfl, h3, g3⟩ := trodAll_cons g2
  obtain ⟨rfl, rfl, rfl⟩ := trodAll_nil g3
  obtain rfl : args = #[v0, v1, v2, v3] := by cases args; simp_all
  obtain ⟨rfl, rfl⟩ := trodVars_none hV
  have hw0 := wok_of hsz (j := 0) (d := d0) rfl rfl
  obtain ⟨A0, t0, c0, rfl, hT0, hc0, hr0, hbig0⟩ := open_trace (hval 0 24 v0 rfl rfl) h0 hw0
  have hw1 := wok_of hsz (j := 1) (d := d1) rfl rfl
  obtain ⟨B1, l1, c1, rfl, hL1, hc1⟩ := open_lists (hval 1 25 v1 rfl rfl) h1 hw1
  have hw2 := wok_of hsz (j := 2) (d := d2) rfl rfl
  obtain ⟨A2, r2, c2, rfl, hR2, hc2⟩ := open_row (hval 2 39 v2 rfl rfl) h2 hw2
  have hw3 := wok_of hsz (j := 3) (d := d3) rfl rfl
  obtain ⟨A3, r3, c3, rfl, hR3, hc3⟩ := open_row (hval 3 39 v3 rfl rfl) h3 hw3
  clear hA0
  have hlt0 : ∀ x ∈ p0, x.block < W.heap.size := fun x hx => hW'.lt x (by simp [hx])
  have hs0 : ∀ sp : Nat → Bool, (∀ q9 ∈ ((p0 ++ (p1 ++ (p2 ++ (p3 ++ ([] : List MemPlace))))) ++ ([] : List MemPlace)), sp q9.block = true) → ∀ x ∈ p0, sp x.block = true := fun sp hsp x hx => hsp x (by simp [hx])
  have hlt1 : ∀ x ∈ p1, x.block < W.heap.size := fun x hx => hW'.lt x (by simp [hx])
  have hs1 : ∀ sp : Nat → Bool, (∀ q9 ∈ ((p0 ++ (p1 ++ (p2 ++ (p3 ++ ([] : List MemPlace))))) ++ ([] : List MemPlace)), sp q9.block = true) → ∀ x ∈ p1, sp x.block = true := fun sp hsp x hx => hsp x (by simp [hx])
  have hlt2 : ∀ x ∈ p2, x.block < W.heap.size := fun x hx => hW'.lt x (by simp [hx])
  have hs2 : ∀ sp : Nat → Bool, (∀ q9 ∈ ((p0 ++ (p1 ++ (p2 ++ (p3 ++ ([] : List MemPlace))))) ++ ([] : List MemPlace)), sp q9.block = true) → ∀ x ∈ p2, sp x.block = true := fun sp hsp x hx => hsp x (by simp [hx])
  have hlt3 : ∀ x ∈ p3, x.block < W.heap.size := fun x hx => hW'.lt x (by simp [hx])
  have hs3 : ∀ sp : Nat → Bool, (∀ q9 ∈ ((p0 ++ (p1 ++ (p2 ++ (p3 ++ ([] : List MemPlace))))) ++ ([] : List MemPlace)), sp q9.block = true) → ∀ x ∈ p3, sp x.block = true := fun sp hsp x hx => hsp x (by simp [hx])
  refine (greatest_law t0 A0 c0 l1 B1 c1 r2 A2 c2 r3 A3 c3 W hT0 hc0 hL1 hR2 hR3 (Nat.le_trans hr0 reach_le) (fun x hx => Nat.le_trans (hbig0 x hx) reach_le)).mono fun e W' ⟨he, hx⟩ => ?_
  subst he
  have hb := hx.below
  exact ⟨_, rfl, post_below (pa := p0 ++ (p1 ++ (p2 ++ (p3 ++ ([] : List MemPlace))))) (pv := []) hW' (fun _ _ _ => trodAll_cons_mk (shut_bool Try.underlying4 _) trodAll_mk0) (fun sp hsp => (trodAll_cons_mk (stays readT rowT h0 hb (fun x hx => hlt0 x hx) sp (fun x hx => hs0 sp hsp x hx)) (trodAll_cons_mk (stays readL rowL h1 hb (fun x hx => hlt1 x hx) sp (fun x hx => hs1 sp hsp x hx)) (trodAll_cons_mk (stays readR rowR h2 hb (fun x hx => hlt2 x hx) sp (fun x hx => hs2 sp hsp x hx)) (trodAll_cons_mk (stays readR rowR h3 hb (fun x hx => hlt3 x hx) sp (fun x hx => hs3 sp hsp x hx)) trodAll_mk0))))) (fun _ _ => rfl) rfl hb (ok_one (by kernel_rfl) rfl (okWide_bool_mk Try.underlying4 _))⟩

set_option maxRecDepth 100000 in
theorem lifted (os : Os) (started : os.Started) (H : Type) (enc : TypeId × Value → H) :
    ReturnsInHanded {} Try.checked os 9 .any (Rows.recoveryGreatestSpec.pre6 enc Try.prog Try.f9 Rows.recoveryGreatestRow.domain false) (Rows.recoveryGreatestSpec.post enc Try.prog Try.f9 false true false false) := by
  refine returnsInHanded_of_change_sized (C := Try.checked) own started (by kernel_rfl) Try.func9
    (ChangeSpec.witness6 (enc := enc) (C := Try.checked) false ⟨#[], #[.agg #[.slice none 0 0], .slice none 0 0, .slice none 0 0, .slice none 0 0], []⟩ 8 (by kernel_rfl) (by kernel_rfl) (by kernel_rfl) (by kernel_rfl)) ?_
  intro W base args ds gs before hval hW _ hsz _
  exact contract H enc W base args ds gs before hval hW hsz

theorem holds : Rows.RecoveryGreatestSaid :=
  OpenClaim.holds_of_wide 9 Try.f9 rfl rfl rfl rfl rfl rfl rfl ⟨rfl, rfl, rfl, rfl, rfl⟩ rfl rfl rfl rfl rfl (by kernel_rfl) Try.func9 (by kernel_rfl)
    (of_decide_eq_true (by kernel_rfl)) (by unfold Func.isWrapper; first | (rw [if_pos (by decide +kernel)]; kernel_rfl) | (rw [if_neg (by decide +kernel)]; exact ⟨rfl, rfl⟩))
    (fun os started H enc _ => lifted os started H enc)
end Go.Proofs.Ytdenojfbdkdpiaa.recoveryGreatest
