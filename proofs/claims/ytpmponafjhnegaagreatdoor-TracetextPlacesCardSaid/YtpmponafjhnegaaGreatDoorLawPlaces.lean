/-
  PROVED HERE: the tied card of the law TracetextPlaces: for every input that the row admits, the law's function returns true, and each argument reads behind the call as it read before.
  Conditions: none beyond the given row's own.
-/
import Derived.Test.YtpmponafjhnegaaGreatDoorWn
import Derived.Test.YtpmponafjhnegaaGreatDoorWo
namespace Go.Proofs.YtpmponafjhnegaaGreatDoor.tracetextPlaces
open Go.ChangeShapes Go.WideShapes Go.ChangeAt Go.RowKit

set_option maxRecDepth 100000 in
theorem contract (H : Type) (enc : TypeId × Value → H) (W : World) (base : Nat) (args : Array Value) (ds gs : List (DataW H)) (before : List MemPlace)
    (hval : ∀ (j : Nat) t v, Tryz.f5.params[j]? = some t → args[j]? = some v → Value.okWide Tryz.prog W .any base t v)
    (hW : DataW.Whole enc Tryz.prog Tryz.f5.params.toList Rows.tracetextPlacesSpec.vars false W args.toList ds gs before)
    (hsz0 : (DataW.weightsEach Tryz.prog (Tryz.f5.params.toList ++ Rows.tracetextPlacesSpec.plain.varTypes Tryz.prog) (ds ++ gs)).all (· ≤ reachBytes) = true)
    (hL : laidMetH Tryz.prog Rows.tracetextPlacesRow.laid W) (hS : W.ShapedOpen Tryz.prog) :
    Calls Tryz.prog 5 args W fun e W' => ∃ v, e = .returned v ∧ Rows.tracetextPlacesSpec.post enc Tryz.prog Tryz.f5 false true false false W args v W' := by
  have hW' := hW
  obtain ⟨p, q, hA0, hV, rfl, hfz, hnd⟩ := hW
  have hA : DataW.TrodAll enc Tryz.prog W 0 (fun _ => true) true Tryz.f5.params.toList args.toList ds p := hA0
  have hsz := hsz0
  rw [Tryz.params5] at hA hval hsz
  obtain ⟨v0, vs0, d0, ds0, p0, q0, hargs, rfl, rfl, h0, g0⟩ := trodAll_cons hA
  obtain ⟨v1, vs1, d1, ds1, p1, q1, rfl, rfl, rfl, h1, g1⟩ := trodAll_cons g0
  obtain ⟨v2, vs2, d2, ds2, p2, q2, rfl, rfl, rfl, h2, g2⟩ := trodAll_cons g1
  obtain ⟨rfl, rfl, rfl⟩ := trodAll_nil g2
  obtain rfl : args = #[v0, v1, v2] := by cases args; simp_all
  obtain ⟨rfl, rfl⟩ := trodVars_none hV
  have hw0 := wok_of hsz (j := 0) (d := d0) rfl rfl
  obtain ⟨A0, t0, c0, rfl, hT0, hc0, hr0, hbig0⟩ := open_trace (hval 0 24 v0 rfl rfl) h0 hw0
  obtain ⟨n1, rfl, rfl, rfl, wn1⟩ := open_int Tryz.underlying55 (hval 1 55 v1 rfl rfl) h1
  obtain ⟨b1, rfl, hb1⟩ : ∃ b : Nat, n1 = (b : Int) ∧ b < 65536 := by
    have h := wn1
    simp only [Lit.wf, Bool.and_eq_true, decide_eq_true_eq] at h
    have e1 : IntKind.u16.min = 0 := by decide
    have e2 : IntKind.u16.max = 65535 := by decide
    rw [e1, e2] at h
    exact ⟨n1.toNat, by omega, by omega⟩
  obtain ⟨n2, rfl, rfl, rfl, wn2⟩ := open_int Tryz.underlying5 (hval 2 5 v2 rfl rfl) h2
  obtain ⟨b2, rfl, hb2⟩ : ∃ b : Nat, n2 = (b : Int) ∧ b < 256 := by
    have h := wn2
    simp only [Lit.wf, Bool.and_eq_true, decide_eq_true_eq] at h
    have e1 : IntKind.u8.min = 0 := by decide
    have e2 : IntKind.u8.max = 255 := by decide
    rw [e1, e2] at h
    exact ⟨n2.toNat, by omega, by omega⟩
  clear hA0
  have hE : Env W := env_of hL hS
  have hlt0 : ∀ x ∈ p0, x.block < W.heap.size := fun x hx => hW'.lt x (by simp [hx])
  have hs0 : ∀ sp : Nat → Bool, (∀ q9 ∈ ((p0 ++ (([] : List MemPlace) ++ (([] : List MemPlace) ++ ([] : List MemPlace)))) ++ ([] : List MemPlace)), sp q9.block = true) → ∀ x ∈ p0, sp x.block = true := fun sp hsp x hx => hsp x (by simp [hx])
  refine (places_law t0 A0 c0 b1 b2 W hE hT0 hc0 (Nat.le_trans hr0 reach_le) (fun x hx => Nat.le_trans (hbig0 x hx) reach_le) hb1 hb2).mono fun e W' ⟨he, hx⟩ => ?_
  subst he
  have hb := hx.below
  exact ⟨_, rfl, post_below (pa := p0 ++ (([] : List MemPlace) ++ (([] : List MemPlace) ++ ([] : List MemPlace)))) (pv := []) hW' (fun _ _ _ => trodAll_cons_mk (shut_bool Tryz.underlying4 _) trodAll_mk0) (fun sp hsp => (trodAll_cons_mk (stays readT rowT h0 hb (fun x hx => hlt0 x hx) sp (fun x hx => hs0 sp hsp x hx)) (trodAll_cons_mk (shut_int Tryz.underlying55 wn1) (trodAll_cons_mk (shut_int Tryz.underlying5 wn2) trodAll_mk0)))) (fun _ _ => rfl) rfl hb (ok_one (by kernel_rfl) rfl (okWide_bool_mk Tryz.underlying4 _))⟩

theorem laid_met (os : Os) : laidMet Tryz.prog Rows.tracetextPlacesRow.laid ((laidWorld os).forCall (fun _ _ => 0) ⟨#[], #[.agg #[.slice none 0 0], .int .u16 0, .int .u8 0], []⟩).memory :=
  laidMet_laidAll _ (by kernel_rfl) (by kernel_rfl)
theorem reads (os : Os) {H : Type} (enc : TypeId × Value → H) : ∃ places, DataW.whole enc Tryz.prog ((laidWorld os).forCall (fun _ _ => 0) ⟨#[], #[.agg #[.slice none 0 0], .int .u16 0, .int .u8 0], []⟩).memory Tryz.f5.params.toList Rows.tracetextPlacesSpec.vars false #[Value.agg #[.slice none 0 0], .int .u16 0, .int .u8 0].toList 8 = some ([.agg [.nil], .lit (.int .u16 0), .lit (.int .u8 0)], [], places) :=
  ⟨[], by kernel_rfl⟩

set_option maxRecDepth 100000 in
theorem lifted (os : Os) (started : os.Started) (H : Type) (enc : TypeId × Value → H) (F : Stop.Interp) :
    ReturnsInHanded {} Tryz.checked os 5 .any ((OpenSpec.ofChange Rows.tracetextPlacesSpec).preRow enc Tryz.prog Tryz.f5 Rows.tracetextPlacesRow.domain false Rows.tracetextPlacesRow.laid) (((OpenSpec.ofChange Rows.tracetextPlacesSpec).at F).post enc Tryz.prog Tryz.f5 false true false false) := by
  obtain ⟨places, hx⟩ := reads os enc
  refine returnsInHanded_of_row (C := Tryz.checked) (s := OpenSpec.ofChange Rows.tracetextPlacesSpec) own started (by kernel_rfl) Tryz.func5
    (witness_row_shaped (enc := enc) (C := Tryz.checked) false (laidWorld os) #[.agg #[.slice none 0 0], .int .u16 0, .int .u8 0] (World.laidAll_os _ _ _) (World.shaped_of_ZipB (by kernel_rfl) (by kernel_rfl)) (by kernel_rfl)
      (OpenSpec.preRow_of_cond 8 hx (by kernel_rfl) (fun k hk => by cases hk) (by kernel_rfl) (laid_met os))) ?_
  intro W base args ds gs before hval hW _ _ hsz hL hS _
  exact contract H enc W base args ds gs before hval hW hsz hL hS

theorem said : Rows.TracetextPlacesSaid :=
  OpenClaim.holds_of_cond 5 Tryz.f5 rfl rfl rfl rfl rfl rfl rfl ⟨rfl, rfl, rfl, rfl, rfl⟩ rfl rfl rfl rfl rfl (by kernel_rfl) Tryz.func5 (by kernel_rfl)
    (of_decide_eq_true (by kernel_rfl)) (by unfold Func.isWrapper; first | (rw [if_pos (by decide +kernel)]; kernel_rfl) | (rw [if_neg (by decide +kernel)]; exact ⟨rfl, rfl⟩))
    (fun os started H enc _ F => by rw [OpenClaim.pre_eq_preRow]; exact lifted os started H enc F)

theorem plain (f : FuncId) (fn : Func) (hf : Tryz.pinned.checked.prog.funcNamed Rows.tracetextPlacesRow.func = some f) (hfn : Tryz.pinned.checked.prog.funcs[f]? = some fn) :
    true = Tryz.pinned.checked.prog.looks [] ∧ ∀ (j : Nat) t, fn.params[j]? = some t → Tryz.pinned.checked.prog.wantsStandIn t = false := by
  obtain rfl : f = 5 := Option.some.inj ((show Tryz.prog.funcNamed Rows.tracetextPlacesRow.func = some 5 by kernel_rfl).symm.trans hf) |>.symm
  obtain rfl : fn = Tryz.f5 := (Option.some.inj (Tryz.func5.symm.trans hfn)).symm
  refine ⟨by kernel_rfl, fun j t ht => ?_⟩
  rw [Tryz.params5] at ht
  have hm := Array.mem_of_getElem? ht
  have hc : t = 24 ∨ t = 55 ∨ t = 5 := by simpa using hm
  rcases hc with rfl | rfl | rfl
  · exact (show Tryz.prog.wantsStandIn 24 = false by kernel_rfl)
  · exact (show Tryz.prog.wantsStandIn 55 = false by kernel_rfl)
  · exact (show Tryz.prog.wantsStandIn 5 = false by kernel_rfl)

theorem card : Rows.TracetextPlacesCardSaid :=
  Claim7.holds_tied_plain_at .later [] _ _ _ _ said (fun _ h => by cases h) (by kernel_rfl) (fun _ h => by cases h) tracetextPlaces_row_tie rfl ⟨rfl, rfl⟩ (by kernel_rfl) rfl plain (by kernel_rfl)
end Go.Proofs.YtpmponafjhnegaaGreatDoor.tracetextPlaces
