/-
  Valid, on both sides, in plain words: validB. (From Yg, without the rest, for the seat of the texts.) The law's small, walked.
  Conditions: as each theorem says.
-/
import Derived.Test.YtpmponafjhnegaaGreatDoorHt
import Derived.Test.YtpmponafjhnegaaGreatDoorHh
import Derived.Test.YtpmponafjhnegaaGreatDoorHj
import Derived.Test.YtpmponafjhnegaaGreatDoorYc
import Derived.Test.YtpmponafjhnegaaGreatDoorHk
namespace Go.Proofs.YtpmponafjhnegaaGreatDoor
section
open Go.RowKit
noncomputable def validB (t : List Pr) : Bool := decide ((faultO t).2 = 0)
set_option maxRecDepth 20000 in
set_option maxHeartbeats 1600000 in
theorem rValid_c (t : List Pr) (A : Option Addr) (c : Nat) (w : World) (hT : TcC w A t) (hs : TSm t) :
    Calls Tryz.prog 12 #[.agg #[.slice A t.length c]] w (Ret w (.bool (validB t))) := by
  have HF := Lib.hid (fun w' (h : Ex w w') => rFault_c t A c w' (hT.ex h) hs)
  have HX : Hid (Ex w (w.alloc (.cells #[.slice A t.length c] 24))) := (Ex.refl w).alloc _
  unfold validB
  generalize faultO t = R at *
  have s0 : Hid (((R.2 : Int) == 0) = decide (R.2 = 0)) := by
    show _ = _
    by_cases h : R.2 = 0 <;> simp [h]
  clear hT hs
  unfold faultV idV at HF
  go_enter Tryz.func12, Tryz.ntmps12
  go_wp2_with fail
  refine (HF.out _ HX.out).mono ?_
  rintro e9 w' ⟨rfl, z, rfl⟩
  go_wp2_with fail
  go_ret
  exact Ret.mk (congrArg Value.bool s0.out) ((HX.out.ext z).alloc _)
set_option maxRecDepth 20000 in
set_option maxHeartbeats 1600000 in
theorem pValid_c (t : List Pr) (A : Option Addr) (c : Nat) (w : World) (hT : TcC w A t) (hs : TSm t) (hcap : t.length ≤ c) :
    Calls Tryz.prog 36 #[.agg #[.slice A t.length c]] w (Ret w (.bool (validB t))) := by
  have HF := Lib.hid (fun w' (h : Ex w w') => pFault_c t A c w' (hT.ex h) hs hcap)
  have HX : Hid (Ex w (w.alloc (.cells #[.slice A t.length c] 24))) := (Ex.refl w).alloc _
  unfold validB
  generalize faultO t = R at *
  have s0 : Hid (((R.2 : Int) == 0) = decide (R.2 = 0)) := by
    show _ = _
    by_cases h : R.2 = 0 <;> simp [h]
  clear hT hs hcap
  unfold pfaultV idV at HF
  go_enter Tryz.func36, Tryz.ntmps36
  go_wp2_with fail
  refine (HF.out _ HX.out).mono ?_
  rintro e9 w' ⟨rfl, z, rfl⟩
  go_wp2_with fail
  go_ret
  exact Ret.mk (congrArg Value.bool s0.out) ((HX.out.ext z).alloc _)
end
section
open Go.RowKit Go.Shelf
theorem get_at' {α : Type} {l : List α} {p : Nat} (h : p < l.length) : ∃ x, l[p]? = some x := ⟨_, List.getElem?_eq_getElem h⟩
set_option maxRecDepth 20000 in
theorem smE_c (e : Ev) (B : Option Addr) (bc : Nat) (w : World) :
    Calls Tryz.prog 34 #[.agg #[.int .i64 e.kind, .int .i64 e.peer, .int .i64 e.msg, .int .i64 e.time, .slice B e.asg.length bc]] w (Ret w (.bool (decide (12 < e.asg.length)))) := by
  have s1 : decide (12 < (e.asg.length : Int)) = decide (12 < e.asg.length) := by congr 1; apply propext; omega
  have HS := Lib.hid s1
  clear s1
  go_enter Tryz.func34, Tryz.ntmps34
  go_wp2_with fail
  go_ret
  exact Ret.mk (by first | rfl | (rw [← HS.out]; rfl)) ((Ex.refl w).alloc _)
set_option maxRecDepth 20000 in
theorem smV_c (n : ByteArray) (v : Int) (w : World) :
    Calls Tryz.prog 32 #[.agg #[.string n, .int .i64 v]] w (Ret w (.bool (decide (30 < n.size)))) := by
  go_enter Tryz.func32, Tryz.ntmps32
  go_wp2_with fail
  go_ret
  exact Ret.mk (by first | rfl | (simp; omega)) ((Ex.refl w).alloc _)
theorem enters_m1 : ∀ args w, (callFunc 32 args).run Tryz.prog w = .ok (.enter 32 args) w := enters_of Tryz.func32 (by kernel_rfl) rfl
theorem enters_m2 : ∀ args w, (callFunc 34 args).run Tryz.prog w = .ok (.enter 34 args) w := enters_of Tryz.func34 (by kernel_rfl) rfl
/-- a process with long lists -/
def smX (x : Pr) : Bool := decide (12 < x.vars.length) || decide (30 < x.name.size) || x.vars.any (fun v => decide (30 < v.1.size)) || x.evs.any (fun e => decide (12 < e.asg.length))
def smallB (t : List Pr) : Bool := decide (t.length ≤ 12) && (decide (sumN t ≤ 120) && !(t.any smX))
theorem small_tsm {t : List Pr} (h : smallB t = true) : TSm t ∧ sumN t ≤ 120 ∧ t.length ≤ 12 ∧ ∀ x ∈ t, x.vars.length ≤ 12 ∧ x.name.size ≤ 30 ∧ (∀ v ∈ x.vars, v.1.size ≤ 30) ∧ ∀ e ∈ x.evs, e.asg.length ≤ 12 := by
  unfold smallB at h
  simp only [Bool.and_eq_true, decide_eq_true_eq, Bool.not_eq_true', List.any_eq_false] at h
  obtain ⟨h3, h1, h2⟩ := h
  have hev : ∀ (t : List Pr) x, x ∈ t → x.evs.length ≤ sumN t := fun t => by
    induction t with
    | nil => intro x hx; exact absurd hx List.not_mem_nil
    | cons y t ih =>
      intro x hx
      unfold sumN
      rcases List.mem_cons.1 hx with rfl | hx
      · omega
      · have := ih x hx; omega
  have hall : ∀ x ∈ t, x.vars.length ≤ 12 ∧ x.name.size ≤ 30 ∧ (∀ v ∈ x.vars, v.1.size ≤ 30) ∧ ∀ e ∈ x.evs, e.asg.length ≤ 12 := fun x hx => by
    have hx2 := h2 x hx
    unfold smX at hx2
    simp only [Bool.or_eq_true, decide_eq_true_eq, not_or, List.any_eq_true, not_exists, not_and] at hx2
    obtain ⟨⟨⟨g1, g2⟩, g3⟩, g4⟩ := hx2
    exact ⟨by omega, by omega, fun v hv => by have := g3 v hv; omega, fun e he => by have := g4 e he; omega⟩
  refine ⟨⟨by omega, by omega, fun x hx => ?_⟩, h1, h3, hall⟩
  obtain ⟨g1, g2, g3, g4⟩ := hall x hx
  have := hev t x hx
  exact ⟨by omega, by omega, by omega, fun v hv => by have := g3 v hv; omega, fun e he => by have := g4 e he; omega⟩
theorem sumN_snoc' {t : List Pr} {p : Nat} {x : Pr} (h : t[p]? = some x) : sumN (t.take (p + 1)) = sumN (t.take p) + x.evs.length := by
  induction t generalizing p with
  | nil => simp at h
  | cons y t ih =>
    cases p with
    | zero => simp only [List.getElem?_cons_zero, Option.some.injEq] at h; subst h; simp [sumN]
    | succ p => have := ih (p := p) (by simpa using h); simp only [List.take_succ_cons, sumN, this]; omega
theorem sumN_take' (t : List Pr) (p : Nat) : sumN (t.take p) ≤ sumN t := by
  induction t generalizing p with
  | nil => simp
  | cons y t ih =>
    cases p with
    | zero => simp [sumN]
    | succ p => have := ih p; simp only [List.take_succ_cons, sumN]; omega
theorem smanyE_c (es : List Ev) (E : Option Addr) (ec : Nat) (w : World) (hE : EvsC w E es) (hn : es.length ≤ 1000000000) :
    Calls Tryz.prog 33 #[.slice E es.length ec, .func (.func 34) #[] #[]] w (Ret w (.bool (es.any fun e => decide (12 < e.asg.length)))) := by
  have hf : ∃ f : Nat → Option Addr × Nat, ∀ i e, es[i]? = some e → ∀ w', Ex w w' → ∃ b o, E = some ⟨b, o, none⟩ ∧ b < w'.heap.size ∧ w'.cell? ⟨b, o + i * 5, none⟩ = some (.int .i64 e.kind) ∧ w'.cell? ⟨b, o + i * 5 + 1, none⟩ = some (.int .i64 e.peer) ∧ w'.cell? ⟨b, o + i * 5 + 2, none⟩ = some (.int .i64 e.msg) ∧ w'.cell? ⟨b, o + i * 5 + 3, none⟩ = some (.int .i64 e.time) ∧ w'.cell? ⟨b, o + i * 5 + 4, none⟩ = some (.slice (f i).1 e.asg.length (f i).2) := by
    apply Classical.axiomOfChoice (r := fun i (x : Option Addr × Nat) => ∀ e, es[i]? = some e → ∀ w', Ex w w' → ∃ b o, E = some ⟨b, o, none⟩ ∧ b < w'.heap.size ∧ w'.cell? ⟨b, o + i * 5, none⟩ = some (.int .i64 e.kind) ∧ w'.cell? ⟨b, o + i * 5 + 1, none⟩ = some (.int .i64 e.peer) ∧ w'.cell? ⟨b, o + i * 5 + 2, none⟩ = some (.int .i64 e.msg) ∧ w'.cell? ⟨b, o + i * 5 + 3, none⟩ = some (.int .i64 e.time) ∧ w'.cell? ⟨b, o + i * 5 + 4, none⟩ = some (.slice x.1 e.asg.length x.2))
    intro i
    cases hi : es[i]? with
    | none => exact ⟨(none, 0), fun e h => by cases h⟩
    | some e =>
      obtain ⟨b, o, h0, hb, A, c, k0, k1, k2, k3, k4, -⟩ := hE i e hi
      exact ⟨(A, c), fun e' h w' hx => by cases h; exact ⟨b, o, h0, Nat.lt_of_lt_of_le hb hx.below.size, (hx.below.cell hb).trans k0, (hx.below.cell hb).trans k1, (hx.below.cell hb).trans k2, (hx.below.cell hb).trans k3, (hx.below.cell hb).trans k4⟩⟩
  obtain ⟨f, hf⟩ := hf
  have d : Ev := ⟨0, 0, 0, 0, []⟩
  have h := anyEvent_c 34 #[] enters_m2 E es.length ec (fun j => .int .i64 ((es[j]?).getD d).kind) (fun j => .int .i64 ((es[j]?).getD d).peer) (fun j => .int .i64 ((es[j]?).getD d).msg) (fun j => .int .i64 ((es[j]?).getD d).time) (fun j => .slice (f j).1 ((es[j]?).getD d).asg.length (f j).2) (fun j => (fun e : Ev => decide (12 < e.asg.length)) ((es[j]?).getD d)) w hn
    (fun w' hx j hj => by
      obtain ⟨e, he⟩ := get_at' hj
      have := hf j e he w' hx
      rw [he]
      exact this)
    (fun w' hx j hj => smE_c _ _ _ w')
  rw [any_range (fun e : Ev => decide (12 < e.asg.length)) es es.length (Nat.le_refl _) d, List.take_length] at h
  exact h
theorem smanyV_c (vs : List (ByteArray × Int)) (V : Option Addr) (vc : Nat) (w : World) (hV : Row w V (varV vs)) (hn : vs.length ≤ 1000000000) :
    Calls Tryz.prog 31 #[.slice V vs.length vc, .func (.func 32) #[] #[]] w (Ret w (.bool (vs.any fun v => decide (30 < v.1.size)))) := by
  have h := anyVar_c 32 #[] enters_m1 V vs.length vc (fun j => .string ((vs[j]?).getD (ByteArray.empty, 0)).1) (fun j => .int .i64 ((vs[j]?).getD (ByteArray.empty, 0)).2) (fun j => (fun v : ByteArray × Int => decide (30 < v.1.size)) ((vs[j]?).getD (ByteArray.empty, 0))) w hn
    (fun w' hx j hj => by
      obtain ⟨v, hv⟩ := get_at' hj
      have := (hV.ex hx).var hv
      rw [hv]
      exact this)
    (fun w' hx j hj => smV_c _ _ w')
  rw [any_range (fun v : ByteArray × Int => decide (30 < v.1.size)) vs vs.length (Nat.le_refl _) (ByteArray.empty, 0), List.take_length] at h
  exact h
theorem small_long {t : List Pr} (h : 12 < t.length) : smallB t = false := by
  unfold smallB
  rw [decide_eq_false (by omega)]
  rfl
theorem small_bad {t : List Pr} {p : Nat} {x : Pr} (hx : t[p]? = some x) (h : smX x = true) : smallB t = false := by
  have : t.any smX = true := List.any_eq_true.2 ⟨x, List.mem_of_getElem? hx, h⟩
  unfold smallB
  rw [this]
  simp
theorem small_many {t : List Pr} {p : Nat} (h : 120 < sumN (t.take p)) : smallB t = false := by
  have := sumN_take' t p
  unfold smallB
  rw [decide_eq_false (show ¬ sumN t ≤ 120 by omega)]
  simp
theorem small_all {t : List Pr} (h0 : t.length ≤ 12) (h : sumN t ≤ 120) (hx : ∀ (q : Nat) (x : Pr), t[q]? = some x → smX x = false) : smallB t = true := by
  have : t.any smX = false := List.any_eq_false.2 fun x hm => by
    obtain ⟨q, hq⟩ := List.mem_iff_getElem?.1 hm
    simp [hx q x hq]
  unfold smallB
  rw [this, decide_eq_true h, decide_eq_true h0]
  rfl
set_option maxRecDepth 20000 in
set_option maxHeartbeats 3200000 in
theorem small_c (t : List Pr) (A : Option Addr) (c : Nat) (w : World) (hT : TcC w A t) (htl : t.length ≤ 281474976710656) (hbig : ∀ x, x ∈ t → x.evs.length ≤ 281474976710656) :
    Calls Tryz.prog 11 #[.agg #[.slice A t.length c]] w (Ret w (.bool (smallB t))) := by
  have HT : Hid (∀ w', Ex w w' → TcC w' A t) := fun w' hx => hT.ex hx
  have HBg : Hid (∀ (p : Nat) (x : Pr), t[p]? = some x → x.evs.length ≤ 281474976710656) := fun p x h => hbig x (List.mem_of_getElem? h)
  have H0 : Hid (12 < t.length → smallB t = false) := fun h => small_long h
  have H1 : Hid (∀ (p : Nat) (x : Pr), t[p]? = some x → smX x = true → smallB t = false) := fun p x h1 h2 => small_bad h1 h2
  have H2 : Hid (∀ p, 120 < sumN (t.take p) → smallB t = false) := fun p h => small_many h
  have H3 : Hid (t.length ≤ 12 → sumN t ≤ 120 → (∀ (q : Nat) (x : Pr), t[q]? = some x → smX x = false) → smallB t = true) := fun h0 h1 h2 => small_all h0 h1 h2
  generalize smallB t = R at *
  obtain ⟨W0, hW0⟩ : ∃ W0, W0 = w.alloc (.cells #[.slice A t.length c] 24) := ⟨_, rfl⟩
  have HX0 : Hid (Ex w W0) := by rw [hW0]; exact (Ex.refl w).alloc _
  have HB0 : Hid (∀ w', Ex W0 w' → Blk w' w.heap.size 24 [.slice A t.length c]) := fun w' hx => by
    have : Blk W0 w.heap.size 24 [.slice A t.length c] := by rw [hW0]; exact Blk.new w _ _
    exact this.ex hx
  have HW0 := Lib.hid hW0
  clear hT hbig hW0
  by_cases h12 : 12 < t.length
  · have s0 : decide (12 < (t.length : Int)) = true := decide_eq_true (by omega)
    have hR := H0.out h12
    subst hR
    clear h12
    go_enter Tryz.func11, Tryz.ntmps11
    go_wp2_with fail
    rw [← HW0.out]
    have x0 := (HB0.out _ (Ex.refl _)).cell 0
    have l0 := (HB0.out _ (Ex.refl _)).lt
    go_wp2_with fail
    go_ret
    exact Ret.mk rfl HX0.out
  have s0 : decide (12 < (t.length : Int)) = false := decide_eq_false (by omega)
  go_enter Tryz.func11, Tryz.ntmps11
  go_wp2_with fail
  rw [← HW0.out]
  have x0 := (HB0.out _ (Ex.refl _)).cell 0
  have l0 := (HB0.out _ (Ex.refl _)).lt
  go_wp2_with fail
  clear x0 l0
  go_loopw [3, 13] (fun v k wr => ∃ p : Nat, v = .int .i64 (sumN (t.take p) : Nat) ∧ k = .int .i64 p ∧ p ≤ t.length ∧ sumN (t.take p) ≤ 120 ∧ Hid ((∀ (q : Nat) (x : Pr), q < p → t[q]? = some x → smX x = false) ∧ Ex W0 wr)) (fun _ k _ => t.length - (intOf k).toNat)
  case atStart => exact ⟨0, rfl, rfl, Nat.zero_le _, Nat.zero_le _, Lib.hid ⟨fun q x h => absurd h (Nat.not_lt_zero _), Ex.refl _⟩⟩
  case round =>
    obtain ⟨p, rfl, rfl, hp, hsum, HH⟩ := hrel
    by_cases hpl : p < t.length
    · have m0 : (0 : Int) ≤ (p : Int) := by omega
      have m1 : (p : Int) < (t.length : Int) := by omega
      obtain ⟨x, hx⟩ := get_at' hpl
      have hbg := HBg.out p x hx
      obtain ⟨b, o, hA, hbl, V, vc, E, ec, g0, g1, g2, ⟨hV, hvc, hec⟩, hE⟩ := HT.out _ (HX0.out.trans HH.out.2) p x hx
      subst hA
      have HSn := Lib.hid (sumN_snoc' hx)
      have HMany : Hid (120 < sumN (t.take p) + x.evs.length → R = false) := fun h => H2.out (p + 1) (by rw [sumN_snoc' hx]; exact h)
      have HBad := Lib.hid (H1.out p x hx)
      have HGood : Hid (smX x = false → ∀ (q : Nat) (y : Pr), q < p + 1 → t[q]? = some y → smX y = false) := fun h q y hq hy => by
        by_cases hqp : q = p
        · subst hqp; rw [hx] at hy; cases hy; exact h
        · exact HH.out.1 q y (by omega) hy
      have HXp : Hid (smX x = (decide (12 < x.vars.length) || decide (30 < x.name.size) || x.vars.any (fun v => decide (30 < v.1.size)) || x.evs.any (fun e => decide (12 < e.asg.length)))) := Lib.hid rfl
      generalize sumN (t.take p) = S at *
      have w1 : IntKind.i64.wrap ((S : Int) + (x.evs.length : Int)) = (S : Int) + (x.evs.length : Int) := IntWalk.i64_in _ (by omega)
      have HAE := Lib.hid (fun w' (h : Ex wr w') (hn : x.evs.length ≤ 1000000000) => smanyE_c x.evs E ec w' (hE.ex h) hn)
      have HAV := Lib.hid (fun w' (h : Ex wr w') (hn : x.vars.length ≤ 1000000000) => smanyV_c x.vars V vc w' (hV.ex h) hn)
      clear hx hV hE hvc hec
      have hp1 : IntKind.i64.wrap ((p : Int) + 1) = (p : Int) + 1 := IntWalk.i64_in _ (by omega)
      clear hbg
      by_cases c2 : 12 < x.vars.length
      · have s2 : decide (12 < (x.vars.length : Int)) = true := decide_eq_true (by omega)
        have hR := HBad.out (by rw [HXp.out, decide_eq_true c2]; rfl)
        subst hR
        clear c2
        go_wp2_with fail
        go_ret
        exact Ret.mk rfl ((HX0.out.trans HH.out.2).alloc _)
      have s2 : decide (12 < (x.vars.length : Int)) = false := decide_eq_false (by omega)
      by_cases c3 : 30 < x.name.size
      · have s3 : decide (30 < (x.name.size : Int)) = true := decide_eq_true (by omega)
        have hR := HBad.out (by rw [HXp.out, decide_eq_true c3]; simp)
        subst hR
        clear c2 c3
        go_wp2_with fail
        go_ret
        exact Ret.mk rfl ((HX0.out.trans HH.out.2).alloc _)
      have s3 : decide (30 < (x.name.size : Int)) = false := decide_eq_false (by omega)
      by_cases c1 : 120 < S + x.evs.length
      · have s1 : decide (120 < (S : Int) + (x.evs.length : Int)) = true := decide_eq_true (by omega)
        have hR := HMany.out c1
        subst hR
        clear c1 c2 c3
        go_wp2_with fail
        go_ret
        exact Ret.mk rfl ((HX0.out.trans HH.out.2).alloc _)
      have s1 : decide (120 < (S : Int) + (x.evs.length : Int)) = false := decide_eq_false (by omega)
      have HAE2 := Lib.hid (fun w' (h : Ex wr w') => HAE.out w' h (by omega))
      have HAV2 := Lib.hid (fun w' (h : Ex wr w') => HAV.out w' h (by omega))
      have hSm : S + x.evs.length ≤ 120 := by omega
      rw [decide_eq_false c2, decide_eq_false c3] at HXp
      generalize x.evs.any (fun e => decide (12 < e.asg.length)) = aE at *
      generalize x.vars.any (fun v => decide (30 < v.1.size)) = aV at *
      clear c1 c2 c3 HAE HAV HMany
      have hb7 : Blk (wr.alloc (.cells #[.string x.name, .slice V x.vars.length vc, .slice E x.evs.length ec] 35)) wr.heap.size 35 [.string x.name, .slice V x.vars.length vc, .slice E x.evs.length ec] := Blk.new _ _ _
      have HB7 := Lib.hid hb7
      clear hb7
      cases aV with
      | true =>
        have hR := HBad.out (by rw [HXp.out]; rfl)
        subst hR
        go_wp2_with fail
        refine (HAV2.out _ ((Ex.refl _).alloc _)).mono ?_
        rintro e9 w' ⟨rfl, z, rfl⟩
        go_wp2_with fail
        go_ret
        exact Ret.mk rfl (((HX0.out.trans HH.out.2).alloc _).ext z)
      | false =>
        cases aE with
        | true =>
          have hR := HBad.out (by rw [HXp.out]; rfl)
          subst hR
          go_wp2_with fail
          refine (HAV2.out _ ((Ex.refl _).alloc _)).mono ?_
          rintro e9 w' ⟨rfl, z, rfl⟩
          have HXz := Lib.hid (((Ex.refl wr).alloc (.cells #[.string x.name, .slice V x.vars.length vc, .slice E x.evs.length ec] 35)).ext z)
          have q1 := (HB7.out.ex ⟨z, rfl⟩).cell 2
          have ql := (HB7.out.ex ⟨z, rfl⟩).lt
          go_wp2_with fail
          refine (HAE2.out _ HXz.out).mono ?_
          rintro e9 w' ⟨rfl, z2, rfl⟩
          go_wp2_with fail
          go_ret
          exact Ret.mk rfl (((HX0.out.trans HH.out.2).trans HXz.out).ext z2)
        | false =>
          have HGd := Lib.hid (HGood.out (by rw [HXp.out]; rfl))
          go_wp2_with fail
          refine (HAV2.out _ ((Ex.refl _).alloc _)).mono ?_
          rintro e9 w' ⟨rfl, z, rfl⟩
          have HXz := Lib.hid (((Ex.refl wr).alloc (.cells #[.string x.name, .slice V x.vars.length vc, .slice E x.evs.length ec] 35)).ext z)
          have q1 := (HB7.out.ex ⟨z, rfl⟩).cell 2
          have ql := (HB7.out.ex ⟨z, rfl⟩).lt
          go_wp2_with fail
          refine (HAE2.out _ HXz.out).mono ?_
          rintro e9 w' ⟨rfl, z2, rfl⟩
          go_wp2_with fail
          refine ⟨⟨p + 1, by rw [HSn.out]; simp, by go_num, by omega, by rw [HSn.out]; omega, Lib.hid ⟨HGd.out, (HH.out.2.trans HXz.out).ext z2⟩⟩, by simp [intOf]; omega⟩
    · obtain rfl : p = t.length := by omega
      have s2 : decide ((t.length : Int) < (t.length : Int)) = false := decide_eq_false (by omega)
      rw [List.take_length] at hsum
      have hR := H3.out (by omega) hsum fun q x h => HH.out.1 q x (List.getElem?_eq_some_iff.1 h).1 h
      subst hR
      go_wp2_with fail
      go_ret
      exact Ret.mk rfl (HX0.out.trans HH.out.2)
end
end Go.Proofs.YtpmponafjhnegaaGreatDoor
