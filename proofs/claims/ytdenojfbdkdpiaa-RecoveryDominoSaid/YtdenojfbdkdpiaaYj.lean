/-
  The law's few and short, walked. The law's few, walked. The law's example, walked. Names of checkpoints, walked on both sides.
  Conditions: as each theorem says.
-/
import Derived.Test.YtdenojfbdkdpiaaYi
namespace Go.Proofs.Ytdenojfbdkdpiaa
section
open Go.RowKit Go.Shelf
set_option maxRecDepth 20000 in
theorem few1_c (e : Ev) (B : Option Addr) (bc : Nat) (w : World) :
    Calls Try.prog 49 #[.agg #[.int .i64 e.kind, .int .i64 e.peer, .int .i64 e.msg, .int .i64 e.time, .slice B e.asg.length bc]] w (Ret w (.bool (decide (12 < e.asg.length)))) := by
  have s1 : decide (12 < (e.asg.length : Int)) = decide (12 < e.asg.length) := by congr 1; apply propext; omega
  have HS := Lib.hid s1
  clear s1
  go_enter Try.func49, Try.ntmps49
  go_wp2_with fail
  go_ret
  exact Ret.mk (by first | rfl | (rw [← HS.out]; rfl)) ((Ex.refl w).alloc _)
set_option maxRecDepth 20000 in
theorem few2_c (n : ByteArray) (v : Int) (w : World) :
    Calls Try.prog 51 #[.agg #[.string n, .int .i64 v]] w (Ret w (.bool (decide (40 < n.size)))) := by
  go_enter Try.func51, Try.ntmps51
  go_wp2_with fail
  go_ret
  exact Ret.mk (by first | rfl | (simp; omega)) ((Ex.refl w).alloc _)
set_option maxRecDepth 20000 in
theorem short1_c (A : Option Addr) (n c : Nat) (w : World) :
    Calls Try.prog 53 #[.slice A n c] w (Ret w (.bool (decide (70 < n)))) := by
  go_enter Try.func53, Try.ntmps53
  go_wp2_with fail
  go_ret
  exact Ret.mk (by first | rfl | (simp; omega)) (Ex.refl w)
theorem enters_w1 : ∀ args w, (callFunc 49 args).run Try.prog w = .ok (.enter 49 args) w := enters_of Try.func49 (by kernel_rfl) rfl
theorem enters_w2 : ∀ args w, (callFunc 51 args).run Try.prog w = .ok (.enter 51 args) w := enters_of Try.func51 (by kernel_rfl) rfl
theorem enters_s1 : ∀ args w, (callFunc 53 args).run Try.prog w = .ok (.enter 53 args) w := enters_of Try.func53 (by kernel_rfl) rfl
/-- a process with long lists -/
def fewX (x : Pr) : Bool := decide (12 < x.vars.length) || decide (40 < x.name.size) || x.evs.any (fun e => decide (12 < e.asg.length)) || x.vars.any (fun v => decide (40 < v.1.size))
def fewB (t : List Pr) (most : Nat) : Bool := decide (sumN t ≤ most) && !(t.any fewX) && decide (t.length ≤ 10)
def shortB (l : List (List Int)) : Bool := decide (l.length ≤ 12) && !(l.any fun r => decide (70 < r.length))
theorem short_small {l : List (List Int)} (h : shortB l = true) : LSm l := by
  unfold shortB at h
  simp only [Bool.and_eq_true, decide_eq_true_eq, Bool.not_eq_true', List.any_eq_false] at h
  exact ⟨by omega, fun r hr => by have := h.2 r hr; omega⟩
theorem few_small {t : List Pr} {most : Nat} (hm : most ≤ 80) (h : fewB t most = true) : TSm t ∧ sumN t ≤ most ∧ t.length ≤ 10 := by
  unfold fewB at h
  simp only [Bool.and_eq_true, decide_eq_true_eq, Bool.not_eq_true', List.any_eq_false] at h
  obtain ⟨⟨h1, h2⟩, h3⟩ := h
  have hev : ∀ (t : List Pr) x, x ∈ t → x.evs.length ≤ sumN t := fun t => by
    induction t with
    | nil => intro x hx; exact absurd hx List.not_mem_nil
    | cons y t ih =>
      intro x hx
      unfold sumN
      rcases List.mem_cons.1 hx with rfl | hx
      · omega
      · have := ih x hx; omega
  refine ⟨⟨by omega, by omega, fun x hx => ?_⟩, h1, h3⟩
  have hx2 := h2 x hx
  unfold fewX at hx2
  simp only [Bool.or_eq_true, decide_eq_true_eq, not_or, List.any_eq_true, not_exists, not_and] at hx2
  obtain ⟨⟨⟨g1, g2⟩, g3⟩, g4⟩ := hx2
  have := hev t x hx
  exact ⟨by omega, by omega, by omega, fun v hv => by have := g4 v hv; omega, fun e he => by have := g3 e he; omega⟩
theorem anyL_c (l : List (List Int)) (B : Option Addr) (lc : Nat) (w : World) (hL : LlC w B l) (hn : l.length ≤ 1000000000) :
    Calls Try.prog 52 #[.slice B l.length lc, .func (.func 53) #[] #[]] w (Ret w (.bool (l.any fun r => decide (70 < r.length)))) := by
  have hf : ∃ f : Nat → Option Addr × Nat, ∀ p r, l[p]? = some r → ∀ w', Ex w w' → ∃ b o, B = some ⟨b, o, none⟩ ∧ b < w'.heap.size ∧ w'.cell? ⟨b, o + p, none⟩ = some (.slice (f p).1 r.length (f p).2) := by
    apply Classical.axiomOfChoice (r := fun p (x : Option Addr × Nat) => ∀ r, l[p]? = some r → ∀ w', Ex w w' → ∃ b o, B = some ⟨b, o, none⟩ ∧ b < w'.heap.size ∧ w'.cell? ⟨b, o + p, none⟩ = some (.slice x.1 r.length x.2))
    intro p
    cases hp : l[p]? with
    | none => exact ⟨(none, 0), fun r h => by cases h⟩
    | some r =>
      obtain ⟨b, o, e, hb, A, c, h1, -, -⟩ := hL p r hp
      exact ⟨(A, c), fun r' h w' hx => by cases h; exact ⟨b, o, e, Nat.lt_of_lt_of_le hb hx.below.size, (hx.below.cell hb).trans h1⟩⟩
  obtain ⟨f, hf⟩ := hf
  have h := anyInts_c 53 #[] enters_s1 B l.length lc (fun j => .slice (f j).1 ((l[j]?).getD []).length (f j).2) (fun j => (fun r : List Int => decide (70 < r.length)) ((l[j]?).getD [])) w hn
    (fun w' hx j hj => by
      obtain ⟨r, hr⟩ := get_at hj
      obtain ⟨b, o, e, hb, hc⟩ := hf j r hr w' hx
      refine ⟨b, o, e, hb, ?_⟩
      rw [hr]
      exact hc)
    (fun w' hx j hj => short1_c _ _ _ w')
  rw [any_range (fun r : List Int => decide (70 < r.length)) l l.length (Nat.le_refl _) [], List.take_length] at h
  exact h
set_option maxRecDepth 20000 in
set_option maxHeartbeats 1600000 in
theorem short_c (l : List (List Int)) (B : Option Addr) (lc : Nat) (w : World) (hL : LlC w B l) :
    Calls Try.prog 12 #[.slice B l.length lc] w (Ret w (.bool (shortB l))) := by
  unfold shortB
  by_cases h : l.length ≤ 12
  · have HA := Lib.hid (anyL_c l B lc w hL (by omega))
    have s1 : decide ((l.length : Int) ≤ 12) = true := decide_eq_true (by omega)
    rw [decide_eq_true h]
    generalize (l.any fun r => decide (70 < r.length)) = ab at *
    clear hL h
    go_enter Try.func12, Try.ntmps12
    go_wp2_with fail
    refine (HA.out).mono ?_
    rintro e9 w' ⟨rfl, z, rfl⟩
    go_wp2_with fail
    go_ret
    exact Ret.mk (by first | rfl | simp) ((Ex.refl w).ext z)
  · have s1 : decide ((l.length : Int) ≤ 12) = false := decide_eq_false (by omega)
    rw [decide_eq_false h]
    clear hL h
    go_enter Try.func12, Try.ntmps12
    go_wp2_with fail
    go_ret
    exact Ret.mk (by first | rfl | simp) (Ex.refl w)
end
section
open Go.RowKit Go.Shelf
theorem sumN_snoc {t : List Pr} {p : Nat} {x : Pr} (h : t[p]? = some x) : sumN (t.take (p + 1)) = sumN (t.take p) + x.evs.length := by
  induction t generalizing p with
  | nil => simp at h
  | cons y t ih =>
    cases p with
    | zero => simp only [List.getElem?_cons_zero, Option.some.injEq] at h; subst h; simp [sumN]
    | succ p => have := ih (p := p) (by simpa using h); simp only [List.take_succ_cons, sumN, this]; omega
theorem sumN_take (t : List Pr) (p : Nat) : sumN (t.take p) ≤ sumN t := by
  induction t generalizing p with
  | nil => simp
  | cons y t ih =>
    cases p with
    | zero => simp [sumN]
    | succ p => have := ih p; simp only [List.take_succ_cons, sumN]; omega
theorem anyE_c (es : List Ev) (E : Option Addr) (ec : Nat) (w : World) (hE : EvsC w E es) (hn : es.length ≤ 1000000000) :
    Calls Try.prog 48 #[.slice E es.length ec, .func (.func 49) #[] #[]] w (Ret w (.bool (es.any fun e => decide (12 < e.asg.length)))) := by
  have hf : ∃ f : Nat → Option Addr × Nat, ∀ i e, es[i]? = some e → ∀ w', Ex w w' → ∃ b o, E = some ⟨b, o, none⟩ ∧ b < w'.heap.size ∧ w'.cell? ⟨b, o + i * 5, none⟩ = some (.int .i64 e.kind) ∧ w'.cell? ⟨b, o + i * 5 + 1, none⟩ = some (.int .i64 e.peer) ∧ w'.cell? ⟨b, o + i * 5 + 2, none⟩ = some (.int .i64 e.msg) ∧ w'.cell? ⟨b, o + i * 5 + 3, none⟩ = some (.int .i64 e.time) ∧ w'.cell? ⟨b, o + i * 5 + 4, none⟩ = some (.slice (f i).1 e.asg.length (f i).2) := by
    apply Classical.axiomOfChoice (r := fun i (x : Option Addr × Nat) => ∀ e, es[i]? = some e → ∀ w', Ex w w' → ∃ b o, E = some ⟨b, o, none⟩ ∧ b < w'.heap.size ∧ w'.cell? ⟨b, o + i * 5, none⟩ = some (.int .i64 e.kind) ∧ w'.cell? ⟨b, o + i * 5 + 1, none⟩ = some (.int .i64 e.peer) ∧ w'.cell? ⟨b, o + i * 5 + 2, none⟩ = some (.int .i64 e.msg) ∧ w'.cell? ⟨b, o + i * 5 + 3, none⟩ = some (.int .i64 e.time) ∧ w'.cell? ⟨b, o + i * 5 + 4, none⟩ = some (.slice x.1 e.asg.length x.2))
    intro i
    cases hi : es[i]? with
    | none => exact ⟨(none, 0), fun e h => by cases h⟩
    | some e =>
      obtain ⟨b, o, h0, hb, A, c, k0, k1, k2, k3, k4, -⟩ := hE i e hi
      exact ⟨(A, c), fun e' h w' hx => by cases h; exact ⟨b, o, h0, Nat.lt_of_lt_of_le hb hx.below.size, (hx.below.cell hb).trans k0, (hx.below.cell hb).trans k1, (hx.below.cell hb).trans k2, (hx.below.cell hb).trans k3, (hx.below.cell hb).trans k4⟩⟩
  obtain ⟨f, hf⟩ := hf
  have d : Ev := ⟨0, 0, 0, 0, []⟩
  have h := anyEvent_c 49 #[] enters_w1 E es.length ec (fun j => .int .i64 ((es[j]?).getD d).kind) (fun j => .int .i64 ((es[j]?).getD d).peer) (fun j => .int .i64 ((es[j]?).getD d).msg) (fun j => .int .i64 ((es[j]?).getD d).time) (fun j => .slice (f j).1 ((es[j]?).getD d).asg.length (f j).2) (fun j => (fun e : Ev => decide (12 < e.asg.length)) ((es[j]?).getD d)) w hn
    (fun w' hx j hj => by
      obtain ⟨e, he⟩ := get_at hj
      have := hf j e he w' hx
      rw [he]
      exact this)
    (fun w' hx j hj => few1_c _ _ _ w')
  rw [any_range (fun e : Ev => decide (12 < e.asg.length)) es es.length (Nat.le_refl _) d, List.take_length] at h
  exact h
theorem anyV_c (vs : List (ByteArray × Int)) (V : Option Addr) (vc : Nat) (w : World) (hV : Row w V (varV vs)) (hn : vs.length ≤ 1000000000) :
    Calls Try.prog 50 #[.slice V vs.length vc, .func (.func 51) #[] #[]] w (Ret w (.bool (vs.any fun v => decide (40 < v.1.size)))) := by
  have h := anyVar_c 51 #[] enters_w2 V vs.length vc (fun j => .string ((vs[j]?).getD (ByteArray.empty, 0)).1) (fun j => .int .i64 ((vs[j]?).getD (ByteArray.empty, 0)).2) (fun j => (fun v : ByteArray × Int => decide (40 < v.1.size)) ((vs[j]?).getD (ByteArray.empty, 0))) w hn
    (fun w' hx j hj => by
      obtain ⟨v, hv⟩ := get_at hj
      have := (hV.ex hx).var hv
      rw [hv]
      exact this)
    (fun w' hx j hj => few2_c _ _ w')
  rw [any_range (fun v : ByteArray × Int => decide (40 < v.1.size)) vs vs.length (Nat.le_refl _) (ByteArray.empty, 0), List.take_length] at h
  exact h
theorem few_bad {t : List Pr} {most p : Nat} {x : Pr} (hx : t[p]? = some x) (h : fewX x = true) : fewB t most = false := by
  have : t.any fewX = true := List.any_eq_true.2 ⟨x, List.mem_of_getElem? hx, h⟩
  unfold fewB
  rw [this]
  simp
theorem few_many {t : List Pr} {most p : Nat} (h : most < sumN (t.take p)) : fewB t most = false := by
  have := sumN_take t p
  unfold fewB
  rw [decide_eq_false (by omega)]
  simp
theorem few_all {t : List Pr} {most : Nat} (h : sumN t ≤ most) (hx : ∀ (q : Nat) (x : Pr), t[q]? = some x → fewX x = false) : fewB t most = decide (t.length ≤ 10) := by
  have : t.any fewX = false := List.any_eq_false.2 fun x hm => by
    obtain ⟨q, hq⟩ := List.mem_iff_getElem?.1 hm
    simp [hx q x hq]
  unfold fewB
  rw [this, decide_eq_true h]
  simp
set_option maxRecDepth 20000 in
set_option maxHeartbeats 3200000 in
theorem few_c (t : List Pr) (A : Option Addr) (c most : Nat) (w : World) (hT : TcC w A t) (hm : most ≤ 1000) (htl : t.length ≤ 281474976710656) (hbig : ∀ x, x ∈ t → x.evs.length ≤ 281474976710656) :
    Calls Try.prog 11 #[.agg #[.slice A t.length c], .int .i64 most] w (Ret w (.bool (fewB t most))) := by
  have HT : Hid (∀ w', Ex w w' → TcC w' A t) := fun w' hx => hT.ex hx
  have HBg : Hid (∀ (p : Nat) (x : Pr), t[p]? = some x → x.evs.length ≤ 281474976710656) := fun p x h => hbig x (List.mem_of_getElem? h)
  have H1 : Hid (∀ (p : Nat) (x : Pr), t[p]? = some x → fewX x = true → fewB t most = false) := fun p x h1 h2 => few_bad h1 h2
  have H2 : Hid (∀ p, most < sumN (t.take p) → fewB t most = false) := fun p h => few_many h
  have H3 : Hid (sumN t ≤ most → (∀ (q : Nat) (x : Pr), t[q]? = some x → fewX x = false) → fewB t most = decide (t.length ≤ 10)) := fun h1 h2 => few_all h1 h2
  generalize fewB t most = R at *
  obtain ⟨W0, hW0⟩ : ∃ W0, W0 = w.alloc (.cells #[.slice A t.length c] 24) := ⟨_, rfl⟩
  have HX0 : Hid (Ex w W0) := by rw [hW0]; exact (Ex.refl w).alloc _
  have HB0 : Hid (∀ w', Ex W0 w' → Blk w' w.heap.size 24 [.slice A t.length c]) := fun w' hx => by
    have : Blk W0 w.heap.size 24 [.slice A t.length c] := by rw [hW0]; exact Blk.new w _ _
    exact this.ex hx
  have HW0 := Lib.hid hW0
  clear hT hbig hW0
  go_enter Try.func11, Try.ntmps11
  go_wp2_with fail
  rw [← HW0.out]
  have x0 := (HB0.out _ (Ex.refl _)).cell 0
  have l0 := (HB0.out _ (Ex.refl _)).lt
  go_wp2_with fail
  clear x0 l0
  go_loopw [5, 11] (fun v k wr => ∃ p : Nat, v = .int .i64 (sumN (t.take p) : Nat) ∧ k = .int .i64 p ∧ p ≤ t.length ∧ sumN (t.take p) ≤ most ∧ Hid ((∀ (q : Nat) (x : Pr), q < p → t[q]? = some x → fewX x = false) ∧ Ex W0 wr)) (fun _ k _ => t.length - (intOf k).toNat)
  case atStart => exact ⟨0, rfl, rfl, Nat.zero_le _, Nat.zero_le _, Lib.hid ⟨fun q x h => absurd h (Nat.not_lt_zero _), Ex.refl _⟩⟩
  case round =>
    obtain ⟨p, rfl, rfl, hp, hsum, HH⟩ := hrel
    by_cases hpl : p < t.length
    · have m0 : (0 : Int) ≤ (p : Int) := by omega
      have m1 : (p : Int) < (t.length : Int) := by omega
      obtain ⟨x, hx⟩ := get_at hpl
      have hbg := HBg.out p x hx
      obtain ⟨b, o, hA, hbl, V, vc, E, ec, g0, g1, g2, ⟨hV, hvc, hec⟩, hE⟩ := HT.out _ (HX0.out.trans HH.out.2) p x hx
      subst hA
      have HSn := Lib.hid (sumN_snoc hx)
      have HMany : Hid (most < sumN (t.take p) + x.evs.length → R = false) := fun h => H2.out (p + 1) (by rw [sumN_snoc hx]; exact h)
      have HBad := Lib.hid (H1.out p x hx)
      have HGood : Hid (fewX x = false → ∀ (q : Nat) (y : Pr), q < p + 1 → t[q]? = some y → fewX y = false) := fun h q y hq hy => by
        by_cases hqp : q = p
        · subst hqp; rw [hx] at hy; cases hy; exact h
        · exact HH.out.1 q y (by omega) hy
      have HXp : Hid (fewX x = (decide (12 < x.vars.length) || decide (40 < x.name.size) || x.evs.any (fun e => decide (12 < e.asg.length)) || x.vars.any (fun v => decide (40 < v.1.size)))) := Lib.hid rfl
      generalize sumN (t.take p) = S at *
      have w1 : IntKind.i64.wrap ((S : Int) + (x.evs.length : Int)) = (S : Int) + (x.evs.length : Int) := IntWalk.i64_in _ (by omega)
      have HAE := Lib.hid (fun w' (h : Ex wr w') (hn : x.evs.length ≤ 1000000000) => anyE_c x.evs E ec w' (hE.ex h) hn)
      have HAV := Lib.hid (fun w' (h : Ex wr w') (hn : x.vars.length ≤ 1000000000) => anyV_c x.vars V vc w' (hV.ex h) hn)
      clear hx hV hE hvc hec
      have hp1 : IntKind.i64.wrap ((p : Int) + 1) = (p : Int) + 1 := IntWalk.i64_in _ (by omega)
      clear hbg
      by_cases c1 : most < S + x.evs.length
      · have s1 : decide ((most : Int) < (S : Int) + (x.evs.length : Int)) = true := decide_eq_true (by omega)
        have hR := HMany.out c1
        subst hR
        clear c1
        go_wp2_with fail
        go_ret
        exact Ret.mk rfl ((HX0.out.trans HH.out.2).alloc _)
      have s1 : decide ((most : Int) < (S : Int) + (x.evs.length : Int)) = false := decide_eq_false (by omega)
      by_cases c2 : 12 < x.vars.length
      · have s2 : decide (12 < (x.vars.length : Int)) = true := decide_eq_true (by omega)
        have hR := HBad.out (by rw [HXp.out, decide_eq_true c2]; rfl)
        subst hR
        clear c1 c2
        go_wp2_with fail
        go_ret
        exact Ret.mk rfl ((HX0.out.trans HH.out.2).alloc _)
      have s2 : decide (12 < (x.vars.length : Int)) = false := decide_eq_false (by omega)
      by_cases c3 : 40 < x.name.size
      · have s3 : decide (40 < (x.name.size : Int)) = true := decide_eq_true (by omega)
        have hR := HBad.out (by rw [HXp.out, decide_eq_true c3]; simp)
        subst hR
        clear c1 c2 c3
        go_wp2_with fail
        go_ret
        exact Ret.mk rfl ((HX0.out.trans HH.out.2).alloc _)
      have s3 : decide (40 < (x.name.size : Int)) = false := decide_eq_false (by omega)
      have HAE2 := Lib.hid (fun w' (h : Ex wr w') => HAE.out w' h (by omega))
      have HAV2 := Lib.hid (fun w' (h : Ex wr w') => HAV.out w' h (by omega))
      have hSm : S + x.evs.length ≤ most := by omega
      rw [decide_eq_false c2, decide_eq_false c3] at HXp
      generalize x.evs.any (fun e => decide (12 < e.asg.length)) = aE at *
      generalize x.vars.any (fun v => decide (40 < v.1.size)) = aV at *
      clear c1 c2 c3 HAE HAV HMany
      cases aE with
      | true =>
        have hR := HBad.out (by rw [HXp.out]; rfl)
        subst hR
        go_wp2_with fail
        refine (HAE2.out _ ((Ex.refl _).alloc _)).mono ?_
        rintro e9 w' ⟨rfl, z, rfl⟩
        go_wp2_with fail
        go_ret
        exact Ret.mk rfl (((HX0.out.trans HH.out.2).alloc _).ext z)
      | false =>
        have hb7 : Blk (wr.alloc (.cells #[.string x.name, .slice V x.vars.length vc, .slice E x.evs.length ec] 64)) wr.heap.size 64 [.string x.name, .slice V x.vars.length vc, .slice E x.evs.length ec] := Blk.new _ _ _
        have HB7 := Lib.hid hb7
        clear hb7
        cases aV with
        | true =>
          have hR := HBad.out (by rw [HXp.out]; rfl)
          subst hR
          go_wp2_with fail
          refine (HAE2.out _ ((Ex.refl _).alloc _)).mono ?_
          rintro e9 w' ⟨rfl, z, rfl⟩
          have HXz := Lib.hid (((Ex.refl wr).alloc (.cells #[.string x.name, .slice V x.vars.length vc, .slice E x.evs.length ec] 64)).ext z)
          have q1 := (HB7.out.ex ⟨z, rfl⟩).cell 1
          have ql := (HB7.out.ex ⟨z, rfl⟩).lt
          go_wp2_with fail
          refine (HAV2.out _ HXz.out).mono ?_
          rintro e9 w' ⟨rfl, z2, rfl⟩
          go_wp2_with fail
          go_ret
          exact Ret.mk rfl (((HX0.out.trans HH.out.2).trans HXz.out).ext z2)
        | false =>
          have HGd := Lib.hid (HGood.out (by rw [HXp.out]; rfl))
          go_wp2_with fail
          refine (HAE2.out _ ((Ex.refl _).alloc _)).mono ?_
          rintro e9 w' ⟨rfl, z, rfl⟩
          have HXz := Lib.hid (((Ex.refl wr).alloc (.cells #[.string x.name, .slice V x.vars.length vc, .slice E x.evs.length ec] 64)).ext z)
          have q1 := (HB7.out.ex ⟨z, rfl⟩).cell 1
          have ql := (HB7.out.ex ⟨z, rfl⟩).lt
          go_wp2_with fail
          refine (HAV2.out _ HXz.out).mono ?_
          rintro e9 w' ⟨rfl, z2, rfl⟩
          go_wp2_with fail
          refine ⟨⟨p + 1, by rw [HSn.out]; simp, by go_num, by omega, by rw [HSn.out]; omega, Lib.hid ⟨HGd.out, (HH.out.2.trans HXz.out).ext z2⟩⟩, by simp [intOf]; omega⟩
    · obtain rfl : p = t.length := by omega
      have s2 : decide ((t.length : Int) < (t.length : Int)) = false := decide_eq_false (by omega)
      have x0 := (HB0.out _ HH.out.2).cell 0
      have l0 := (HB0.out _ HH.out.2).lt
      rw [List.take_length] at hsum
      have hR := H3.out hsum fun q x h => HH.out.1 q x (List.getElem?_eq_some_iff.1 h).1 h
      subst hR
      have s3 : Hid (decide ((t.length : Int) ≤ 10) = decide (t.length ≤ 10)) := by
        show _ = _
        congr 1; apply propext; omega
      go_wp2_with fail
      go_ret
      exact Ret.mk (by rw [← s3.out]; rfl) (HX0.out.trans HH.out.2)
end
section
open Go.RowKit Go.Shelf
def exEv (k p m : Int) : Ev := ⟨k, p, m, 0, []⟩
def exT : List Pr := [⟨⟨#[97]⟩, [], [exEv 2 1 1, exEv 3 1 2]⟩, ⟨⟨#[98]⟩, [], [exEv 3 0 1, exEv 2 0 2]⟩]
theorem results_tr {fn : Func} {p g : Nat} {v : Value} {w : World} {tmps : Array Value} (h : fn.results = #[.cell p 24]) (hp : tmps.getD p undef = .pointer (some ⟨g, 0, none⟩)) (hB : Blk w g 24 [v]) :
    (results fn tmps).run Try.prog w = .ok (.agg #[v]) w := by
  have h0 : w.cell? ⟨g, 0, none⟩ = some v := hB.cell 0
  rw [Array.getD_eq_getD_getElem?] at hp
  simp [results, h, hp, go_sem, h0]
theorem ex_evs {w : World} {g : Nat} (e f : Ev) (he : e.asg = []) (hf : f.asg = []) (hB : Blk w g 61 [.int .i64 e.kind, .int .i64 e.peer, .int .i64 e.msg, .int .i64 e.time, .slice none 0 0, .int .i64 f.kind, .int .i64 f.peer, .int .i64 f.msg, .int .i64 f.time, .slice none 0 0]) : EvsC w (some ⟨g, 0, none⟩) [e, f] := fun i x hx => by
  refine ⟨g, 0, rfl, hB.lt, ?_⟩
  match i, hx with
  | 0, hx =>
    cases hx
    exact ⟨none, 0, hB.cell 0, hB.cell 1, hB.cell 2, hB.cell 3, by rw [he]; exact hB.cell 4, .inl (by rw [he]; rfl), by rw [he]; exact Nat.le_refl _⟩
  | 1, hx =>
    cases hx
    exact ⟨none, 0, hB.cell 5, hB.cell 6, hB.cell 7, hB.cell 8, by rw [hf]; exact hB.cell 9, .inl (by rw [hf]; rfl), by rw [hf]; exact Nat.le_refl _⟩
  | i + 2, hx => simp at hx
set_option maxRecDepth 20000 in
theorem example_c (w : World) : Calls Try.prog 47 #[] w (fun e w' => ∃ A, e = .returned (.agg #[.slice A 2 2]) ∧ TcC w' A exT ∧ Ex w w') := by
  go_enter Try.func47, Try.ntmps47
  go_wp2_with fail
  have hW : ∀ W : World, Blk W w.heap.size 24 [.slice (some ⟨w.heap.size + 1 + 1 + 1, 0, none⟩) 2 2] → Blk W (w.heap.size + 1) 61 [.int .i64 2, .int .i64 1, .int .i64 1, .int .i64 0, .slice none 0 0, .int .i64 3, .int .i64 1, .int .i64 2, .int .i64 0, .slice none 0 0] → Blk W (w.heap.size + 1 + 1) 61 [.int .i64 3, .int .i64 0, .int .i64 1, .int .i64 0, .slice none 0 0, .int .i64 2, .int .i64 0, .int .i64 2, .int .i64 0, .slice none 0 0] → Blk W (w.heap.size + 1 + 1 + 1) 64 [.string ⟨#[97]⟩, .slice none 0 0, .slice (some ⟨w.heap.size + 1, 0, none⟩) 2 2, .string ⟨#[98]⟩, .slice none 0 0, .slice (some ⟨w.heap.size + 1 + 1, 0, none⟩) 2 2] → TcC W (some ⟨w.heap.size + 1 + 1 + 1, 0, none⟩) exT := fun W h0 h1 h2 h3 p x hx => by
    refine ⟨w.heap.size + 1 + 1 + 1, 0, rfl, h3.lt, ?_⟩
    match p, hx with
    | 0, hx =>
      cases hx
      exact ⟨none, 0, some ⟨w.heap.size + 1, 0, none⟩, 2, h3.cell 0, h3.cell 1, h3.cell 2, ⟨.inl rfl, Nat.le_refl _, Nat.le_refl _⟩, ex_evs (exEv 2 1 1) (exEv 3 1 2) rfl rfl h1⟩
    | 1, hx =>
      cases hx
      exact ⟨none, 0, some ⟨w.heap.size + 1 + 1, 0, none⟩, 2, h3.cell 3, h3.cell 4, h3.cell 5, ⟨.inl rfl, Nat.le_refl _, Nat.le_refl _⟩, ex_evs (exEv 3 0 1) (exEv 2 0 2) rfl rfl h2⟩
    | p + 2, hx => simp [exT] at hx
  have k0 := (((Blk.new w 24 [.slice (some ⟨w.heap.size + 1 + 1 + 1, 0, none⟩) 2 2]).alloc (.cells #[.int .i64 2, .int .i64 1, .int .i64 1, .int .i64 0, .slice none 0 0, .int .i64 3, .int .i64 1, .int .i64 2, .int .i64 0, .slice none 0 0] 61)).alloc (.cells #[.int .i64 3, .int .i64 0, .int .i64 1, .int .i64 0, .slice none 0 0, .int .i64 2, .int .i64 0, .int .i64 2, .int .i64 0, .slice none 0 0] 61)).alloc (.cells #[.string ⟨#[97]⟩, .slice none 0 0, .slice (some ⟨w.heap.size + 1, 0, none⟩) 2 2, .string ⟨#[98]⟩, .slice none 0 0, .slice (some ⟨w.heap.size + 1 + 1, 0, none⟩) 2 2] 64)
  refine bodyPost_ret (results_tr rfl rfl k0) rfl ⟨_, rfl, hW _ k0 ?_ ?_ ?_, ((((Ex.refl w).alloc _).alloc _).alloc _).alloc _⟩
  · refine Blk.alloc (Blk.alloc ?_ _) _
    simpa using Blk.new (w.alloc (.cells #[.slice (some ⟨w.heap.size + 1 + 1 + 1, 0, none⟩) 2 2] 24)) 61 [.int .i64 2, .int .i64 1, .int .i64 1, .int .i64 0, .slice none 0 0, .int .i64 3, .int .i64 1, .int .i64 2, .int .i64 0, .slice none 0 0]
  · refine Blk.alloc ?_ _
    simpa using Blk.new ((w.alloc (.cells #[.slice (some ⟨w.heap.size + 1 + 1 + 1, 0, none⟩) 2 2] 24)).alloc (.cells #[.int .i64 2, .int .i64 1, .int .i64 1, .int .i64 0, .slice none 0 0, .int .i64 3, .int .i64 1, .int .i64 2, .int .i64 0, .slice none 0 0] 61)) 61 [.int .i64 3, .int .i64 0, .int .i64 1, .int .i64 0, .slice none 0 0, .int .i64 2, .int .i64 0, .int .i64 2, .int .i64 0, .slice none 0 0]
  · simpa using Blk.new (((w.alloc (.cells #[.slice (some ⟨w.heap.size + 1 + 1 + 1, 0, none⟩) 2 2] 24)).alloc (.cells #[.int .i64 2, .int .i64 1, .int .i64 1, .int .i64 0, .slice none 0 0, .int .i64 3, .int .i64 1, .int .i64 2, .int .i64 0, .slice none 0 0] 61)).alloc (.cells #[.int .i64 3, .int .i64 0, .int .i64 1, .int .i64 0, .slice none 0 0, .int .i64 2, .int .i64 0, .int .i64 2, .int .i64 0, .slice none 0 0] 61)) 64 [.string ⟨#[97]⟩, .slice none 0 0, .slice (some ⟨w.heap.size + 1, 0, none⟩) 2 2, .string ⟨#[98]⟩, .slice none 0 0, .slice (some ⟨w.heap.size + 1 + 1, 0, none⟩) 2 2]
end
section
open Go.RowKit Go.Shelf
/-- there is a checkpoint of this name -/
def ckB (l : List (List Int)) (p i : Int) : Bool := decide (0 ≤ p) && (decide (p < (l.length : Int)) && (decide (1 ≤ i) && decide (i ≤ ((l.getD p.toNat []).length : Int))))
set_option maxRecDepth 20000 in
set_option maxHeartbeats 1600000 in
theorem pCheckpoint_c (l : List (List Int)) (B : Option Addr) (lc : Nat) (p i : Int) (w : World) (hL : LlC w B l) :
    Calls Try.prog 54 #[.slice B l.length lc, .agg #[.int .i64 p, .int .i64 i]] w (Ret w (.bool (ckB l p i))) := by
  have HX : Hid (∀ n, Ex w ((w.alloc (.cells #[.int .i64 p, .int .i64 i] 27)).drewN n)) := fun n => ((Ex.refl w).alloc _).drewN n
  unfold ckB
  by_cases h1 : 0 ≤ p
  · have s1 : decide ((0 : Int) ≤ p) = true := decide_eq_true h1
    by_cases h2 : p < (l.length : Int)
    · have s2 : decide (p < (l.length : Int)) = true := decide_eq_true h2
      by_cases h3 : 1 ≤ i
      · have s3 : decide (1 ≤ i) = true := decide_eq_true h3
        obtain ⟨q, rfl⟩ := Int.eq_ofNat_of_zero_le h1
        obtain ⟨r, hr⟩ := get_at (show q < l.length by omega)
        obtain ⟨b, o, hB, hbl, A3, c3, g0, -, -⟩ := hL q r hr
        subst hB
        have hg : l.getD ((q : Int)).toNat [] = r := by rw [List.getD_eq_getElem?_getD, show ((q : Int)).toNat = q by omega, hr]; rfl
        rw [s1, s2, s3, hg]
        generalize hd : decide (i ≤ (r.length : Int)) = db at *
        clear hL hr hg h1
        go_enter Try.func54, Try.ntmps54
        go_wp2_with fail
        go_quiet (fail)
        go_wp2_with fail
        go_ret
        exact Ret.mk (by first | rfl | simp) (HX.out _)
      · have s3 : decide (1 ≤ i) = false := decide_eq_false h3
        rw [s1, s2, s3]
        clear hL h1 h2 h3
        go_enter Try.func54, Try.ntmps54
        go_wp2_with fail
        go_quiet (fail)
        go_wp2_with fail
        go_ret
        exact Ret.mk (by first | rfl | simp) (HX.out _)
    · have s2 : decide (p < (l.length : Int)) = false := decide_eq_false h2
      rw [s1, s2]
      clear hL h1 h2
      go_enter Try.func54, Try.ntmps54
      go_wp2_with fail
      go_quiet (fail)
      go_wp2_with fail
      go_ret
      exact Ret.mk (by first | rfl | simp) (HX.out _)
  · have s1 : decide ((0 : Int) ≤ p) = false := decide_eq_false h1
    rw [s1]
    clear hL h1
    go_enter Try.func54, Try.ntmps54
    go_wp2_with fail
    go_quiet (fail)
    go_wp2_with fail
    go_ret
    exact Ret.mk (by first | rfl | simp) (HX.out _)
set_option maxRecDepth 20000 in
set_option maxHeartbeats 1600000 in
theorem rCheckpoint_c (l : List (List Int)) (B : Option Addr) (lc : Nat) (p i : Int) (w : World) (hL : LlC w B l) :
    Calls Try.prog 15 #[.slice B l.length lc, .agg #[.int .i64 p, .int .i64 i]] w (Ret w (.bool (ckB l p i))) := by
  have HX : Hid (∀ n, Ex w ((w.alloc (.cells #[.int .i64 p, .int .i64 i] 27)).drewN n)) := fun n => ((Ex.refl w).alloc _).drewN n
  unfold ckB
  by_cases h1 : 0 ≤ p
  · have s1 : decide ((0 : Int) ≤ p) = true := decide_eq_true h1
    by_cases h2 : p < (l.length : Int)
    · have s2 : decide (p < (l.length : Int)) = true := decide_eq_true h2
      by_cases h3 : 1 ≤ i
      · have s3 : decide (1 ≤ i) = true := decide_eq_true h3
        obtain ⟨q, rfl⟩ := Int.eq_ofNat_of_zero_le h1
        obtain ⟨r, hr⟩ := get_at (show q < l.length by omega)
        obtain ⟨b, o, hB, hbl, A3, c3, g0, -, -⟩ := hL q r hr
        subst hB
        have hg : l.getD ((q : Int)).toNat [] = r := by rw [List.getD_eq_getElem?_getD, show ((q : Int)).toNat = q by omega, hr]; rfl
        rw [s1, s2, s3, hg]
        generalize hd : decide (i ≤ (r.length : Int)) = db at *
        clear hL hr hg h1
        go_enter Try.func15, Try.ntmps15
        go_wp2_with fail
        go_quiet (fail)
        go_wp2_with fail
        go_ret
        exact Ret.mk (by first | rfl | simp) (HX.out _)
      · have s3 : decide (1 ≤ i) = false := decide_eq_false h3
        rw [s1, s2, s3]
        clear hL h1 h2 h3
        go_enter Try.func15, Try.ntmps15
        go_wp2_with fail
        go_quiet (fail)
        go_wp2_with fail
        go_ret
        exact Ret.mk (by first | rfl | simp) (HX.out _)
    · have s2 : decide (p < (l.length : Int)) = false := decide_eq_false h2
      rw [s1, s2]
      clear hL h1 h2
      go_enter Try.func15, Try.ntmps15
      go_wp2_with fail
      go_quiet (fail)
      go_wp2_with fail
      go_ret
      exact Ret.mk (by first | rfl | simp) (HX.out _)
  · have s1 : decide ((0 : Int) ≤ p) = false := decide_eq_false h1
    rw [s1]
    clear hL h1
    go_enter Try.func15, Try.ntmps15
    go_wp2_with fail
    go_quiet (fail)
    go_wp2_with fail
    go_ret
    exact Ret.mk (by first | rfl | simp) (HX.out _)
end
end Go.Proofs.Ytdenojfbdkdpiaa
