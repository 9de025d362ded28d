/-
  The program's events, an iterator over the events of a trace, walked. Events in their order as lists, and the faults of their numbers.
  Conditions: as each theorem says.
-/
import Derived.RangeFuncNested
import Derived.RangeFuncBound
import Derived.RangeFuncCalls
import Derived.RangeFuncLeaves
import Derived.Shelf.Abstract
import Derived.Shelf.RegionOpen
import Derived.WalkKit
import Derived.OwnWalkIn
import Derived.TacticsInMore
import Derived.LoopNIn
import Derived.LoopIn
import Derived.Test.YtpmponafjhnegaaGreatDoorHa
import Derived.Test.YtpmponafjhnegaaGreatDoorYb
namespace Go.Proofs.YtpmponafjhnegaaGreatDoor
section
open Go.RowKit Go.Shelf
/-- an event as it is handed on: its place, and where its assignments lie -/
structure Item where
  p : Nat
  i : Nat
  e : Ev
  B : Option Addr
  bc : Nat
def Item.pl (x : Item) : Nat × Nat := (x.p, x.i)
/-- it is an event of the trace in memory -/
structure Good (t : List Pr) (w : World) (x : Item) : Prop where
  at_ : evAt t x.p x.i = some x.e
  row : Row w x.B (asgV x.e.asg)
  cap : x.e.asg.length ≤ x.bc
abbrev GItem (t : List Pr) (w : World) := { x : Item // Good t w x }
def encI {t : List Pr} {w : World} (x : GItem t w) : Array Value := #[.agg #[.int .i64 x.1.p, .int .i64 ((x.1.i : Int) + 1)], .agg #[.int .i64 x.1.e.kind, .int .i64 x.1.e.peer, .int .i64 x.1.e.msg, .int .i64 x.1.e.time, .slice x.1.B x.1.e.asg.length x.1.bc]]
/-- the places ahead of (p, j) -/
def plL (t : List Pr) (p j : Nat) : List (Nat × Nat) := ((List.range p).flatMap fun q => (List.range (evN t q)).map fun i => (q, i)) ++ (List.range j).map fun i => (p, i)
theorem plL_step (t : List Pr) (p j : Nat) : plL t p (j + 1) = plL t p j ++ [(p, j)] := by
  unfold plL
  rw [List.range_succ, List.map_append, List.append_assoc]
  rfl
theorem plL_next (t : List Pr) (p : Nat) : plL t (p + 1) 0 = plL t p (evN t p) := by
  unfold plL
  rw [List.range_succ, List.flatMap_append]
  simp
theorem mem_plL {t : List Pr} {p j : Nat} {x : Nat × Nat} : x ∈ plL t p j ↔ (x.1 < p ∧ x.2 < evN t x.1) ∨ (x.1 = p ∧ x.2 < j) := by
  unfold plL
  obtain ⟨a, b⟩ := x
  simp only [List.mem_append, List.mem_flatMap, List.mem_map, List.mem_range, Prod.mk.injEq]
  constructor
  · rintro (⟨q, h1, i, h2, rfl, rfl⟩ | ⟨i, h1, rfl, rfl⟩)
    · exact .inl ⟨h1, h2⟩
    · exact .inr ⟨rfl, h1⟩
  · rintro (⟨h1, h2⟩ | ⟨rfl, h1⟩)
    · exact .inl ⟨a, h1, b, h2, rfl, rfl⟩
    · exact .inr ⟨b, h1, rfl, rfl⟩
theorem plL_len_mono (t : List Pr) {p j k : Nat} (h : j ≤ k) : (plL t p j).length ≤ (plL t p k).length := by
  unfold plL
  simp only [List.length_append, List.length_map, List.length_range]
  omega
theorem plL_len_next (t : List Pr) {p q : Nat} (h : p ≤ q) : (plL t p 0).length ≤ (plL t q 0).length := by
  induction q with
  | zero => rw [show p = 0 by omega]; exact Nat.le_refl _
  | succ q ih =>
    by_cases hp : p = q + 1
    · rw [hp]; exact Nat.le_refl _
    · refine Nat.le_trans (ih (by omega)) ?_
      rw [plL_next]
      exact plL_len_mono t (Nat.zero_le _)
theorem plL_lt {t : List Pr} {p j : Nat} (h : j < evN t p) : (plL t p j).length < (plL t t.length 0).length := by
  have hp : p < t.length := Nat.lt_of_not_le fun hle => by
    unfold evN at h
    rw [List.getElem?_eq_none hle] at h
    simp at h
  have h1 : (plL t p j).length + 1 = (plL t p (j + 1)).length := by rw [plL_step]; simp
  have h2 := plL_len_mono t (p := p) (show j + 1 ≤ evN t p from h)
  have h3 := plL_len_next t (show p + 1 ≤ t.length from hp)
  rw [plL_next] at h3
  omega
/-- all have come -/
def AllI {t : List Pr} {w : World} (xs : List (GItem t w)) : Prop := xs.map (fun x => x.1.pl) = plL t t.length 0
/-- those up to some event have come -/
def SomeI {t : List Pr} {w : World} (xs : List (GItem t w)) : Prop := ∃ p j, j < evN t p ∧ xs.map (fun x => x.1.pl) = plL t p j ++ [(p, j)]
attribute [local go_sem] Oper.semAt_some
set_option maxHeartbeats 1600000 in
theorem events_in (F : Fence) (n : Nat) (h1 : F.fn 89) (hro : F.round = none) (A : Option Addr) (l c : Nat) (w : World) :
    CallsIn F n Tryz.prog 89 #[.agg #[.slice A l c]] w fun e w' => e = .returned (.func (.func 117) #[] #[.pointer (some ⟨w.heap.size, 0, none⟩)]) ∧ w' = w.alloc (.cells #[.slice A l c] 24) := by
  refine callsIn_of_wp Tryz.func89 rfl h1 ?_ hro
  simp only [Tryz.ntmps89, List.size_toArray, List.length_cons, List.length_nil, Nat.reduceAdd, Nat.reduceSub, Array.replicate_succ, Array.replicate_zero, List.push_toArray, List.append_toArray, List.nil_append, List.cons_append]
  gi_wp2
  go_ret
  exact ⟨rfl, rfl⟩
set_option maxRecDepth 100000 in
set_option maxHeartbeats 3200000 in
theorem events1_in (F : Fence) (n : Nat) (h6 : F.fn 117) (hro : F.round = none) (hn : 1 ≤ n) (l : Nat) (t : List Pr) (A : Option Addr) (c Bn : Nat) (w0 : World) (hT : TcC w0 A t) (hs : TSm t) (J Jx : List (GItem t w0) → World → Prop)
    (W : World) (hJ : AbidesFrom W.heap.size J)
    (hY : ∀ pre x W, J pre W → pre.length < (plL t t.length 0).length → YieldAt F (n - 1) Tryz.prog l (encI x) W fun e W' =>
      (e = .returned (.bool true) ∧ J (pre ++ [x]) W' ∧ Below w0.heap.size W W') ∨ (e = .returned (.bool false) ∧ Jx (pre ++ [x]) W'))
    (hBn : W.cell? ⟨Bn, 0, none⟩ = some (.slice A t.length c)) (hX : Ex w0 W) (h0 : J [] W) :
    CallsIn F n Tryz.prog 117 #[.func (.yield l) #[] #[], .pointer (some ⟨Bn, 0, none⟩)] W fun e W' => (∃ v, e = .returned v) ∧
      ((∃ ys, AllI ys ∧ J ys W') ∨ (∃ pre, SomeI pre ∧ Jx pre W')) := by
  have hl := hs.procs
  have HEl : Hid (∀ (p : Nat) (x : Pr), t[p]? = some x → x.evs.length ≤ 100000) := fun p x hx => (hs.each x (List.mem_of_getElem? hx)).2.2.1
  have HT : Hid (∀ w', Ex w0 w' → TcC w' A t) := fun w' hx => hT.ex hx
  have HJ : Hid (∀ pre (w' : World) (o : Obj), W.heap.size ≤ w'.heap.size → J pre w' → J pre (w'.alloc o)) := fun pre w' o _ h => hJ pre w' _ none h (World.grownBy_alloc w' o none) (fun r e => by cases e)
  have HY := Lib.hid hY
  clear hT hs hJ hY
  refine callsIn_of_wp Tryz.func117 rfl h6 ?_ hro
  simp only [Tryz.ntmps117, List.size_toArray, List.length_cons, List.length_nil, Nat.reduceAdd, Nat.reduceSub, Array.replicate_succ, Array.replicate_zero, List.push_toArray, List.append_toArray, List.nil_append, List.cons_append]
  gi_wp2
  gi_loopw [10] (fun k wr => ∃ (p : Nat) (pre : List (GItem t w0)), k = .int .i64 p ∧ p ≤ t.length ∧ Hid (pre.map (fun x => x.1.pl) = plL t p 0 ∧ J pre wr ∧ Ex w0 wr ∧ W.heap.size ≤ wr.heap.size)) (fun k _ => t.length - (intOf k).toNat)
  case atStart => exact ⟨0, [], rfl, Nat.zero_le _, Lib.hid ⟨rfl, h0, hX, Nat.le_refl _⟩⟩
  case round =>
    obtain ⟨p, pre, rfl, hp, HH⟩ := hrel
    by_cases hpl : p < t.length
    · have m0 : (0 : Int) ≤ (p : Int) := by omega
      have m1 : (p : Int) < (t.length : Int) := by omega
      obtain ⟨x, hx⟩ : ∃ x, t[p]? = some x := ⟨_, List.getElem?_eq_getElem hpl⟩
      have hel := HEl.out p x hx
      have hev := evN_at hx
      obtain ⟨b, o, hA, hbw, V, vc, E, ec, q0, q1, q2, -, hE⟩ := HT.out _ (Ex.refl _) p x hx
      have g0 := (HH.out.2.2.1.below.cell (p := ⟨b, o + p * 3, none⟩) hbw).trans q0
      have g1 := (HH.out.2.2.1.below.cell (p := ⟨b, o + p * 3 + 1, none⟩) hbw).trans q1
      have g2 := (HH.out.2.2.1.below.cell (p := ⟨b, o + p * 3 + 2, none⟩) hbw).trans q2
      have hbl : b < wr.heap.size := Nat.lt_of_lt_of_le hbw HH.out.2.2.1.below.size
      subst hA
      have Hx := Lib.hid hx
      have HE := Lib.hid hE
      clear hx hE q0 q1 q2
      have HH2 : Hid (pre.map (fun x => x.1.pl) = plL t p 0 ∧ J pre (wr.alloc (.cells #[.string x.name, .slice V x.vars.length vc, .slice E x.evs.length ec] 35)) ∧ Ex w0 (wr.alloc (.cells #[.string x.name, .slice V x.vars.length vc, .slice E x.evs.length ec] 35)) ∧ W.heap.size ≤ (wr.alloc (.cells #[.string x.name, .slice V x.vars.length vc, .slice E x.evs.length ec] 35)).heap.size) :=
        ⟨HH.out.1, HJ.out _ _ _ HH.out.2.2.2 HH.out.2.1, HH.out.2.2.1.alloc _, by have := HH.out.2.2.2; simp; omega⟩
      gi_wp2
      clear g0 g1 g2 HH
      gi_loopw [18] (fun k wr => ∃ (j : Nat) (pre : List (GItem t w0)), k = .int .i64 j ∧ j ≤ x.evs.length ∧ Hid (pre.map (fun x => x.1.pl) = plL t p j ∧ J pre wr ∧ Ex w0 wr ∧ W.heap.size ≤ wr.heap.size)) (fun k _ => x.evs.length - (intOf k).toNat)
      case atStart => exact ⟨0, pre, rfl, Nat.zero_le _, HH2⟩
      case round =>
        clear HH2
        obtain ⟨j, pre, rfl, hj, HH⟩ := hrel
        by_cases hjl : j < x.evs.length
        · have m2 : (0 : Int) ≤ (j : Int) := by omega
          have m3 : (j : Int) < (x.evs.length : Int) := by omega
          obtain ⟨e, he⟩ : ∃ e, x.evs[j]? = some e := ⟨_, List.getElem?_eq_getElem hjl⟩
          obtain ⟨b2, o2, hA2, hbw2, B, bc, q0, q1, q2, q3, q4, q5⟩ := HE.out j e he
          have k0 := (HH.out.2.2.1.below.cell (p := ⟨b2, o2 + j * 5, none⟩) hbw2).trans q0
          have k1 := (HH.out.2.2.1.below.cell (p := ⟨b2, o2 + j * 5 + 1, none⟩) hbw2).trans q1
          have k2 := (HH.out.2.2.1.below.cell (p := ⟨b2, o2 + j * 5 + 2, none⟩) hbw2).trans q2
          have k3 := (HH.out.2.2.1.below.cell (p := ⟨b2, o2 + j * 5 + 3, none⟩) hbw2).trans q3
          have k4 := (HH.out.2.2.1.below.cell (p := ⟨b2, o2 + j * 5 + 4, none⟩) hbw2).trans q4
          have hbl2 : b2 < wr.heap.size := Nat.lt_of_lt_of_le hbw2 HH.out.2.2.1.below.size
          subst hA2
          have hG : Good t w0 ⟨p, j, e, B, bc⟩ := ⟨evAt_at Hx.out he, q5.1, q5.2⟩
          clear q0 q1 q2 q3 q4 q5
          have hJ2 := HJ.out pre wr (.cells #[.int .i64 e.kind, .int .i64 e.peer, .int .i64 e.msg, .int .i64 e.time, .slice B e.asg.length bc] 38) HH.out.2.2.2 HH.out.2.1
          obtain ⟨fn, tmps, assign, body, hy, hR⟩ := HY.out pre ⟨⟨p, j, e, B, bc⟩, hG⟩ _ hJ2 (by rw [← List.length_map (f := fun x : GItem t w0 => x.1.pl), HH.out.1]; exact plL_lt (by omega))
          have e1 : IntKind.i64.wrap ((j : Int) + 1) = (j : Int) + 1 := IntWalk.i64_in _ (by omega)
          have HX2 := Lib.hid (HH.out.2.2.1.alloc (.cells #[.int .i64 e.kind, .int .i64 e.peer, .int .i64 e.msg, .int .i64 e.time, .slice B e.asg.length bc] 38))
          unfold encI at hy
          dsimp only at hy
          clear he hJ2
          gi_wp2
          refine hR.mono ?_
          rintro e9 W3 (⟨rfl, hJ3, hk3⟩ | ⟨rfl, hJx3⟩)
          · have HN : Hid ((pre ++ [(⟨⟨p, j, e, B, bc⟩, hG⟩ : GItem t w0)]).map (fun x => x.1.pl) = plL t p (j + 1) ∧ J (pre ++ [⟨⟨p, j, e, B, bc⟩, hG⟩]) W3 ∧ Ex w0 W3 ∧ W.heap.size ≤ W3.heap.size) :=
              ⟨by rw [List.map_append, HH.out.1, plL_step]; rfl, hJ3, Ex.of (HX2.out.below.trans hk3), by have h1 := HH.out.2.2.2; have h2 := hk3.size; simp at h2; omega⟩
            clear hJ3 hk3
            gi_wp2
            refine ⟨⟨j + 1, pre ++ [⟨⟨p, j, e, B, bc⟩, hG⟩], by go_num, by omega, HN⟩, by simp [intOf]; omega⟩
          · have HN : Hid (SomeI (pre ++ [(⟨⟨p, j, e, B, bc⟩, hG⟩ : GItem t w0)]) ∧ Jx (pre ++ [⟨⟨p, j, e, B, bc⟩, hG⟩]) W3) := ⟨⟨p, j, by omega, by rw [List.map_append, HH.out.1]; rfl⟩, hJx3⟩
            clear hJx3
            gi_wp2
            refine bodyPost_ret (results_none rfl _ _ _) rfl ?_
            exact ⟨⟨_, rfl⟩, .inr ⟨_, HN.out.1, HN.out.2⟩⟩
        · have hje : j = evN t p := by omega
          have s3 : decide ((j : Int) < (x.evs.length : Int)) = false := decide_eq_false (by omega)
          have HN : Hid (pre.map (fun x => x.1.pl) = plL t (p + 1) 0) := by rw [plL_next, ← hje]; exact HH.out.1
          clear hje
          gi_wp2
          go_roundw
          case rel => exact ⟨p + 1, pre, by go_num, by omega, Lib.hid ⟨HN.out, HH.out.2⟩⟩
          case measure => simp [intOf]; omega
    · obtain rfl : p = t.length := by omega
      have s3 : decide ((t.length : Int) < (t.length : Int)) = false := decide_eq_false (by omega)
      gi_wp2
      go_end0
      exact ⟨⟨_, rfl⟩, .inl ⟨pre, HH.out.1, HH.out.2.1⟩⟩
/-- what events hands back hands on the events in their order -/
theorem events_stops (F : Fence) (n : Nat) (h6 : F.fn 117) (hro : F.round = none) (hn : 1 ≤ n) (t : List Pr) (A : Option Addr) (c Bn : Nat) (w0 : World) (hT : TcC w0 A t) (hs : TSm t) (w : World) (hX : Ex w0 w) (hBn : Bn < w.heap.size) (hc : w.cell? ⟨Bn, 0, none⟩ = some (.slice A t.length c)) :
    SeqStopsK F n Tryz.prog 117 #[.pointer (some ⟨Bn, 0, none⟩)] (encI (t := t) (w := w0)) (Below w0.heap.size) AllI SomeI (plL t t.length 0).length w := fun l J Jx W hW hJ _ hY h0 =>
  events1_in F n h6 hro hn l t A c Bn w0 hT hs J Jx W hJ hY ((hW.cell (p := ⟨Bn, 0, none⟩) hBn).trans hc) (hX.trans (Ex.of hW)) h0
end
section
theorem plL_prefix (t : List Pr) {p j q i : Nat} (h : (q, i) ∈ plL t p j) : plL t q i ++ [(q, i)] <+: plL t p j := by
  rw [← plL_step]
  have hj : ∀ (p a b : Nat), a ≤ b → plL t p a <+: plL t p b := fun p a b hab => by
    unfold plL
    rw [show b = a + (b - a) by omega, List.range_add, List.map_append, ← List.append_assoc]
    exact List.prefix_append _ _
  rcases mem_plL.1 h with ⟨h1, h2⟩ | ⟨h1, h2⟩
  · simp only at h1 h2
    have hstep : ∀ d, plL t q (i + 1) <+: plL t (q + 1 + d) 0 := fun d => by
      induction d with
      | zero => rw [Nat.add_zero, plL_next]; exact hj q _ _ (by omega)
      | succ d ih =>
        rw [show q + 1 + (d + 1) = (q + 1 + d) + 1 by omega, plL_next]
        exact ih.trans (hj _ _ _ (Nat.zero_le _))
    have h3 := hstep (p - (q + 1))
    rw [show q + 1 + (p - (q + 1)) = p by omega] at h3
    exact h3.trans (hj p _ _ (Nat.zero_le _))
  · simp only at h1 h2
    subst h1
    exact hj q _ _ h2
theorem not_mem_self (t : List Pr) (p j : Nat) : (p, j) ∉ plL t p j := fun h => by
  rcases mem_plL.1 h with ⟨h1, -⟩ | ⟨-, h1⟩
  · simp only at h1; omega
  · simp only at h1; omega
theorem append_inj_first {α : Type} {x : α} : ∀ {a a' b b' : List α}, x ∉ a → x ∉ a' → a ++ x :: b = a' ++ x :: b' → a = a'
  | [], [], _, _, _, _, _ => rfl
  | [], y :: a', _, _, _, h2, h => by
    simp only [List.nil_append, List.cons_append, List.cons.injEq] at h
    exact absurd (by rw [h.1]; exact List.mem_cons_self ..) h2
  | y :: a, [], _, _, h1, _, h => by
    simp only [List.nil_append, List.cons_append, List.cons.injEq] at h
    exact absurd (by rw [← h.1]; exact List.mem_cons_self ..) h1
  | y :: a, z :: a', b, b', h1, h2, h => by
    simp only [List.cons_append, List.cons.injEq] at h
    rw [h.1, append_inj_first (fun hm => h1 (List.mem_cons_of_mem _ hm)) (fun hm => h2 (List.mem_cons_of_mem _ hm)) h.2]
theorem plL_nodup (t : List Pr) (p j : Nat) : (plL t p j).Nodup := by
  have hj : ∀ p, (plL t p 0).Nodup → ∀ j, (plL t p j).Nodup := fun p h0 j => by
    induction j with
    | zero => exact h0
    | succ j ih =>
      rw [plL_step, List.nodup_append]
      refine ⟨ih, by simp, fun a ha b hb he => ?_⟩
      rw [List.mem_singleton] at hb
      subst he hb
      exact not_mem_self t p j ha
  induction p generalizing j with
  | zero => exact hj 0 (by simp [plL]) j
  | succ p ih => exact hj (p + 1) (by rw [plL_next]; exact ih _) j
/-- what stands ahead of an event -/
theorem plL_split {t : List Pr} {p j q i : Nat} {a b : List (Nat × Nat)} (h : plL t p j = a ++ (q, i) :: b) : a = plL t q i := by
  have hm : (q, i) ∈ plL t p j := by rw [h]; simp
  obtain ⟨r, hr⟩ := plL_prefix t hm
  have hn := plL_nodup t p j
  rw [h, List.nodup_append] at hn
  rw [← hr, List.append_assoc] at h
  refine (append_inj_first (not_mem_self t q i) (fun hq => hn.2.2 _ hq _ (List.mem_cons_self ..) rfl) h).symm
section
variable {t : List Pr} {w : World}
/-- the events of xs are just those ahead of (p, j) -/
def Upto (t : List Pr) {w : World} (xs : List (GItem t w)) (p j : Nat) : Prop := xs.map (fun x => x.1.pl) = plL t p j
theorem upto_split {xs a b : List (GItem t w)} {x : GItem t w} {p j : Nat} (h : Upto t xs p j) (hx : xs = a ++ x :: b) : Upto t a x.1.p x.1.i := by
  unfold Upto at *
  rw [hx, List.map_append, List.map_cons] at h
  exact plL_split h.symm
theorem upto_mem {xs : List (GItem t w)} {p j : Nat} (h : Upto t xs p j) {y : Nat × Nat} (hy : y ∈ plL t p j) : ∃ x, x ∈ xs ∧ x.1.pl = y := by
  rw [← h, List.mem_map] at hy
  exact hy
theorem upto_bef {xs : List (GItem t w)} {p j : Nat} (h : Upto t xs p j) {x : GItem t w} (hx : x ∈ xs) : Bef (x.1.p, x.1.i + 1) (p, j + 1) := by
  have hm : x.1.pl ∈ plL t p j := by rw [← h]; exact List.mem_map.2 ⟨x, hx, rfl⟩
  unfold Bef
  rcases mem_plL.1 hm with ⟨h1, -⟩ | ⟨h1, h2⟩
  · exact .inl h1
  · simp only [Item.pl] at h1 h2; exact .inr ⟨h1, by simp only; omega⟩
theorem upto_some {a : List (GItem t w)} {x : GItem t w} (h : SomeI (a ++ [x])) : Upto t a x.1.p x.1.i := by
  obtain ⟨p, j, -, h2⟩ := h
  rw [List.map_append, List.map_singleton] at h2
  have h3 := List.append_inj' h2 (by simp)
  simp only [Item.pl, List.cons.injEq, Prod.mk.injEq, and_true] at h3
  unfold Upto
  rw [h3.2.1, h3.2.2]
  exact h3.1
theorem item_in (x : GItem t w) : InT t (x.1.p, x.1.i + 1) := ⟨by simp, evAt_lt x.2.at_⟩
theorem item_at (x : GItem t w) : evAt t x.1.p ((x.1.i + 1) - 1) = some x.1.e := by rw [Nat.add_sub_cancel]; exact x.2.at_
/-- an event that lies ahead is among those that have come -/
theorem upto_item {xs : List (GItem t w)} {p j : Nat} (h : Upto t xs p j) {y : Nat × Nat} (hy : InT t y) (hb : Bef y (p, j + 1)) : ∃ x, x ∈ xs ∧ (x.1.p, x.1.i + 1) = y := by
  obtain ⟨a, b⟩ := y
  have h1 := hy.1
  have h2 := hy.2
  simp only at h1 h2
  have hm : (a, b - 1) ∈ plL t p j := mem_plL.2 (by
    unfold Bef at hb
    simp only at hb ⊢
    rcases hb with hb | hb
    · exact .inl ⟨hb, by omega⟩
    · exact .inr ⟨hb.1, by omega⟩)
  obtain ⟨x, hx, he⟩ := upto_mem h hm
  simp only [Item.pl, Prod.mk.injEq] at he
  exact ⟨x, hx, by rw [he.1, he.2, show b - 1 + 1 = b by omega]⟩
theorem all_item {xs : List (GItem t w)} (h : AllI xs) {y : Nat × Nat} (hy : InT t y) : ∃ x, x ∈ xs ∧ (x.1.p, x.1.i + 1) = y := by
  refine upto_item (p := t.length) (j := 0) h hy ?_
  have h2 := hy.2
  have h3 : y.1 < t.length := Nat.lt_of_not_le fun hle => by
    have h1 := hy.1
    unfold evN at h2
    rw [List.getElem?_eq_none hle] at h2
    simp only at h2
    omega
  exact .inl h3
/-- the numbers of an event are in order, those of a having come before -/
def okAt (a : List (GItem t w)) (y : GItem t w) : Prop := y.1.e.kind = 1 ∨ ((∀ z ∈ a, ¬ (z.1.e.kind = y.1.e.kind ∧ z.1.e.msg = y.1.e.msg)) ∧ (y.1.e.kind = 3 → Snds t y.1.e.peer y.1.e.msg (y.1.p : Int)))
/-- all are in order -/
def Cl (xs : List (GItem t w)) : Prop := ∀ a y b, xs = a ++ y :: b → okAt a y
theorem Cl.nil : Cl ([] : List (GItem t w)) := fun a y b h => by
  have := congrArg List.length h
  simp at this
theorem Cl.snoc {xs : List (GItem t w)} {x : GItem t w} (h : Cl xs) (hx : okAt xs x) : Cl (xs ++ [x]) := fun a y b he => by
  rcases List.eq_nil_or_concat b with rfl | ⟨b', z, rfl⟩
  · have h2 := List.append_inj' he (by simp)
    simp only [List.cons.injEq, and_true] at h2
    rw [← h2.1, ← h2.2]
    exact hx
  · have h2 : xs = a ++ y :: b' := by
      have h3 : xs ++ [x] = (a ++ y :: b') ++ [z] := by simpa using he
      exact (List.append_inj' h3 (by simp)).1
    exact h a y b' h2
theorem dup_iff {a : List (GItem t w)} {y : GItem t w} (h : Upto t a y.1.p y.1.i) (k m : Int) : (∃ z ∈ a, z.1.e.kind = k ∧ z.1.e.msg = m) ↔ ∃ z, InT t z ∧ Bef z (y.1.p, y.1.i + 1) ∧ Sel t k m z := by
  constructor
  · rintro ⟨z, hz, h1, h2⟩
    exact ⟨(z.1.p, z.1.i + 1), item_in z, upto_bef h hz, z.1.e, item_at z, h1, h2⟩
  · rintro ⟨z, h1, h2, e, h3, h4, h5⟩
    obtain ⟨x, hx, he⟩ := upto_item h h1 h2
    refine ⟨x, hx, ?_⟩
    rw [← he] at h3
    have h6 := item_at x
    simp only at h3
    rw [h6] at h3
    cases h3
    exact ⟨h4, h5⟩
theorem pair_ok {a : List (GItem t w)} {y : GItem t w} (h : Upto t a y.1.p y.1.i) (ho : okAt a y) : pairE t (y.1.p, y.1.i + 1) = 0 := by
  unfold pairE
  rw [item_at y]
  dsimp only
  rcases ho with h1 | ⟨h1, h2⟩
  · rw [if_pos h1]
  · split
    · rfl
    · rw [if_neg (fun hd => by
        obtain ⟨z, hz, h3⟩ := (dup_iff h _ _).2 hd
        exact h1 z hz h3)]
      rw [if_neg (fun hd => hd.2 (h2 hd.1))]
theorem pair_dup {a : List (GItem t w)} {y : GItem t w} (h : Upto t a y.1.p y.1.i) (hk : y.1.e.kind ≠ 1) (hd : ∃ z ∈ a, z.1.e.kind = y.1.e.kind ∧ z.1.e.msg = y.1.e.msg) : pairE t (y.1.p, y.1.i + 1) = 8 := by
  unfold pairE
  rw [item_at y]
  dsimp only
  rw [if_neg hk, if_pos ((dup_iff h _ _).1 hd)]
theorem pair_lost {a : List (GItem t w)} {y : GItem t w} (h : Upto t a y.1.p y.1.i) (hk : y.1.e.kind = 3) (hd : ∀ z ∈ a, ¬ (z.1.e.kind = y.1.e.kind ∧ z.1.e.msg = y.1.e.msg)) (hs : ¬ Snds t y.1.e.peer y.1.e.msg (y.1.p : Int)) : pairE t (y.1.p, y.1.i + 1) = 7 := by
  unfold pairE
  rw [item_at y]
  dsimp only
  rw [if_neg (by rw [hk]; decide), if_neg (fun hd' => by
    obtain ⟨z, hz, h3⟩ := (dup_iff h _ _).2 hd'
    exact hd z hz h3), if_pos ⟨hk, hs⟩]
/-- all that have come are in order -/
theorem cl_pair {xs : List (GItem t w)} {p j : Nat} (h : Upto t xs p j) (hc : Cl xs) {x : GItem t w} (hx : x ∈ xs) : pairE t (x.1.p, x.1.i + 1) = 0 := by
  obtain ⟨a, b, he⟩ := List.append_of_mem hx
  exact pair_ok (upto_split h he) (hc a x b he)
/-- the place of the first event of a kind with a number -/
def frm (xs : List (GItem t w)) (k m : Int) : Nat × Nat := match xs.find? (fun x => decide (x.1.e.kind = k) && decide (x.1.e.msg = m)) with | some x => (x.1.p, x.1.i + 1) | none => (0, 0)
theorem frm_none {xs : List (GItem t w)} {k m : Int} (h : ∀ z ∈ xs, ¬ (z.1.e.kind = k ∧ z.1.e.msg = m)) : frm xs k m = (0, 0) := by
  unfold frm
  rw [List.find?_eq_none.2 (fun z hz => by simpa using fun h1 h2 => h z hz ⟨h1, h2⟩)]
theorem frm_pos {xs : List (GItem t w)} {k m : Int} (h : ∃ z ∈ xs, z.1.e.kind = k ∧ z.1.e.msg = m) : 0 < (frm xs k m).2 := by
  unfold frm
  cases hf : xs.find? (fun x => decide (x.1.e.kind = k) && decide (x.1.e.msg = m)) with
  | some x => simp
  | none =>
    obtain ⟨z, hz, h1, h2⟩ := h
    have := List.find?_eq_none.1 hf z hz
    simp [h1, h2] at this
theorem frm_iff (xs : List (GItem t w)) (k m : Int) : 0 < (frm xs k m).2 ↔ ∃ z ∈ xs, z.1.e.kind = k ∧ z.1.e.msg = m := by
  refine ⟨fun h => Classical.byContradiction fun hn => ?_, frm_pos⟩
  rw [frm_none (fun z hz h1 => hn ⟨z, hz, h1⟩)] at h
  exact absurd h (by decide)
theorem frm_snoc {xs : List (GItem t w)} {x : GItem t w} (k m : Int) : frm (xs ++ [x]) k m = if 0 < (frm xs k m).2 then frm xs k m else if x.1.e.kind = k ∧ x.1.e.msg = m then (x.1.p, x.1.i + 1) else (0, 0) := by
  by_cases h : 0 < (frm xs k m).2
  · rw [if_pos h]
    unfold frm at *
    rw [List.find?_append]
    cases hf : xs.find? (fun x => decide (x.1.e.kind = k) && decide (x.1.e.msg = m)) with
    | some y => rfl
    | none => rw [hf] at h; simp at h
  · rw [if_neg h]
    have hn : ∀ z ∈ xs, ¬ (z.1.e.kind = k ∧ z.1.e.msg = m) := fun z hz hh => h ((frm_iff xs k m).2 ⟨z, hz, hh⟩)
    unfold frm
    rw [List.find?_append, List.find?_eq_none.2 (fun z hz => by simpa using fun h1 h2 => hn z hz ⟨h1, h2⟩)]
    by_cases hx : x.1.e.kind = k ∧ x.1.e.msg = m
    · rw [if_pos hx]
      simp [hx.1, hx.2]
    · rw [if_neg hx]
      by_cases h1 : x.1.e.kind = k
      · have h2 : ¬ x.1.e.msg = m := fun h2 => hx ⟨h1, h2⟩
        simp [h1, h2]
      · simp [h1]
theorem frm_all {xs : List (GItem t w)} (h : AllI xs) (k m : Int) : frm xs k m = findO t k m := by
  by_cases hd : ∃ z ∈ xs, z.1.e.kind = k ∧ z.1.e.msg = m
  · unfold frm
    cases hf : xs.find? (fun x => decide (x.1.e.kind = k) && decide (x.1.e.msg = m)) with
    | none =>
      obtain ⟨z, hz, h1, h2⟩ := hd
      have := List.find?_eq_none.1 hf z hz
      simp [h1, h2] at this
    | some x =>
      obtain ⟨hp, a, b, he, hn⟩ := List.find?_eq_some_iff_append.1 hf
      simp only [Bool.and_eq_true, decide_eq_true_eq] at hp
      refine (find_first ⟨item_in x, ⟨x.1.e, item_at x, hp.1, hp.2⟩, fun y hy hb hs => ?_⟩).symm
      have hu := upto_split (p := t.length) (j := 0) h he
      obtain ⟨z, hz, h1, h2⟩ := (dup_iff hu k m).2 ⟨y, hy, hb, hs⟩
      have := hn z hz
      simp [h1, h2] at this
  · rw [frm_none (fun z hz h1 => hd ⟨z, hz, h1⟩), find_none (fun x hx hs => ?_)]
    obtain ⟨z, hz, he⟩ := all_item h hx
    obtain ⟨e, h1, h2, h3⟩ := hs
    rw [← he] at h1
    have h6 := item_at z
    simp only at h1
    rw [h6] at h1
    cases h1
    exact hd ⟨z, hz, h2, h3⟩
end
end
end Go.Proofs.YtpmponafjhnegaaGreatDoor
