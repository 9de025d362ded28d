/-
  The program's after, walked. Sets of events as maps of the model. The program's cyclic, walked.
  Conditions: as each theorem says.
-/
import Derived.Test.YtpmponafjhnegaaGreatDoorHo
import Derived.Deep.RegionLaw
import Derived.Deep.Cut
import Derived.Maps.OwnIn
import Derived.Maps.Views
import Derived.DeepKeys4
import Derived.Test.YtpmponafjhnegaaGreatDoorYb
import Derived.Sort.LoopGhostIn
namespace Go.Proofs.YtpmponafjhnegaaGreatDoor
section
open Go.RowKit
/-- those directly behind an event -/
noncomputable def aftL (t : List Pr) (x : Nat × Nat) : List (Nat × Nat) :=
  (if x.2 < evN t x.1 then [(x.1, x.2 + 1)] else []) ++ (match evAt t x.1 (x.2 - 1) with | some e => if e.kind = 2 ∧ 0 < (findO t 3 e.msg).2 then [findO t 3 e.msg] else [] | none => [])
theorem mem_aftL {t : List Pr} (hP : Paired t) {x y : Nat × Nat} (hx : InT t x) : y ∈ aftL t x ↔ Dir t x y := by
  rw [dir_on hP]
  obtain ⟨e, he⟩ := evAt_in hx
  unfold aftL
  rw [he]
  simp only [List.mem_append, Option.some.injEq]
  constructor
  · rintro (h | h)
    · split at h
      · rename_i h1
        exact ⟨hx, .inl ⟨h1, List.mem_singleton.1 h⟩⟩
      · exact absurd h List.not_mem_nil
    · split at h
      · rename_i h1
        exact ⟨hx, .inr ⟨e, rfl, h1.1, h1.2, List.mem_singleton.1 h⟩⟩
      · exact absurd h List.not_mem_nil
  · rintro ⟨-, ⟨h1, rfl⟩ | ⟨f, rfl, h2, h3, rfl⟩⟩
    · exact .inl (by rw [if_pos h1]; exact List.mem_singleton.2 rfl)
    · exact .inr (by rw [if_pos ⟨h2, h3⟩]; exact List.mem_singleton.2 rfl)
theorem aftL_len (t : List Pr) (x : Nat × Nat) : (aftL t x).length ≤ 2 := by
  unfold aftL
  rw [List.length_append]
  have h1 : (if x.2 < evN t x.1 then [(x.1, x.2 + 1)] else []).length ≤ 1 := by split <;> simp
  have h2 : (match evAt t x.1 (x.2 - 1) with | some e => if e.kind = 2 ∧ 0 < (findO t 3 e.msg).2 then [findO t 3 e.msg] else [] | none => []).length ≤ 1 := by
    split
    · split <;> simp
    · simp
  omega
section
variable {P : Program} (w : World)
/-- append at a step of a region that draws its order -/
theorem step_append_one {ops : Array Oper} {o : Oper} {a : Act} {K : Act → World → Prop} {Q : Exit → Act → World → Prop} {E : Prop} (hgd : o.guard = none) (s x : Operand) (t : TypeId)
    (ho : o.op = .call { callee := .builtin .append, args := #[s, x], argTypes := #[t, t] })
    (base : Nat) (e : TypeId) (i : TypeInfo) (z : Value) (size bytes : Nat) (ht : P.underlying t = some (.slice e)) (hi : P.info? e = some i) (hz : i.zero = some z)
    (hsize : i.size = size) (hby : i.bytes = bytes) (hzs : z.cells.size = size)
    (v : Value) (n : Nat) (xs : List Value) (hs : a.eval s = v) (hown : OwnO w base e size v n xs)
    (nb : Nat) (news : List Value) (hx : a.eval x = .slice (some ⟨nb, 0, none⟩) 1 1) (hl : news.length = size) (hnews : ∀ (j : Nat) (u : Value), news[j]? = some u → w.cell? ⟨nb, j, none⟩ = some u) (h1 : ∀ u ∈ news, u.oneCell' = true)
    (h63 : n ≤ 1000000000) (hb100 : bytes ≤ 1000) (hbase : base ≤ w.heap.size)
    (h : ∀ A c w', OwnO w' base e size (.slice A (n + 1) c) (n + 1) (xs ++ news) → w.grownBy w' v.ownBlock → ((Value.slice A (n + 1) c).ownBlock = v.ownBlock ∨ (Value.slice A (n + 1) c).ownBlock = some w.heap.size) → (∀ a0, Ex a0 w → a0.heap.size ≤ base → Ex a0 w') → K (a.put o.dst (.slice A (n + 1) c)) w') :
    if Region.wanted o (yielded ops a.tmps) = true then Oper.wp P o a w K Q else E := by
  have hw : Region.wanted o (yielded ops a.tmps) = true := by simp [Region.wanted, hgd]
  rw [if_pos hw]
  have hnews' : ∀ (j : Nat) (u : Value), news[j]? = some u → w.cell? ((⟨nb, 0, none⟩ : Addr).add j) = some u := fun j u hj => by
    have hadd : (⟨nb, 0, none⟩ : Addr).add j = ⟨nb, j, none⟩ := by
      unfold Addr.add; split
      · rename_i h0; rw [h0]
      · simp
    rw [hadd]
    exact hnews j u hj
  obtain ⟨v', w', hr, h2, h3, h4⟩ := run_append_ownO (P := P) w base t o.type e i z size bytes ht hi hz hsize hby hzs v n xs hown ⟨nb, 0, none⟩ 1 1 news (by rw [Nat.one_mul]; exact hl) hnews' h1 (by unfold maxLen; omega) (by have := Nat.mul_le_mul (show n + 1 ≤ 1000000001 by omega) hb100; omega) hbase
  obtain ⟨A, c, rfl, -, -⟩ := h2.len
  unfold Oper.wp execOp
  simp only [ho, resolve, invoke, builtin, Sem.run_bind, Sem.run_pure, Result.andThen_ok, List.map_toArray, List.map_cons, List.map_nil, hs, hx, hr]
  exact h A c w' h2 h3 h4 fun a0 hx0 hb0 => hx0.grown h3 fun k hk => Nat.le_trans hb0 (hown.lt k hk).1
end
/-- what after hands back -/
def AftR (t : List Pr) (x : Nat × Nat) (w : World) (e : Ending) (w' : World) : Prop :=
  ∃ A c, e = .returned (.slice A (aftL t x).length c) ∧ OwnO w' w.heap.size 40 2 (.slice A (aftL t x).length c) (aftL t x).length (idCs (aftL t x)) ∧ Ex w w'
attribute [local go_sem] alloc_drewN alloc_drew setCell_drewN setCell_drew
set_option maxRecDepth 20000 in
set_option maxHeartbeats 3200000 in
theorem after_c (t : List Pr) (A : Option Addr) (c p i nl : Nat) (w : World) (hT : TcC w A t) (hs : TSm t) (hx : i < evN t p) (hf : ∀ x, InT t x → formE t x = 0) (hL : Blk w nl 177 (ltC fun m => (findO t 2 (m : Int), findO t 3 (m : Int)))) :
    Calls Tryz.prog 122 #[.agg #[.slice A t.length c], .pointer (some ⟨nl, 0, none⟩), .agg #[.int .i64 p, .int .i64 ((i : Int) + 1)]] w (AftR t (p, i + 1) w) := by
  obtain ⟨e, he⟩ := evAt_some hx
  obtain ⟨x, hpx⟩ : ∃ x, t[p]? = some x := by
    cases h : t[p]? with
    | none => unfold evN at hx; rw [h] at hx; simp at hx
    | some x => exact ⟨x, rfl⟩
  have hxe : x.evs[i]? = some e := by unfold evAt at he; rw [hpx] at he; exact he
  have hev := evN_at hpx
  have hp := (List.getElem?_eq_some_iff.1 hpx).1
  have hi := (List.getElem?_eq_some_iff.1 hxe).1
  have hl := hs.procs
  have hel := (hs.each x (List.mem_of_getElem? hpx)).2.2.1
  have hfr : frmB t.length p e = true := by
    have h1 := hf (p, i + 1) ⟨by simp, hx⟩
    rw [formE_at hpx hxe] at h1
    cases hb : frmB t.length p e with
    | true => rfl
    | false => rw [evE_frm hb] at h1; cases h1
  have HD : Hid (aftL t (p, i + 1) = (if i + 1 < x.evs.length then [(p, i + 2)] else []) ++ (if e.kind = 2 ∧ 0 < (findO t 3 e.msg).2 then [findO t 3 e.msg] else [])) := by
    unfold aftL
    simp only [Nat.add_sub_cancel, he, hev]
    exact Lib.hid trivial
  obtain ⟨i0, hi0, hz0, hz1, hz2⟩ := info_parts infoId
  have hmsg : e.kind = 2 → ∃ m : Nat, e.msg = (m : Int) ∧ m < 200 := fun hk => by
    unfold frmB at hfr
    rw [if_neg (by rw [hk]; decide)] at hfr
    simp only [Bool.and_eq_true, decide_eq_true_eq, Bool.not_eq_true', decide_eq_false_iff_not] at hfr
    obtain ⟨m, hm⟩ := Int.eq_ofNat_of_zero_le hfr.2.1
    exact ⟨m, hm, by omega⟩
  obtain ⟨W0, hW0⟩ : ∃ W0, W0 = (w.alloc (.cells #[.slice A t.length c] 24)).alloc (.cells #[.int .i64 p, .int .i64 ((i : Int) + 1)] 40) := ⟨_, rfl⟩
  have HX0 : Hid (Ex w W0) := by rw [hW0]; exact ((Ex.refl w).alloc _).alloc _
  have HS0 : Hid (W0.heap.size = w.heap.size + 2) := Lib.hid (by rw [hW0]; simp)
  have HB1 : Hid (∀ w', Ex W0 w' → Blk w' (w.heap.size + 1) 40 [.int .i64 p, .int .i64 ((i : Int) + 1)]) := fun w' hx => by
    have : Blk W0 (w.heap.size + 1) 40 [.int .i64 p, .int .i64 ((i : Int) + 1)] := by
      rw [hW0, show w.heap.size + 1 = (w.alloc (.cells #[.slice A t.length c] 24)).heap.size by simp]
      exact Blk.new _ _ _
    exact this.ex hx
  have HLt : Hid (∀ w', Ex w w' → Blk w' nl 177 (ltC fun m => (findO t 2 (m : Int), findO t 3 (m : Int)))) := fun w' h => hL.ex h
  obtain ⟨b, o, hA, hbl, V, vc, E, ec, -, -, g2, -, hE⟩ := hT p x hpx
  obtain ⟨b2, o2, hA2, hbl2, B, bc, k0, k1, k2, k3, k4, -⟩ := hE i e hxe
  have HEc : Hid (∀ w', Ex w w' → w'.cell? ⟨b2, o2 + i * 5, none⟩ = some (.int .i64 e.kind) ∧ w'.cell? ⟨b2, o2 + i * 5 + 1, none⟩ = some (.int .i64 e.peer) ∧ w'.cell? ⟨b2, o2 + i * 5 + 2, none⟩ = some (.int .i64 e.msg) ∧ w'.cell? ⟨b2, o2 + i * 5 + 3, none⟩ = some (.int .i64 e.time) ∧ w'.cell? ⟨b2, o2 + i * 5 + 4, none⟩ = some (.slice B e.asg.length bc) ∧ b2 < w'.heap.size) := fun w' hx =>
    ⟨(hx.below.cell hbl2).trans k0, (hx.below.cell hbl2).trans k1, (hx.below.cell hbl2).trans k2, (hx.below.cell hbl2).trans k3, (hx.below.cell hbl2).trans k4, Nat.lt_of_lt_of_le hbl2 hx.below.size⟩
  subst hA hA2
  have m0 : (0 : Int) ≤ (p : Int) := by omega
  have m1 : (p : Int) < (t.length : Int) := by omega
  have m2 : (0 : Int) ≤ (i : Int) := by omega
  have m3 : (i : Int) < (x.evs.length : Int) := by omega
  have u1 : b < w.heap.size + 1 := by omega
  have e1 : IntKind.i64.wrap ((i : Int) + 1 - 1) = (i : Int) := by rw [IntWalk.i64_in _ (by omega)]; omega
  have e2 : IntKind.i64.wrap ((i : Int) + 1 + 1) = (i : Int) + 2 := by rw [IntWalk.i64_in _ (by omega)]; omega
  have HW0 := Lib.hid hW0
  have HEx2 : Hid (i + 1 + 1 = i + 2) := rfl
  clear hT hs hE hf hL he hpx hxe hW0 hfr hev k0 k1 k2 k3 k4
  unfold AftR
  generalize aftL t (p, i + 1) = D at *
  -- the first one, then the second one
  have hfst : (decide ((i : Int) + 1 < (x.evs.length : Int)) = true ∧ i + 1 < x.evs.length) ∨ (decide ((i : Int) + 1 < (x.evs.length : Int)) = false ∧ ¬ i + 1 < x.evs.length) := by
    by_cases h : i + 1 < x.evs.length
    · exact .inl ⟨decide_eq_true (by omega), h⟩
    · exact .inr ⟨decide_eq_false (by omega), h⟩
  rcases hfst with ⟨s1, hlt⟩ | ⟨s1, hlt⟩
  · rw [if_pos hlt] at HD
    go_enter Tryz.func122, Tryz.ntmps122
    go_wp2_with (at_builtin; refine wpList_append_one _ rfl _ _ 161 rfl w.heap.size 40 i0 _ 2 16 Tryz.underlying161 hi0 hz0 hz1 hz2 rfl _ 0 [] rfl (OwnO.nil _ _ _ _) (w.heap.size + 1 + 1) [.int .i64 p, .int .i64 ((i : Int) + 2)] rfl rfl ?c1 ?c2 ?c3 ?c4 ?c5 ?_)
    case c2 => exact ⟨rfl, rfl⟩
    case c5 => omega
    intro A2 c2 w2 ho hg hat hEx
    rw [← HW0.out] at hg hEx
    have HX2 : Hid (Ex w w2) := hEx w (HX0.out.alloc _) (Nat.le_refl _)
    have HX2' : Hid (Ex W0 w2) := ((Ex.refl W0).alloc (.cells #[.int .i64 p, .int .i64 ((i : Int) + 2)] 40)).trans (Ex.of (Below.grown (Below.refl _ _) hg (Nat.le_refl _) (fun k hk => by simp [Value.ownBlock] at hk)))
    have HO2 : Hid (OwnO w2 w.heap.size 40 2 (.slice A2 [(p, i + 2)].length c2) [(p, i + 2)].length (idCs [(p, i + 2)])) := ho
    clear ho hg hat hEx
    have hB1 := HB1.out _ HX2'.out
    have b0 := hB1.cell 0
    have b1 := hB1.cell 1
    have bl := hB1.lt
    obtain ⟨k0, k1, k2, k3, k4, kl⟩ := HEc.out _ HX2.out
    by_cases q2 : e.kind = 2
    · have s2 : (e.kind == 2) = true := by simp [q2]
      obtain ⟨m, hm, hm2⟩ := hmsg q2
      have n0 : (0 : Int) ≤ (m : Int) := by omega
      have n1 : (m : Int) < 200 := by omega
      obtain ⟨-, -, r3, r4⟩ := ltC_get (fun m : Nat => (findO t 2 (m : Int), findO t 3 (m : Int))) hm2
      have hLt := HLt.out _ (HX2.out.alloc (.cells #[.int .i64 e.kind, .int .i64 e.peer, .int .i64 e.msg, .int .i64 e.time, .slice B e.asg.length bc] 38))
      have v3 := (hLt.cell (m * 4 + 2)).trans r3
      have v4 := (hLt.cell (m * 4 + 3)).trans r4
      have vl := hLt.lt
      rw [hm] at HD k2 v3 v4 vl
      clear r3 r4 hLt hB1
      generalize hFF : findO t 3 (m : Int) = F at *
      obtain ⟨F1, F2⟩ := F
      clear hFF
      dsimp only at v3 v4 HD
      by_cases hF : 0 < F2
      · have s3 : decide (0 < (F2 : Int)) = true := decide_eq_true (by omega)
        rw [if_pos ⟨q2, hF⟩] at HD
        clear q2
        go_wp2_with fail
        go_quiet (fail)
        go_wp2_with fail
        generalize hW5 : World.drewN _ _ = W5
        have hX5 : Ex w2 W5 := by rw [← hW5]; exact ((Ex.refl _).alloc _).drewN _
        have hbE : Blk W5 w2.heap.size 38 [.int .i64 e.kind, .int .i64 e.peer, .int .i64 m, .int .i64 e.time, .slice B e.asg.length bc] := by rw [← hW5]; exact Blk.new w2 _ _
        have v5 : W5.cell? ⟨nl, m * 4 + 2, none⟩ = some (.int .i64 F1) := by rw [← hW5]; exact v3
        have v6 : W5.cell? ⟨nl, m * 4 + 3, none⟩ = some (.int .i64 F2) := by rw [← hW5]; exact v4
        have vl5 : nl < W5.heap.size := by rw [← hW5]; exact vl
        have j2 := hbE.cell 2
        have jl := hbE.lt
        have HX5 := Lib.hid (HX2.out.trans hX5)
        have HO5 := Lib.hid (HO2.out.ex hX5)
        clear hW5 v3 v4 vl hbE b0 b1 bl k0 k1 k2 k3 k4 kl hX5
        generalize w2.heap.size = nE at *
        have HOw : Hid (∀ W', Ex W5 W' → OwnO W' w.heap.size 40 2 (.slice A2 [(p, i + 2)].length c2) [(p, i + 2)].length (idCs [(p, i + 2)])) := fun W' h => HO5.out.ex h
        go_region_law ((refine step_append_one _ (by rfl) _ _ 161 (by rfl) w.heap.size 40 i0 _ 2 16 Tryz.underlying161 hi0 hz0 hz1 hz2 (by rfl) _ [(p, i + 2)].length (idCs [(p, i + 2)]) (by rfl) (HOw.out _ (by first | exact (Ex.refl _).alloc _ | exact ((Ex.refl _).alloc _).drewN _ | exact ((Ex.refl _).alloc _).drew)) W5.heap.size [.int .i64 F1, .int .i64 F2] (by rfl) (by rfl) (by first | exact news_new rfl rfl | exact fun j u h => news_new (W := W5) (w := W5.alloc _) rfl rfl j u h) (one_ints (by simp)) (by simp) (by omega) (by have := HX5.out.below.size; simp; omega) ?_; intro A4 c4 w4 ho hg hat hEx))
        all_goals
          have HX4 : Hid (Ex w w4) := hEx w (by first | exact HX5.out.alloc _ | exact (HX5.out.alloc _).drew) (Nat.le_refl _)
          have HO4 := Lib.hid ho
          clear hg hat hEx ho
          go_wp2_with fail
          go_ret
          rw [HD.out]
          exact ⟨A4, c4, rfl, HO4.out, HX4.out⟩
      · have s3 : decide (0 < (F2 : Int)) = false := decide_eq_false (by omega)
        rw [if_neg (fun h => hF h.2)] at HD
        clear q2
        go_wp2_with fail
        go_quiet (fail)
        go_wp2_with fail
        go_ret
        rw [HD.out]
        exact ⟨_, _, rfl, HO2.out.ex (((Ex.refl _).alloc _).drewN _), (HX2.out.alloc _).drewN _⟩
    · have s2 : (e.kind == 2) = false := by simp [q2]
      rw [if_neg (fun h => q2 h.1)] at HD
      clear q2
      go_wp2_with fail
      go_quiet (fail)
      go_wp2_with fail
      go_ret
      rw [HD.out]
      exact ⟨_, _, rfl, HO2.out.ex (((Ex.refl _).alloc _).drewN _), (HX2.out.alloc _).drewN _⟩
  · rw [if_neg hlt] at HD
    have HX2 := HX0
    have HX2' : Hid (Ex W0 W0) := Ex.refl _
    have HO2 : Hid (OwnO W0 w.heap.size 40 2 (.slice none ([] : List (Nat × Nat)).length 0) ([] : List (Nat × Nat)).length (idCs [])) := OwnO.nil _ _ _ _
    go_enter Tryz.func122, Tryz.ntmps122
    go_upto_region 5 with fail
    rw [← HW0.out]
    have hB1 := HB1.out _ HX2'.out
    have b0 := hB1.cell 0
    have b1 := hB1.cell 1
    have bl := hB1.lt
    obtain ⟨k0, k1, k2, k3, k4, kl⟩ := HEc.out _ HX2.out
    by_cases q2 : e.kind = 2
    · have s2 : (e.kind == 2) = true := by simp [q2]
      obtain ⟨m, hm, hm2⟩ := hmsg q2
      have n0 : (0 : Int) ≤ (m : Int) := by omega
      have n1 : (m : Int) < 200 := by omega
      obtain ⟨-, -, r3, r4⟩ := ltC_get (fun m : Nat => (findO t 2 (m : Int), findO t 3 (m : Int))) hm2
      have hLt := HLt.out _ (HX2.out.alloc (.cells #[.int .i64 e.kind, .int .i64 e.peer, .int .i64 e.msg, .int .i64 e.time, .slice B e.asg.length bc] 38))
      have v3 := (hLt.cell (m * 4 + 2)).trans r3
      have v4 := (hLt.cell (m * 4 + 3)).trans r4
      have vl := hLt.lt
      rw [hm] at HD k2 v3 v4 vl
      clear r3 r4 hLt hB1
      generalize hFF : findO t 3 (m : Int) = F at *
      obtain ⟨F1, F2⟩ := F
      clear hFF
      dsimp only at v3 v4 HD
      by_cases hF : 0 < F2
      · have s3 : decide (0 < (F2 : Int)) = true := decide_eq_true (by omega)
        rw [if_pos ⟨q2, hF⟩] at HD
        clear q2
        go_wp2_with fail
        go_quiet (fail)
        go_wp2_with fail
        generalize hW5 : World.drewN _ _ = W5
        have hX5 : Ex W0 W5 := by rw [← hW5]; exact ((Ex.refl _).alloc _).drewN _
        have hbE : Blk W5 W0.heap.size 38 [.int .i64 e.kind, .int .i64 e.peer, .int .i64 m, .int .i64 e.time, .slice B e.asg.length bc] := by rw [← hW5]; exact Blk.new W0 _ _
        have v5 : W5.cell? ⟨nl, m * 4 + 2, none⟩ = some (.int .i64 F1) := by rw [← hW5]; exact v3
        have v6 : W5.cell? ⟨nl, m * 4 + 3, none⟩ = some (.int .i64 F2) := by rw [← hW5]; exact v4
        have vl5 : nl < W5.heap.size := by rw [← hW5]; exact vl
        have j2 := hbE.cell 2
        have jl := hbE.lt
        have HX5 := Lib.hid (HX2.out.trans hX5)
        have HO5 := Lib.hid (HO2.out.ex hX5)
        clear hW5 v3 v4 vl hbE b0 b1 bl k0 k1 k2 k3 k4 kl hX5
        generalize W0.heap.size = nE at *
        have HOw : Hid (∀ W', Ex W5 W' → OwnO W' w.heap.size 40 2 (.slice none ([] : List (Nat × Nat)).length 0) ([] : List (Nat × Nat)).length (idCs [])) := fun W' h => HO5.out.ex h
        go_region_law ((refine step_append_one _ (by rfl) _ _ 161 (by rfl) w.heap.size 40 i0 _ 2 16 Tryz.underlying161 hi0 hz0 hz1 hz2 (by rfl) _ ([] : List (Nat × Nat)).length (idCs []) (by rfl) (HOw.out _ (by first | exact (Ex.refl _).alloc _ | exact ((Ex.refl _).alloc _).drewN _ | exact ((Ex.refl _).alloc _).drew)) W5.heap.size [.int .i64 F1, .int .i64 F2] (by rfl) (by rfl) (by first | exact news_new rfl rfl | exact fun j u h => news_new (W := W5) (w := W5.alloc _) rfl rfl j u h) (one_ints (by simp)) (by simp) (by omega) (by have := HX5.out.below.size; simp; omega) ?_; intro A4 c4 w4 ho hg hat hEx))
        all_goals
          have HX4 : Hid (Ex w w4) := hEx w (by first | exact HX5.out.alloc _ | exact (HX5.out.alloc _).drew) (Nat.le_refl _)
          have HO4 := Lib.hid ho
          clear hg hat hEx ho
          go_wp2_with fail
          go_ret
          rw [HD.out]
          exact ⟨A4, c4, rfl, HO4.out, HX4.out⟩
      · have s3 : decide (0 < (F2 : Int)) = false := decide_eq_false (by omega)
        rw [if_neg (fun h => hF h.2)] at HD
        clear q2
        go_wp2_with fail
        go_quiet (fail)
        go_wp2_with fail
        go_ret
        rw [HD.out]
        exact ⟨_, _, rfl, HO2.out.ex (((Ex.refl _).alloc _).drewN _), (HX2.out.alloc _).drewN _⟩
    · have s2 : (e.kind == 2) = false := by simp [q2]
      rw [if_neg (fun h => q2 h.1)] at HD
      clear q2
      go_wp2_with fail
      go_quiet (fail)
      go_wp2_with fail
      go_ret
      rw [HD.out]
      exact ⟨_, _, rfl, HO2.out.ex (((Ex.refl _).alloc _).drewN _), (HX2.out.alloc _).drewN _⟩
end
section
open Go.RowKit
open Go.Maps (Keyed)
theorem idLaidOut : laidOutB Tryz.prog = true := by kernel_rfl
theorem idRow : (40 : TypeId) < Tryz.prog.types.size := of_decide_eq_true (by kernel_rfl)
theorem idKeyLaw : Go.WideMaps.KeyLaw Tryz.prog 40 := by
  refine deep_law_laid idLaidOut (m := 2) (by decide) idRow (by kernel_rfl) ?_
  rw [Tryz.underlying40]
theorem idKeyed : Keyed Tryz.prog 40 := Keyed.of_law idKeyLaw
theorem zeroBool (w : World) : (zeroValue 4).run Tryz.prog w = .ok (.bool false) w := by kernel_rfl
theorem idKeyType : Tryz.prog.keyType 40 = true := by kernel_rfl
theorem idCells : Tryz.prog.cellsOf 40 = 2 := by kernel_rfl
theorem intCells : Tryz.prog.cellsOf 3 = 1 := by kernel_rfl
theorem typesN : ∃ m, Tryz.prog.types.size = m + 1 := by
  have h := idRow
  generalize Tryz.prog.types.size = n at *
  exact ⟨n - 1, (Nat.succ_pred_eq_of_pos (Nat.lt_of_le_of_lt (Nat.zero_le _) h)).symm⟩
theorem key_id (a b : Int) (wa : (Lit.int .i64 a).wf = true) (wb : (Lit.int .i64 b).wf = true) : ∃ l, keyOf Tryz.prog 40 (.agg #[.int .i64 a, .int .i64 b]) = some l := by
  have hfm : (Value.agg #[.int .i64 a, .int .i64 b]).formed Tryz.prog 40 = true := by simp [Value.formed, Tryz.underlying40, idCells]
  obtain ⟨m, hm⟩ := typesN
  unfold keyOf
  simp only [Tryz.underlying40, idKeyType, hfm, Bool.and_self, if_true, hm]
  unfold Program.keyLits
  simp only [Tryz.underlying40]
  simp [idCells, intCells, Value.cells, Program.keyLits, Tryz.underlying3, wa, wb]
/-- numbers that fit -/
def FitI (x : Nat × Nat) : Prop := x.1 ≤ 1000000000 ∧ x.2 ≤ 1000000000
theorem key_fit {x : Nat × Nat} (h : FitI x) : ∃ l, keyOf Tryz.prog 40 (idV x) = some l := by
  refine key_id _ _ ?_ ?_
  · have := h.1; simp [Lit.wf, IntKind.min, IntKind.max, IntKind.bits, IntKind.signed]; omega
  · have := h.2; simp [Lit.wf, IntKind.min, IntKind.max, IntKind.bits, IntKind.signed]; omega
/-- the map holds just the events of s -/
def SeenM (w : World) (b n : Nat) (s : List (Nat × Nat)) : Prop :=
  ∃ D : DataW Unit, w.ownsMap Tryz.prog 40 (plainElem Tryz.prog 4) b n D ∧ ∀ x l, keyOf Tryz.prog 40 (idV x) = some l → D.atKey l (.lit (.bool false)) = .lit (.bool (decide (x ∈ s)))
theorem SeenM.made (w : World) : SeenM (w.alloc (.map #[] 0)) w.heap.size 0 [] :=
  ⟨.map [], World.ownsMap_made w _ _ _, fun x l _ => by simp [DataW.atKey]⟩
theorem SeenM.kept {w w' : World} {b n : Nat} {s : List (Nat × Nat)} {row : Option Nat} (h : SeenM w b n s) (hg : w.grownBy w' row) (hne : some b ≠ row) : SeenM w' b n s := by
  obtain ⟨D, h1, h2⟩ := h
  exact ⟨D, h1.kept hg hne, h2⟩
theorem SeenM.lt {w : World} {b n : Nat} {s : List (Nat × Nat)} (h : SeenM w b n s) : b < w.heap.size := by
  obtain ⟨D, h1, -⟩ := h
  exact h1.lt
theorem SeenM.ex {w w' : World} {b n : Nat} {s : List (Nat × Nat)} (h : SeenM w b n s) (hx : Ex w w') : SeenM w' b n s :=
  h.kept (row := none) ⟨hx.below.os, hx.below.tape, hx.below.output, hx.below.size, fun k hk _ => hx.below.block k hk⟩ (by simp)
theorem bool_of_plain {v : Value} {x : DataW Unit × List MemPlace} (h : plainElem Tryz.prog 4 v = some x) : ∃ c, v = .bool c ∧ x = (.lit (.bool c), []) := by
  unfold plainElem at h
  simp only [Tryz.underlying4] at h
  cases v <;> simp at h
  rename_i c
  exact ⟨c, rfl, h.symm⟩
theorem SeenM.look {w : World} {b n : Nat} {s : List (Nat × Nat)} (h : SeenM w b n s) {x : Nat × Nat} (hx : FitI x) : (Instr.lookup 179 (.map (some b)) (idV x) false).run Tryz.prog w = .ok (.bool (decide (x ∈ s))) w := by
  obtain ⟨D, h1, h2⟩ := h
  obtain ⟨l, hl⟩ := key_fit hx
  obtain ⟨v, ps, hrun, hv⟩ := h1.lookup idKeyed Tryz.underlying179 (zeroBool w) (zd := .lit (.bool false)) (zp := []) (by simp [plainElem, Tryz.underlying4]) hl
  obtain ⟨c, rfl, he⟩ := bool_of_plain hv
  rw [hrun]
  have h3 := congrArg Prod.fst he
  simp only at h3
  rw [h2 x l hl] at h3
  simp only [DataW.lit.injEq, Lit.bool.injEq] at h3
  rw [h3]
theorem SeenM.put {w : World} {b n : Nat} {s : List (Nat × Nat)} (h : SeenM w b n s) (hn : n < maxLen) {x : Nat × Nat} (hx : FitI x) :
    ∃ w', (Instr.mapUpdate 179 (.map (some b)) (idV x) (.bool true)).run Tryz.prog w = .ok () w' ∧ SeenM w' b (n + 1) (x :: s) ∧ w.grownBy w' (some b) := by
  obtain ⟨D, h1, h2⟩ := h
  obtain ⟨l, hl⟩ := key_fit hx
  obtain ⟨w', hrun, ho, hg⟩ := h1.update idKeyed Tryz.underlying179 hn hl (val := .bool true) (d := .lit (.bool true)) (ps := []) (by simp [plainElem, Tryz.underlying4])
  refine ⟨w', hrun, ⟨_, ho, fun y l' hl' => ?_⟩, hg⟩
  by_cases hxy : y = x
  · subst hxy
    rw [hl] at hl'
    cases hl'
    have hm : Go.Maps.IsMap D := by
      obtain ⟨es, clock, -, -, -, hD⟩ := h1
      exact ⟨_, hD⟩
    rw [Go.Maps.atKey_put_same hm (idKeyed.key hl)]
    simp
  · have hne : l' ≠ l := fun he => by
      rw [he] at hl'
      have := idKeyed.inj hl hl'
      unfold idV at this
      simp only [Value.agg.injEq, Array.mk.injEq, List.cons.injEq, Value.int.injEq, true_and, and_true] at this
      apply hxy
      obtain ⟨a, b⟩ := x
      obtain ⟨c, d⟩ := y
      simp only [Prod.mk.injEq] at this ⊢
      omega
    rw [Go.Maps.atKey_put_other hne, h2 y l' hl']
    simp [hxy]
end
section
open Go.RowKit Go.Shelf
theorem OwnO.one {w : World} {g base t size : Nat} {cs : List Value} (h : Blk w g t cs) (hb : base ≤ g) (hs : cs.length = size) : OwnO w base t size (.slice (some ⟨g, 0, none⟩) 1 1) 1 cs :=
  ⟨by rw [Nat.one_mul]; exact hs, .inr ⟨g, 0, 1, cs.toArray, rfl, hb, h, Nat.le_refl _, by simp [maxLen], by simp [hs], by simp [← hs]⟩⟩
theorem OwnO.noMap {w : World} {base : Nat} {e : TypeId} {size : Nat} {v : Value} {n : Nat} {xs : List Value} (h : OwnO w base e size v n xs) {b k : Nat} {s : List (Nat × Nat)} (hm : SeenM w b k s) : some b ≠ v.ownBlock := by
  obtain ⟨D, ⟨es, clock, hb, -⟩, -⟩ := hm
  rcases h.2 with ⟨rfl, _⟩ | ⟨g, o, cap, cur, rfl, -, hgg, _⟩
  · simp [Value.ownBlock]
  · intro he
    simp only [Value.ownBlock, Option.some.injEq] at he
    subst he
    rw [hb] at hgg
    cases hgg
theorem Blk.noMap {w : World} {g t : Nat} {cs : List Value} (h : Blk w g t cs) {b k : Nat} {s : List (Nat × Nat)} (hm : SeenM w b k s) : g ≠ b := by
  obtain ⟨D, ⟨es, clock, hb, -⟩, -⟩ := hm
  rintro rfl
  unfold Blk at h
  rw [hb] at h
  cases h
theorem wpListIn_append_one {F : Fence} {nF : Nat} {P : Program} (w : World) {ops : Array Oper} {rest : List Oper} {o : Oper} {a : Act} {Q : Exit → Act → World → Prop} (hgd : o.guard = none) (s x : Operand) (t : TypeId)
    (ho : o.op = .call { callee := .builtin .append, args := #[s, x], argTypes := #[t, t] })
    (base : Nat) (e : TypeId) (i : TypeInfo) (z : Value) (size bytes : Nat) (ht : P.underlying t = some (.slice e)) (hi : P.info? e = some i) (hz : i.zero = some z)
    (hsize : i.size = size) (hby : i.bytes = bytes) (hzs : z.cells.size = size)
    (v : Value) (n : Nat) (xs : List Value) (hs : a.eval s = v) (hown : OwnO w base e size v n xs)
    (nb : Nat) (news : List Value) (hx : a.eval x = .slice (some ⟨nb, 0, none⟩) 1 1) (hl : news.length = size) (hnews : ∀ (j : Nat) (u : Value), news[j]? = some u → w.cell? ⟨nb, j, none⟩ = some u) (h1 : ∀ u ∈ news, u.oneCell' = true)
    (h63 : n ≤ 1000000000) (hb100 : bytes ≤ 1000) (hbase : base ≤ w.heap.size)
    (h : ∀ A c w', OwnO w' base e size (.slice A (n + 1) c) (n + 1) (xs ++ news) → w.grownBy w' v.ownBlock → ((Value.slice A (n + 1) c).ownBlock = v.ownBlock ∨ (Value.slice A (n + 1) c).ownBlock = some w.heap.size) → (∀ a0, Ex a0 w → a0.heap.size ≤ base → Ex a0 w') → wpListIn F nF P ops Q rest (a.put o.dst (.slice A (n + 1) c)) w') : wpListIn F nF P ops Q (o :: rest) a w := by
  refine wpListIn_plain hgd fun K hK => ?_
  have hnews' : ∀ (j : Nat) (u : Value), news[j]? = some u → w.cell? ((⟨nb, 0, none⟩ : Addr).add j) = some u := fun j u hj => by
    have hadd : (⟨nb, 0, none⟩ : Addr).add j = ⟨nb, j, none⟩ := by
      unfold Addr.add; split
      · rename_i h0; rw [h0]
      · simp
    rw [hadd]
    exact hnews j u hj
  obtain ⟨v', w', hr, h2, h3, h4⟩ := run_append_ownO (P := P) w base t o.type e i z size bytes ht hi hz hsize hby hzs v n xs hown ⟨nb, 0, none⟩ 1 1 news (by rw [Nat.one_mul]; exact hl) hnews' h1 (by unfold maxLen; omega) (by have := Nat.mul_le_mul (show n + 1 ≤ 1000000001 by omega) hb100; omega) hbase
  obtain ⟨A, c, rfl, -, -⟩ := h2.len
  unfold Oper.wpIn
  refine ⟨?_, ?_⟩
  · simp [Oper.about, ho, resolve, Target.leads, Sem.run_pure]
  · rw [Oper.semAt_plain F _ _ (by rw [ho]; intro c hc'; cases hc')]
    simp [execOp, ho, resolve, invoke, builtin, hs, hx, hr, Result.andThen]
    exact hK _ _ (h A c w' h2 h3 h4 fun a0 hx0 hb0 => hx0.grown h3 fun k hk => Nat.le_trans hb0 (hown.lt k hk).1)
theorem idCs_len : ∀ l : List (Nat × Nat), (idCs l).length = l.length * 2
  | [] => rfl
  | x :: l => by
    have := idCs_len l
    unfold idCs at *
    rw [List.flatMap_cons, List.length_append, this, List.length_cons]
    simp only [List.length_cons, List.length_nil]
    omega
theorem srch_any {t : List Pr} {z x y : Nat × Nat} {s r : List (Nat × Nat)} (h : Srch t z s r x []) : Srch t z s r y [] :=
  ⟨h.nodup, h.seen, h.rest, fun hb => absurd rfl hb, fun v hv => absurd hv List.not_mem_nil, fun u v hu hr hd => by
    rcases h.done u v hu hr hd with hv | ⟨-, hv⟩
    · exact .inl hv
    · exact absurd hv List.not_mem_nil⟩
/-- what cyclic hands back -/
def CycR (t : List Pr) (w : World) (e : Ending) (w' : World) : Prop :=
  (e = .returned (.tuple #[idV (0, 0), .bool false]) ∧ (∀ x, ¬ OnC t x) ∧ Ex w w') ∨ (∃ x, e = .returned (.tuple #[idV x, .bool true]) ∧ IsF t (OnC t) x ∧ Ex w w')
theorem results_cyc {fn : Func} {p q g h : Nat} {a b u : Value} {w : World} {tmps : Array Value} (hr : fn.results = #[.cell p 40, .cell q 4]) (hp : tmps.getD p undef = .pointer (some ⟨g, 0, none⟩)) (hq : tmps.getD q undef = .pointer (some ⟨h, 0, none⟩)) (hB : Blk w g 40 [a, b]) (hC : Blk w h 4 [u]) :
    (results fn tmps).run Tryz.prog w = .ok (.tuple #[.agg #[a, b], u]) w := by
  have h0 : w.cell? ⟨g, 0, none⟩ = some a := hB.cell 0
  have h1 : w.cell? ⟨g, 1, none⟩ = some b := hB.cell 1
  have h2 : w.cell? ⟨h, 0, none⟩ = some u := hC.cell 0
  rw [Array.getD_eq_getD_getElem?] at hp hq
  simp [results, hr, hp, hq, go_sem, h0, h1, h2]
/-- the two results are written -/
theorem cyc_ret {w W : World} {a b u : Value} {p i er : Value} (g1 : Blk W (w.heap.size + 1 + 1) 40 [a, b]) (g2 : Blk W (w.heap.size + 1 + 1 + 1) 4 [u]) (gX : Ex w W) :
    Blk (((W.setCell ⟨w.heap.size + 1 + 1, 0, none⟩ p).setCell ⟨w.heap.size + 1 + 1, 1, none⟩ i).setCell ⟨w.heap.size + 1 + 1 + 1, 0, none⟩ er) (w.heap.size + 1 + 1) 40 [p, i] ∧
    Blk (((W.setCell ⟨w.heap.size + 1 + 1, 0, none⟩ p).setCell ⟨w.heap.size + 1 + 1, 1, none⟩ i).setCell ⟨w.heap.size + 1 + 1 + 1, 0, none⟩ er) (w.heap.size + 1 + 1 + 1) 4 [er] ∧
    Ex w (((W.setCell ⟨w.heap.size + 1 + 1, 0, none⟩ p).setCell ⟨w.heap.size + 1 + 1, 1, none⟩ i).setCell ⟨w.heap.size + 1 + 1 + 1, 0, none⟩ er) ∧
    KeepsOthers W (((W.setCell ⟨w.heap.size + 1 + 1, 0, none⟩ p).setCell ⟨w.heap.size + 1 + 1, 1, none⟩ i).setCell ⟨w.heap.size + 1 + 1 + 1, 0, none⟩ er) := by
  refine ⟨?_, ?_, ?_, ?_⟩
  · exact ((g1.set_ 0 p).set_ 1 i).far (p := ⟨w.heap.size + 1 + 1 + 1, 0, none⟩) (by show _ ≠ w.heap.size + 1 + 1 + 1; omega) er
  · exact ((g2.far (p := ⟨w.heap.size + 1 + 1, 0, none⟩) (by show _ ≠ w.heap.size + 1 + 1; omega) p).far (p := ⟨w.heap.size + 1 + 1, 1, none⟩) (by show _ ≠ w.heap.size + 1 + 1; omega) i).set_ 0 er
  · exact ((gX.setCell (p := ⟨w.heap.size + 1 + 1, 0, none⟩) (by show _ ≤ w.heap.size + 1 + 1; omega) p).setCell (p := ⟨w.heap.size + 1 + 1, 1, none⟩) (by show _ ≤ w.heap.size + 1 + 1; omega) i).setCell (p := ⟨w.heap.size + 1 + 1 + 1, 0, none⟩) (by show _ ≤ w.heap.size + 1 + 1 + 1; omega) er
  · exact ((KeepsOthers.setCell W _ _).trans (KeepsOthers.setCell _ _ _)).trans (KeepsOthers.setCell _ _ _)
attribute [local go_sem] Oper.semAt_some
set_option maxRecDepth 100000 in
set_option maxHeartbeats 6400000 in
theorem cyclic_c (t : List Pr) (A : Option Addr) (c nl : Nat) (w : World) (hT : TcC w A t) (hs : TSm t) (hf : ∀ x, InT t x → formE t x = 0) (hP : Paired t) (hL : Blk w nl 177 (ltC fun m => (findO t 2 (m : Int), findO t 3 (m : Int)))) :
    Calls Tryz.prog 92 #[.agg #[.slice A t.length c], .pointer (some ⟨nl, 0, none⟩)] w (CycR t w) := by
  have hse := hs.events
  have HEn : Hid (∀ x, InT t x → FitI x) := fun x hx => by
    have h1 := hx.1
    have h2 := hx.2
    have hlt : x.1 < t.length := Nat.lt_of_not_le fun hle => by
      unfold evN at h2
      rw [List.getElem?_eq_none hle] at h2
      simp only at h2
      omega
    have hel := (hs.each _ (List.mem_of_getElem? (List.getElem?_eq_getElem hlt))).2.2.1
    have hl := hs.procs
    unfold evN at h2
    rw [List.getElem?_eq_getElem hlt] at h2
    simp only at h2
    exact ⟨by omega, by omega⟩
  have HAf : Hid (∀ p i w', Ex w w' → i < evN t p → Calls Tryz.prog 122 #[.agg #[.slice A t.length c], .pointer (some ⟨nl, 0, none⟩), .agg #[.int .i64 p, .int .i64 ((i : Int) + 1)]] w' (AftR t (p, i + 1) w')) := fun p i w' h hi => after_c t A c p i nl w' (hT.ex h) hs hi hf (hL.ex h)
  have HPd := Lib.hid hP
  obtain ⟨i0, hi0, hz0, hz1, hz2⟩ := info_parts infoId
  obtain ⟨W0, hW0⟩ : ∃ W0, W0 = ((((w.alloc (.cells #[.slice A t.length c] 24)).alloc (.cells #[.pointer (some ⟨nl, 0, none⟩)] 148)).alloc (.cells #[.int .i64 0, .int .i64 0] 40)).alloc (.cells #[.bool false] 4)).alloc (.cells #[.slice A t.length c] 24) := ⟨_, rfl⟩
  have HX0 : Hid (Ex w W0) := by rw [hW0]; exact (((((Ex.refl w).alloc _).alloc _).alloc _).alloc _).alloc _
  have HS0 : Hid (W0.heap.size = w.heap.size + 5) := Lib.hid (by rw [hW0]; simp)
  have h0 : Blk W0 w.heap.size 24 [.slice A t.length c] := by rw [hW0]; exact ((((Blk.new w _ _).alloc _).alloc _).alloc _).alloc _
  have h1 : Blk W0 (w.heap.size + 1) 148 [.pointer (some ⟨nl, 0, none⟩)] := by
    rw [hW0, show w.heap.size + 1 = (w.alloc (.cells #[.slice A t.length c] 24)).heap.size by simp]; exact (((Blk.new _ _ _).alloc _).alloc _).alloc _
  have h2 : Blk W0 (w.heap.size + 1 + 1) 40 [.int .i64 0, .int .i64 0] := by
    rw [hW0, show w.heap.size + 1 + 1 = ((w.alloc (.cells #[.slice A t.length c] 24)).alloc (.cells #[.pointer (some ⟨nl, 0, none⟩)] 148)).heap.size by simp]; exact ((Blk.new _ _ _).alloc _).alloc _
  have h3 : Blk W0 (w.heap.size + 1 + 1 + 1) 4 [.bool false] := by
    rw [hW0, show w.heap.size + 1 + 1 + 1 = (((w.alloc (.cells #[.slice A t.length c] 24)).alloc (.cells #[.pointer (some ⟨nl, 0, none⟩)] 148)).alloc (.cells #[.int .i64 0, .int .i64 0] 40)).heap.size by simp]; exact (Blk.new _ _ _).alloc _
  have h4 : Blk W0 (w.heap.size + 1 + 1 + 1 + 1) 24 [.slice A t.length c] := by
    rw [hW0, show w.heap.size + 1 + 1 + 1 + 1 = ((((w.alloc (.cells #[.slice A t.length c] 24)).alloc (.cells #[.pointer (some ⟨nl, 0, none⟩)] 148)).alloc (.cells #[.int .i64 0, .int .i64 0] 40)).alloc (.cells #[.bool false] 4)).heap.size by simp]; exact Blk.new _ _ _
  have hw0 : w.heap.size + 5 = W0.heap.size := HS0.out.symm
  have HW0 := Lib.hid hW0
  refine (callsIn_wide (n := 9)).1 ?_
  refine callsIn_of_wp_marks Tryz.func92 rfl trivial ?_ rfl
  simp only [Tryz.ntmps92, List.size_toArray, List.length_cons, List.length_nil, Nat.reduceAdd, Nat.reduceSub, Array.replicate_succ, Array.replicate_zero, List.push_toArray, List.append_toArray, List.nil_append, List.cons_append]
  clear hW0
  gi_wp2_with (refine ⟨trivial, ?_⟩; gi_at_call 89; refine (events_in _ _ trivial rfl _ _ _ _).mono ?_; rintro e w' ⟨rfl, rfl⟩)
  rw [← HW0.out]
  refine wpIn_rangeFunc_ownH rfl (by decide) (gf := 117) (lb := #[.pointer (some ⟨w.heap.size + 1 + 1 + 1 + 1, 0, none⟩)]) rfl trivial (enters_of Tryz.func117 (by kernel_rfl) rfl)
    (events_stops Fence.wide 8 trivial rfl (by decide) t A c (w.heap.size + 1 + 1 + 1 + 1) w hT hs W0 HX0.out (by omega) (h4.cell 0)) belowK_t (belowK_b (by omega)) (Below.refl _ _) (fun _ => rfl)
    (fun pre W => (Blk W w.heap.size 24 [.slice A t.length c] ∧ Blk W (w.heap.size + 1) 148 [.pointer (some ⟨nl, 0, none⟩)] ∧ Blk W (w.heap.size + 1 + 1) 40 [.int .i64 0, .int .i64 0] ∧ Blk W (w.heap.size + 1 + 1 + 1) 4 [.bool false]) ∧ Ex w W ∧ ∀ y ∈ pre, ¬ OnC t (y.1.p, y.1.i + 1))
    (fun cd pre W => cd = .ret ∧ ∃ a x, pre = a ++ [x] ∧ (∀ y ∈ a, ¬ OnC t (y.1.p, y.1.i + 1)) ∧ OnC t (x.1.p, x.1.i + 1) ∧ Blk W (w.heap.size + 1 + 1) 40 [.int .i64 x.1.p, .int .i64 ((x.1.i : Int) + 1)] ∧ Blk W (w.heap.size + 1 + 1 + 1) 4 [.bool true] ∧ Ex w W)
    (fun s X Y row hs hg hr => ⟨⟨hs.1.1.own hg hr, hs.1.2.1.own hg hr, hs.1.2.2.1.own hg hr, hs.1.2.2.2.own hg hr⟩, hs.2.1.own (by omega) hg hr, hs.2.2⟩)
    (fun cd s X Y row hs hg hr => by
      obtain ⟨h1, a, x, h2, h3, h4, h5, h6, h7⟩ := hs
      exact ⟨h1, a, x, h2, h3, h4, h5.own hg hr, h6.own hg hr, h7.own (by omega) hg hr⟩)
    ⟨⟨h0, h1, h2, h3⟩, HX0.out, fun y h => absurd h List.not_mem_nil⟩
    (fun x a' W => ∃ b1, w.heap.size + 4 ≤ b1 ∧ Blk W b1 40 [.int .i64 x.1.p, .int .i64 ((x.1.i : Int) + 1)] ∧ a' = { tmps := #[.agg #[.slice A t.length c], .pointer (some ⟨nl, 0, none⟩), .pointer (some ⟨w.heap.size, 0, none⟩), .pointer (some ⟨w.heap.size + 1, 0, none⟩), .pointer (some ⟨w.heap.size + 1 + 1, 0, none⟩), .pointer (some ⟨w.heap.size + 1 + 1 + 1, 0, none⟩), .pointer (some ⟨b1, 0, none⟩), undef, undef, undef, undef, undef, .agg #[.slice A t.length c], .func (.func 117) #[] #[.pointer (some ⟨w.heap.size + 1 + 1 + 1 + 1, 0, none⟩)], .agg #[.int .i64 x.1.p, .int .i64 ((x.1.i : Int) + 1)], .agg #[.int .i64 x.1.e.kind, .int .i64 x.1.e.peer, .int .i64 x.1.e.msg, .int .i64 x.1.e.time, .slice x.1.B x.1.e.asg.length x.1.bc], undef, undef, undef, undef, undef, undef, undef, undef, undef, undef, undef, undef, undef, undef, undef, undef, undef, undef, undef, undef, undef, undef, undef, undef, undef, undef, undef, undef, undef, undef, undef, undef, undef, undef, undef, undef, undef, undef, undef, undef, undef, undef], defers := [] })
    (fun x a' u X Y row hs hg hr => by
      obtain ⟨b1, q1, q2, q3⟩ := hs
      exact ⟨b1, q1, q2.own hg hr, q3⟩)
    ?assign ?body ?done ?stop
  case assign =>
    rintro l pre x W K ⟨⟨g0, g1, g2, g3⟩, gX, gC⟩ hK
    have hsz := g3.lt
    unfold encI
    gi_wp2
    exact hK _ _ ((KeepsOthers.alloc _ _).from _) ((Below.refl _ W).alloc (by omega) _)
      ⟨⟨g0.alloc _, g1.alloc _, g2.alloc _, g3.alloc _⟩, gX.alloc _, gC⟩
      ⟨W.heap.size, by omega, Blk.new W _ _, rfl⟩
  case body =>
    rintro l pre x a' W hl - ⟨⟨g0, g1, g2, g3⟩, gX, gC⟩ ⟨b1, hb1, qI, rfl⟩ -
    have hwW : w.heap.size ≤ W.heap.size := gX.below.size
    have i0' := qI.cell 0
    have i1' := qI.cell 1
    have il := qI.lt
    have hmm := @run_makeMap Tryz.prog
    have hzin := item_in x
    obtain ⟨W2, hW2⟩ : ∃ W2, W2 = (W.alloc (.map #[] 0)).alloc (.cells #[.int .i64 x.1.p, .int .i64 ((x.1.i : Int) + 1)] 40) := ⟨_, rfl⟩
    have HW2 := Lib.hid hW2
    have HX2 : Hid (Ex W W2) := by rw [hW2]; exact ((Ex.refl W).alloc _).alloc _
    have HM2 : Hid (SeenM W2 W.heap.size 0 []) := by rw [hW2]; exact (SeenM.made W).kept (World.grownBy_alloc _ _ none) (by simp)
    have HO2 : Hid (OwnO W2 W.heap.size 40 2 (.slice (some ⟨W.heap.size + 1, 0, none⟩) [(x.1.p, x.1.i + 1)].length 1) [(x.1.p, x.1.i + 1)].length (idCs [(x.1.p, x.1.i + 1)])) := by
      have hb : Blk W2 (W.heap.size + 1) 40 [.int .i64 x.1.p, .int .i64 ((x.1.i : Int) + 1)] := by
        rw [hW2, show W.heap.size + 1 = (W.alloc (.map #[] 0)).heap.size by simp]; exact Blk.new _ _ _
      exact OwnO.one hb (by omega) rfl
    have HG0 : Hid (∀ W', Ex W W' → Blk W' w.heap.size 24 [.slice A t.length c]) := fun W' h => g0.ex h
    have HG1 : Hid (∀ W', Ex W W' → Blk W' (w.heap.size + 1) 148 [.pointer (some ⟨nl, 0, none⟩)]) := fun W' h => g1.ex h
    have HG2 : Hid (∀ W', Ex W W' → Blk W' (w.heap.size + 1 + 1) 40 [.int .i64 0, .int .i64 0]) := fun W' h => g2.ex h
    have HG3 : Hid (∀ W', Ex W W' → Blk W' (w.heap.size + 1 + 1 + 1) 4 [.bool false]) := fun W' h => g3.ex h
    have HQI : Hid (∀ W', Ex W W' → Blk W' b1 40 [.int .i64 x.1.p, .int .i64 ((x.1.i : Int) + 1)]) := fun W' h => qI.ex h
    have HgX := Lib.hid gX
    have HgC := Lib.hid gC
    have Hzin := Lib.hid hzin
    clear g0 g1 g2 g3 gX gC qI hzin hW2
    gi_wp2
    rw [← HW2.out]
    generalize hz : (x.1.p, x.1.i + 1) = z at *
    clear i0' i1' il
    gi_loopg [8] (2 * sumN t + 1) (fun gg v wr => ∃ (s r : List (Nat × Nat)) (A5 : Option Addr) (c5 : Nat), v = .slice A5 r.length c5 ∧ 2 * (sumN t - s.length) + r.length ≤ gg ∧ 2 * (sumN t - s.length) + r.length ≤ 2 * sumN t + 1 ∧ Hid (Srch t z s r z [] ∧ OwnO wr W.heap.size 40 2 (.slice A5 r.length c5) r.length (idCs r) ∧ SeenM wr W.heap.size s.length s ∧ Ex W wr))
    case atStart => exact ⟨[], [z], _, _, rfl, by simp only [List.length_nil, List.length_singleton]; omega, by simp only [List.length_nil, List.length_singleton]; omega, Lib.hid ⟨srch_start t z, HO2.out, HM2.out, HX2.out⟩⟩
    case round =>
      clear HO2 HM2 HX2 HW2
      obtain ⟨s, r, A5, c5, rfl, hgg, hbd, HH⟩ := hrel
      rcases List.eq_nil_or_concat r with rfl | ⟨r0, u, hru⟩
      · have HI : Hid ((Blk wr w.heap.size 24 [.slice A t.length c] ∧ Blk wr (w.heap.size + 1) 148 [.pointer (some ⟨nl, 0, none⟩)] ∧ Blk wr (w.heap.size + 1 + 1) 40 [.int .i64 0, .int .i64 0] ∧ Blk wr (w.heap.size + 1 + 1 + 1) 4 [.bool false]) ∧ Ex w wr ∧ ∀ y ∈ pre ++ [x], ¬ OnC t (y.1.p, y.1.i + 1)) := by
          have hx := HH.out.2.2.2
          refine ⟨⟨HG0.out _ hx, HG1.out _ hx, HG2.out _ hx, HG3.out _ hx⟩, HgX.out.trans hx, fun y hy => ?_⟩
          rcases List.mem_append.1 hy with hy | hy
          · exact HgC.out y hy
          · rw [List.mem_singleton.1 hy, hz]; exact srch_end HH.out.1
        gi_wp2
        exact ⟨HH.out.2.2.2.keeps.from _, HH.out.2.2.2.below.mono hwW, HI.out⟩
      · rw [List.concat_eq_append] at hru
        subst hru
        have hu : u = z ∨ u ∈ s := HH.out.1.rest u (by simp)
        have huin : InT t u := by
          rcases hu with rfl | hu
          · exact Hzin.out
          · exact (hap_in (HH.out.1.seen u hu).1).2
        obtain ⟨u1, u2⟩ := u
        obtain ⟨j, rfl⟩ : ∃ j, u2 = j + 1 := ⟨u2 - 1, by have := huin.1; simp only at this; omega⟩
        have hj : j < evN t u1 := huin.2
        have hlen : (r0 ++ [(u1, j + 1)]).length = r0.length + 1 := by simp
        rw [hlen] at HH hgg hbd
        obtain ⟨g, o, cap, hv, hcap, hmx, hgb, hgl, hcell⟩ := HH.out.2.1.open_ (by omega)
        cases hv
        have hpg := pair_get (fun x : Nat × Nat => Value.int .i64 (x.1 : Nat)) (fun x => .int .i64 (x.2 : Nat)) (r0 ++ [(u1, j + 1)]) r0.length (u1, j + 1) (by simp)
        have k0 : wr.cell? ⟨g, o + r0.length * 2, none⟩ = some (.int .i64 (u1 : Nat)) := hcell _ _ hpg.1
        have k1 : wr.cell? ⟨g, o + r0.length * 2 + 1, none⟩ = some (.int .i64 ((j : Int) + 1)) := by rw [Nat.add_assoc]; exact hcell _ _ hpg.2
        have HTl : Hid (OwnO wr W.heap.size 40 2 (.slice (some ⟨g, o, none⟩) r0.length c5) r0.length (idCs r0)) := by
          have h := HH.out.2.1.init (k := r0.length) (by omega)
          have he : (idCs (r0 ++ [(u1, j + 1)])).take (r0.length * 2) = idCs r0 := by
            rw [idCs_snoc]
            have hl2 : (idCs r0).length = r0.length * 2 := idCs_len r0
            rw [← hl2, List.take_left]
          rw [he] at h
          exact h
        have e1 : IntKind.i64.wrap ((r0.length : Int) + 1 - 1) = (r0.length : Int) := by rw [IntWalk.i64_in _ (by omega)]; omega
        have m0 : (0 : Int) ≤ (r0.length : Int) := by omega
        have m1 : (r0.length : Int) < (r0.length : Int) + 1 := by omega
        have m2 : (r0.length : Int) ≤ (c5 : Int) := by omega
        have m3 : r0.length ≤ c5 := by omega
        have hG0 := HG0.out _ HH.out.2.2.2
        have hG1 := HG1.out _ HH.out.2.2.2
        have q0 := hG0.cell 0
        have ql0 := hG0.lt
        have q1 := hG1.cell 0
        have ql1 := hG1.lt
        have HXu := Lib.hid (HH.out.2.2.2.alloc (.cells #[.int .i64 u1, .int .i64 ((j : Int) + 1)] 40))
        have HA1 := Lib.hid (HAf.out u1 j _ (HgX.out.trans HXu.out) hj)
        have HD0 : Hid (∀ v, v ∈ aftL t (u1, j + 1) ↔ Dir t (u1, j + 1) v) := fun v => mem_aftL HPd.out huin
        clear hcell hpg hG0 hG1 huin hu
        gi_wp2_with (refine ⟨trivial, ?_⟩; gi_at_call 122; refine (CallsIn.inRound l (callsIn_wide.2 HA1.out)).mono ?_; rintro e w8 ⟨A8, c8, rfl, ho8, hx8⟩)
        have hx8w := HH.out.2.2.2.trans (((Ex.refl wr).alloc (.cells #[.int .i64 u1, .int .i64 ((j : Int) + 1)] 40)).trans hx8)
        have hxw8 : Ex wr w8 := ((Ex.refl wr).alloc (.cells #[.int .i64 u1, .int .i64 ((j : Int) + 1)] 40)).trans hx8
        have hd2 := aftL_len t (u1, j + 1)
        generalize aftL t (u1, j + 1) = D at *
        have H8 : Hid (Srch t z s r0 (u1, j + 1) D ∧ OwnO w8 W.heap.size 40 2 (.slice (some ⟨g, o, none⟩) r0.length c5) r0.length (idCs r0) ∧ SeenM w8 W.heap.size s.length s ∧ Ex W w8 ∧ OwnO w8 W.heap.size 40 2 (.slice A8 D.length c8) D.length (idCs D) ∧ ∀ k, (Value.slice (some ⟨g, o, none⟩) r0.length c5).ownBlock = some k → (Value.slice A8 D.length c8).ownBlock ≠ some k) :=
          ⟨srch_pop HH.out.1 HD0.out, HTl.out.ex hxw8, HH.out.2.2.1.ex hxw8, hx8w, ho8.mono HXu.out.below.size, fun k hk hk2 => by
            have h1 : g = k := by simpa [Value.ownBlock] using hk
            have h2 := (ho8.lt k hk2).1
            simp only [World.size_alloc] at h2
            omega⟩
        have hr0 : r0.length ≤ 2 * sumN t := by omega
        clear ho8 hx8 hx8w hxw8 HTl HD0 HA1 HXu k0 k1 q0 ql0 q1 ql1 HH hgb hgl
        gi_loopw [8, 38] (fun v k wr => ∃ (q : Nat) (s' r' : List (Nat × Nat)) (A6 : Option Addr) (c6 : Nat), v = .slice A6 r'.length c6 ∧ k = .int .i64 q ∧ q ≤ D.length ∧ 2 * (sumN t - s'.length) + r'.length ≤ 2 * (sumN t - s.length) + r0.length ∧ Hid (Srch t z s' r' (u1, j + 1) (D.drop q) ∧ OwnO wr W.heap.size 40 2 (.slice A6 r'.length c6) r'.length (idCs r') ∧ SeenM wr W.heap.size s'.length s' ∧ Ex W wr ∧ OwnO wr W.heap.size 40 2 (.slice A8 D.length c8) D.length (idCs D) ∧ ∀ k, (Value.slice A6 r'.length c6).ownBlock = some k → (Value.slice A8 D.length c8).ownBlock ≠ some k)) (fun _ k _ => D.length - (intOf k).toNat)
        case atStart => exact ⟨0, s, r0, _, _, rfl, rfl, Nat.zero_le _, Nat.le_refl _, H8⟩
        case round =>
          clear H8
          obtain ⟨q, s', r', A6, c6, rfl, rfl, hq, hms, HH⟩ := hrel
          by_cases hqD : q < D.length
          · obtain ⟨⟨y1, y2⟩, hy⟩ : ∃ y, D[q]? = some y := ⟨_, List.getElem?_eq_getElem hqD⟩
            obtain ⟨gm, om, cm, hv3, -, -, -, hgl3, hcell3⟩ := HH.out.2.2.2.2.1.open_ (by omega)
            cases hv3
            have hpg := pair_get (fun x : Nat × Nat => Value.int .i64 (x.1 : Nat)) (fun x => .int .i64 (x.2 : Nat)) D q (y1, y2) hy
            have k0 : wr.cell? ⟨gm, om + q * 2, none⟩ = some (.int .i64 (y1 : Nat)) := hcell3 _ _ hpg.1
            have k1 : wr.cell? ⟨gm, om + q * 2 + 1, none⟩ = some (.int .i64 (y2 : Nat)) := by rw [Nat.add_assoc]; exact hcell3 _ _ hpg.2
            have m4 : (0 : Int) ≤ (q : Int) := by omega
            have m5 : (q : Int) < (D.length : Int) := by omega
            have hdrop : D.drop q = (y1, y2) :: D.drop (q + 1) := by
              rw [List.drop_eq_getElem_cons hqD]
              congr 1
              rw [List.getElem?_eq_getElem hqD] at hy
              exact Option.some.inj hy
            have hS : Srch t z s' r' (u1, j + 1) ((y1, y2) :: D.drop (q + 1)) := by rw [← hdrop]; exact HH.out.1
            have hyin : InT t (y1, y2) := (hS.pend (y1, y2) (List.mem_cons_self ..)).2.1
            have hyf := HEn.out (y1, y2) hyin
            have HSr := Lib.hid hS
            have hQI := HQI.out _ (HH.out.2.2.2.1.alloc (.cells #[.int .i64 y1, .int .i64 y2] 40))
            have v0 := hQI.cell 0
            have v1 := hQI.cell 1
            have vl := hQI.lt
            have hszs := srch_size hS
            have hXa : Ex wr (wr.alloc (.cells #[.int .i64 y1, .int .i64 y2] 40)) := (Ex.refl _).alloc _
            have hSe := HH.out.2.2.1.ex hXa
            have hlk := hSe.look hyf
            unfold idV at hlk
            clear hy hcell3 hpg hdrop hQI hS
            by_cases hyz : (y1, y2) = z
            · have hOC : OnC t z := srch_found (by rw [hyz] at HSr; exact HSr.out)
              have hy1 : y1 = x.1.p := by rw [← hz] at hyz; exact (Prod.mk.inj hyz).1
              have hy2 : y2 = x.1.i + 1 := by rw [← hz] at hyz; exact (Prod.mk.inj hyz).2
              clear hyz
              subst hy1 hy2
              have hXa' : Ex wr (wr.alloc (.cells #[.int .i64 x.1.p, .int .i64 ((x.1.i : Int) + 1)] 40)) := (Ex.refl _).alloc _
              have hXW := HH.out.2.2.2.1.trans hXa'
              clear v0 v1 vl hlk hSe hXa
              have hQI := HQI.out _ hXW
              have v0 := hQI.cell 0
              have v1 := hQI.cell 1
              have vl := hQI.lt
              have g2 := HG2.out _ hXW
              have g3 := HG3.out _ hXW
              have c2 := g2.cell 0
              have c3 := g2.cell 1
              have c4 := g3.cell 0
              have f2 := g2.frozen 0
              have f3 := g2.frozen 1
              have f4 := g3.frozen 0
              have ll2 := g2.lt
              have ll3 := g3.lt
              have HM := Lib.hid (cyc_ret (p := .int .i64 (x.1.p : Nat)) (i := .int .i64 ((x.1.i : Int) + 1)) (er := .bool true) g2 g3 (HgX.out.trans hXW))
              have HKp := Lib.hid hXW.keeps
              have HOC := Lib.hid hOC
              rw [← hz] at HOC
              clear g2 g3 hXW hXa' hQI
              gi_wp2
              exact ⟨(HKp.out.trans HM.out.2.2.2).from _, rfl, pre, x, rfl, HgC.out, HOC.out, HM.out.1, HM.out.2.1, HM.out.2.2.1⟩
            · have hnz : ¬ (y1 = x.1.p ∧ y2 = x.1.i + 1) := fun h => hyz (by rw [← hz, ← h.1, ← h.2])
              have hcmp : ((((y1 : Int) = (x.1.p : Int)) = False ∧ (y1 = x.1.p) = False) ∨ (y1 = x.1.p ∧ ((y2 : Int) = (x.1.i : Int) + 1) = False ∧ (y2 = x.1.i + 1) = False)) := by
                by_cases h1 : y1 = x.1.p
                · exact .inr ⟨h1, eq_false (fun h2 => hnz ⟨h1, by omega⟩), eq_false (fun h2 => hnz ⟨h1, h2⟩)⟩
                · exact .inl ⟨eq_false (by omega), eq_false h1⟩
              have Hyz := Lib.hid hyz
              have hXW := HH.out.2.2.2.1.trans hXa
              have hms2 : s'.length < maxLen := by unfold maxLen; omega
              obtain ⟨w9, hup, hS9, hg9⟩ := hSe.put hms2 hyf
              unfold idV at hup
              have HSe := Lib.hid hSe
              have HXW := Lib.hid hXW
              have HXa := Lib.hid hXa
              have HS9 := Lib.hid hS9
              have Hg9 := Lib.hid hg9
              have Hfit := Lib.hid hyf
              clear hnz hyz hXW hSe hXa hS9 hg9 hyf hyin
              by_cases hys : (y1, y2) ∈ s'
              · have hdb : decide ((y1, y2) ∈ s') = true := decide_eq_true hys
                rw [hdb] at hlk
                have HSr2 := Lib.hid (srch_old HSr.out hys)
                have HR : Hid (OwnO (wr.alloc (.cells #[.int .i64 y1, .int .i64 y2] 40)) W.heap.size 40 2 (.slice A6 r'.length c6) r'.length (idCs r') ∧ OwnO (wr.alloc (.cells #[.int .i64 y1, .int .i64 y2] 40)) W.heap.size 40 2 (.slice (some ⟨gm, om, none⟩) D.length c8) D.length (idCs D)) := ⟨HH.out.2.1.ex HXa.out, HH.out.2.2.2.2.1.ex HXa.out⟩
                clear hup
                rcases hcmp with ⟨s1, s2⟩ | ⟨rfl, s4, s5⟩
                all_goals
                  gi_wp2
                  refine ⟨⟨q + 1, s', r', A6, c6, rfl, by go_num, by omega, hms, Lib.hid ⟨HSr2.out, HR.out.1, HSe.out, HXW.out, HR.out.2, HH.out.2.2.2.2.2⟩⟩, by simp [intOf]; omega⟩
              · have hdb : decide ((y1, y2) ∈ s') = false := decide_eq_false hys
                rw [hdb] at hlk
                have hsz2 : s'.length + 1 ≤ sumN t := by
                  have h := srch_size (srch_new HSr.out hys Hyz.out)
                  simpa using h
                have HSr2 := Lib.hid (srch_new HSr.out hys Hyz.out)
                have hbx : Blk w9 wr.heap.size 40 [.int .i64 y1, .int .i64 y2] := (Blk.new wr _ _).grown Hg9.out (fun he => by have h1 := Option.some.inj he; have h2 := HH.out.2.2.1.lt; omega)
                have k9 := hbx.cell 0
                have k8 := hbx.cell 1
                have kl := hbx.lt
                have hEx9 : Ex W w9 := HXW.out.grown Hg9.out (fun k e => by cases e; exact Nat.le_refl _)
                have hO9 : OwnO w9 W.heap.size 40 2 (.slice A6 r'.length c6) r'.length (idCs r') := (HH.out.2.1.ex HXa.out).kept Hg9.out (.inr ((HH.out.2.1.ex HXa.out).noMap HSe.out).symm)
                have hD9 : OwnO w9 W.heap.size 40 2 (.slice (some ⟨gm, om, none⟩) D.length c8) D.length (idCs D) := (HH.out.2.2.2.2.1.ex HXa.out).kept Hg9.out (.inr ((HH.out.2.2.2.2.1.ex HXa.out).noMap HSe.out).symm)
                have hgm9 : gm < w9.heap.size := by have := (hD9.lt gm rfl).2; exact this
                have hrl : r'.length ≤ 1000000000 := by omega
                have hWs : W.heap.size ≤ w9.heap.size := hEx9.below.size
                have HO9 := Lib.hid (hO9.ex ((Ex.refl _).alloc (.cells #[.int .i64 y1, .int .i64 y2] 40)))
                have HD9 := Lib.hid (hD9.ex ((Ex.refl _).alloc (.cells #[.int .i64 y1, .int .i64 y2] 40)))
                have HS10 := Lib.hid (HS9.out.ex ((Ex.refl _).alloc (.cells #[.int .i64 y1, .int .i64 y2] 40)))
                have HEx9 := Lib.hid hEx9
                have HDis := Lib.hid HH.out.2.2.2.2.2
                clear hbx hEx9 hO9 hD9 hgl3
                rcases hcmp with ⟨s1, s2⟩ | ⟨rfl, s4, s5⟩
                · gi_wp2_with (gi_at_builtin; refine wpListIn_append_one _ rfl _ _ 161 rfl W.heap.size 40 i0 _ 2 16 Tryz.underlying161 hi0 hz0 hz1 hz2 rfl (.slice A6 r'.length c6) r'.length (idCs r') rfl HO9.out w9.heap.size [.int .i64 (y1 : Nat), .int .i64 (y2 : Nat)] rfl rfl (news_new rfl rfl) (one_ints (by simp)) hrl (by omega) (by simp; omega) ?_; intro A9 c9 w10 ho hg hat hEx)
                  have HN : Hid (OwnO w10 W.heap.size 40 2 (.slice A9 (r' ++ [(y1, y2)]).length c9) (r' ++ [(y1, y2)]).length (idCs (r' ++ [(y1, y2)])) ∧ SeenM w10 W.heap.size ((y1, y2) :: s').length ((y1, y2) :: s') ∧ Ex W w10 ∧ OwnO w10 W.heap.size 40 2 (.slice (some ⟨gm, om, none⟩) D.length c8) D.length (idCs D) ∧ ∀ k, (Value.slice A9 (r' ++ [(y1, y2)]).length c9).ownBlock = some k → (Value.slice (some ⟨gm, om, none⟩) D.length c8).ownBlock ≠ some k) := by
                    refine ⟨by rw [List.length_append, idCs_snoc]; exact ho, HS10.out.kept hg (HO9.out.noMap HS10.out), hEx W (HEx9.out.alloc _) (Nat.le_refl _), HD9.out.kept hg (.inr fun he => HDis.out gm (by rw [← he]; rfl) rfl), fun k hk hk2 => ?_⟩
                    have hk3 : (Value.slice A9 (r'.length + 1) c9).ownBlock = some k := by rw [← hk]; cases A9 <;> rfl
                    rcases hat with hat | hat
                    · rw [hat] at hk3
                      exact HDis.out k hk3 hk2
                    · rw [hat] at hk3
                      have h1 : k = gm := by simpa [Value.ownBlock] using hk2.symm
                      have h2 := Option.some.inj hk3
                      simp only [World.size_alloc] at h2
                      omega
                  clear ho hg hat hEx
                  gi_wp2
                  refine ⟨⟨q + 1, (y1, y2) :: s', r' ++ [(y1, y2)], A9, c9, by rw [List.length_append]; rfl, by go_num, by omega, by simp only [List.length_cons, List.length_append, List.length_nil]; omega, Lib.hid ⟨HSr2.out, HN.out⟩⟩, by simp [intOf]; omega⟩
                · gi_wp2_with (gi_at_builtin; refine wpListIn_append_one _ rfl _ _ 161 rfl W.heap.size 40 i0 _ 2 16 Tryz.underlying161 hi0 hz0 hz1 hz2 rfl (.slice A6 r'.length c6) r'.length (idCs r') rfl HO9.out w9.heap.size [.int .i64 (x.1.p : Nat), .int .i64 (y2 : Nat)] rfl rfl (news_new rfl rfl) (one_ints (by simp)) hrl (by omega) (by simp; omega) ?_; intro A9 c9 w10 ho hg hat hEx)
                  have HN : Hid (OwnO w10 W.heap.size 40 2 (.slice A9 (r' ++ [(x.1.p, y2)]).length c9) (r' ++ [(x.1.p, y2)]).length (idCs (r' ++ [(x.1.p, y2)])) ∧ SeenM w10 W.heap.size ((x.1.p, y2) :: s').length ((x.1.p, y2) :: s') ∧ Ex W w10 ∧ OwnO w10 W.heap.size 40 2 (.slice (some ⟨gm, om, none⟩) D.length c8) D.length (idCs D) ∧ ∀ k, (Value.slice A9 (r' ++ [(x.1.p, y2)]).length c9).ownBlock = some k → (Value.slice (some ⟨gm, om, none⟩) D.length c8).ownBlock ≠ some k) := by
                    refine ⟨by rw [List.length_append, idCs_snoc]; exact ho, HS10.out.kept hg (HO9.out.noMap HS10.out), hEx W (HEx9.out.alloc _) (Nat.le_refl _), HD9.out.kept hg (.inr fun he => HDis.out gm (by rw [← he]; rfl) rfl), fun k hk hk2 => ?_⟩
                    have hk3 : (Value.slice A9 (r'.length + 1) c9).ownBlock = some k := by rw [← hk]; cases A9 <;> rfl
                    rcases hat with hat | hat
                    · rw [hat] at hk3
                      exact HDis.out k hk3 hk2
                    · rw [hat] at hk3
                      have h1 : k = gm := by simpa [Value.ownBlock] using hk2.symm
                      have h2 := Option.some.inj hk3
                      simp only [World.size_alloc] at h2
                      omega
                  clear ho hg hat hEx
                  gi_wp2
                  refine ⟨⟨q + 1, (x.1.p, y2) :: s', r' ++ [(x.1.p, y2)], A9, c9, by rw [List.length_append]; rfl, by go_num, by omega, by simp only [List.length_cons, List.length_append, List.length_nil]; omega, Lib.hid ⟨HSr2.out, HN.out⟩⟩, by simp [intOf]; omega⟩
          · obtain rfl : q = D.length := by omega
            have s3 : decide ((D.length : Int) < (D.length : Int)) = false := decide_eq_false (by omega)
            have hsz := srch_size HH.out.1
            have hb := HH.out.1
            rw [List.drop_length] at hb
            have HB := Lib.hid (srch_any (y := z) hb)
            clear hb
            gi_wp2
            gi_roundg (2 * (sumN t - s'.length) + r'.length)
            case measure => omega
            case rel => exact ⟨s', r', A6, c6, rfl, Nat.le_refl _, by omega, Lib.hid ⟨HB.out, HH.out.2.1, HH.out.2.2.1, HH.out.2.2.2.1⟩⟩
  case done =>
    rintro D xs W hD hA ⟨⟨g0, g1, g2, g3⟩, gX, gC⟩ hK
    have c2 := g2.cell 0
    have c3 := g2.cell 1
    have c4 := g3.cell 0
    have f2 := g2.frozen 0
    have f3 := g2.frozen 1
    have f4 := g3.frozen 0
    have ll2 := g2.lt
    have ll3 := g3.lt
    have HM := Lib.hid (cyc_ret (p := .int .i64 0) (i := .int .i64 0) (er := .bool false) g2 g3 gX)
    have HK := Lib.hid (HM.out.2.2.2.same D _ hK rfl)
    have HN : Hid (∀ y, ¬ OnC t y) := fun y hy => by
      obtain ⟨x, hx, he⟩ := all_item hA (hap_in hy).1
      exact gC x hx (by rw [he]; exact hy)
    clear g0 g1 g2 g3 gX gC hA
    gi_wp2
    refine ⟨by simp, .inl ⟨_, _, rfl, run_takeDeferred HK.out, ?_⟩⟩
    exact ⟨_, results_cyc rfl rfl rfl (HM.out.1.put HK.out _) (HM.out.2.1.put HK.out _), .inl ⟨rfl, HN.out, HM.out.2.2.1.put (by omega) _⟩⟩
  case stop =>
    rintro D cd pre W hD hS ⟨rfl, a, x, rfl, gC, hc, g1, g2, gX⟩ hK
    have HR : Hid (IsF t (OnC t) (x.1.p, x.1.i + 1)) := by
      refine ⟨item_in x, hc, fun y hy hb hn => ?_⟩
      obtain ⟨z, hz, he⟩ := upto_item (upto_some hS) hy hb
      exact gC z hz (by rw [he]; exact hn)
    clear hS
    gi_wp2
    refine ⟨by simp, .inl ⟨_, _, rfl, run_takeDeferred hK, ?_⟩⟩
    exact ⟨_, results_cyc rfl rfl rfl (g1.put hK _) (g2.put hK _), .inr ⟨(x.1.p, x.1.i + 1), by simp [idV], HR.out, gX.put (by omega) _⟩⟩
end
end Go.Proofs.YtpmponafjhnegaaGreatDoor
