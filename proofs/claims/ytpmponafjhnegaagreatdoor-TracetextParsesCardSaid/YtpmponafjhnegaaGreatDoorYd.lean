/-
  The reference's Directly, walked. The reference's acyclic, walked. The reference's Past: the search backwards in plain Lean, and its rows in memory. The reference's Past, walked.
  Conditions: as each theorem says.
-/
import Derived.Test.YtpmponafjhnegaaGreatDoorYb
import Derived.Test.YtpmponafjhnegaaGreatDoorHa
import Derived.BigQuiet
import Derived.Deep.LoopGhost
import Derived.BigRegion
import Derived.RegionTactic
import Derived.ChangeAlike
namespace Go.Proofs.YtpmponafjhnegaaGreatDoor
section
open Go.RowKit
/-- those directly before an event -/
noncomputable def dirL (t : List Pr) (x : Nat × Nat) : List (Nat × Nat) :=
  (if 1 < x.2 then [(x.1, x.2 - 1)] else []) ++ (match evAt t x.1 (x.2 - 1) with | some e => if e.kind = 3 then [findO t 2 e.msg] else [] | none => [])
theorem mem_dirL {t : List Pr} (hP : Paired t) {x y : Nat × Nat} (hy : InT t y) : x ∈ dirL t y ↔ Dir t x y := by
  rw [dir_back hP]
  obtain ⟨e, he⟩ := evAt_in hy
  unfold dirL
  rw [he]
  simp only [List.mem_append, Option.some.injEq]
  constructor
  · rintro (h | h)
    · split at h
      · rename_i h1
        exact ⟨hy, .inl ⟨h1, List.mem_singleton.1 h⟩⟩
      · exact absurd h List.not_mem_nil
    · split at h
      · rename_i h1
        exact ⟨hy, .inr ⟨e, rfl, h1, List.mem_singleton.1 h⟩⟩
      · exact absurd h List.not_mem_nil
  · rintro ⟨-, ⟨h1, rfl⟩ | ⟨f, rfl, h2, rfl⟩⟩
    · exact .inl (by rw [if_pos (by omega)]; exact List.mem_singleton.2 rfl)
    · exact .inr (by rw [if_pos h2]; exact List.mem_singleton.2 rfl)
theorem dirL_len (t : List Pr) (x : Nat × Nat) : (dirL t x).length ≤ 2 := by
  unfold dirL
  rw [List.length_append]
  have h1 : (if 1 < x.2 then [(x.1, x.2 - 1)] else []).length ≤ 1 := by split <;> simp
  have h2 : (match evAt t x.1 (x.2 - 1) with | some e => if e.kind = 3 then [findO t 2 e.msg] else [] | none => []).length ≤ 1 := by
    split
    · split <;> simp
    · simp
  omega
def idCs (l : List (Nat × Nat)) : List Value := l.flatMap fun x => [.int .i64 (x.1 : Nat), .int .i64 (x.2 : Nat)]
theorem idCs_snoc (l : List (Nat × Nat)) (x : Nat × Nat) : idCs (l ++ [x]) = idCs l ++ [.int .i64 (x.1 : Nat), .int .i64 (x.2 : Nat)] := by simp [idCs]
theorem infoId : (Tryz.prog.info? 40).map (fun i => (i.zero, i.size, i.bytes)) = some (some (.agg #[.int .i64 0, .int .i64 0]), 2, 16) := by kernel_rfl
/-- what Directly hands back -/
def DirR (t : List Pr) (x : Nat × Nat) (w : World) (e : Ending) (w' : World) : Prop :=
  ∃ A c, e = .returned (.slice A (dirL t x).length c) ∧ OwnO w' w.heap.size 40 2 (.slice A (dirL t x).length c) (dirL t x).length (idCs (dirL t x)) ∧ Ex w w'
set_option maxRecDepth 20000 in
set_option maxHeartbeats 3200000 in
theorem rDirectly_c (t : List Pr) (A : Option Addr) (c p i : Nat) (w : World) (hT : TcC w A t) (hs : TSm t) (hx : i < evN t p) (hi : i ≤ 1000000000) :
    Calls Tryz.prog 106 #[.agg #[.slice A t.length c], .agg #[.int .i64 p, .int .i64 ((i : Int) + 1)]] w (DirR t (p, i + 1) w) := by
  obtain ⟨e, he⟩ := evAt_some hx
  have HT : Hid (∀ w', Ex w w' → TcC w' A t) := fun w' hx => hT.ex hx
  have HA : Hid (∀ w', Ex w w' → Calls Tryz.prog 67 #[.agg #[.slice A t.length c], .agg #[.int .i64 p, .int .i64 ((i : Int) + 1)]] w' (AtR t (p, i + 1) w')) := fun w' h => rAt_c t A c p i w' (HT.out w' h) hs hx
  have HF : Hid (∀ w', Ex w w' → Calls Tryz.prog 105 #[.agg #[.slice A t.length c], .int .i64 2, .int .i64 e.msg] w' (Ret w' (idV (findO t 2 e.msg)))) := fun w' h => rFind_c t A c 2 e.msg w' (HT.out w' h) hs
  have HD : Hid (dirL t (p, i + 1) = (if 0 < i then [(p, i)] else []) ++ (if e.kind = 3 then [findO t 2 e.msg] else [])) := by
    unfold dirL
    simp only [Nat.add_sub_cancel, he]
    show _ = _
    congr 1
    by_cases h : 0 < i
    · rw [if_pos h, if_pos (by omega)]
    · rw [if_neg h, if_neg (by omega)]
  have HE := Lib.hid he
  have e1 : IntKind.i64.wrap ((i : Int) + 1 - 1) = (i : Int) := by rw [IntWalk.i64_in _ (by omega)]; omega
  obtain ⟨i0, hi0, hz0, hz1, hz2⟩ := info_parts infoId
  clear hT hs hx he
  unfold DirR
  generalize dirL t (p, i + 1) = D at *
  generalize hFF : findO t 2 e.msg = F at *
  obtain ⟨F1, F2⟩ := F
  clear hFF
  have hb0 : Blk ((w.alloc (.cells #[.slice A t.length c] 24)).alloc (.cells #[.int .i64 p, .int .i64 ((i : Int) + 1)] 40)) w.heap.size 24 [.slice A t.length c] := (Blk.new w _ _).alloc _
  have hb1 : Blk ((w.alloc (.cells #[.slice A t.length c] 24)).alloc (.cells #[.int .i64 p, .int .i64 ((i : Int) + 1)] 40)) (w.heap.size + 1) 40 [.int .i64 p, .int .i64 ((i : Int) + 1)] := by
    rw [show w.heap.size + 1 = (w.alloc (.cells #[.slice A t.length c] 24)).heap.size by simp]
    exact Blk.new _ _ _
  by_cases h0 : 0 < i
  · have s0 : decide (1 < (i : Int) + 1) = true := decide_eq_true (by omega)
    rw [if_pos h0] at HD
    have HB0 := Lib.hid (hb0.alloc (.cells #[.int .i64 p, .int .i64 i] 40))
    have HB1 := Lib.hid (hb1.alloc (.cells #[.int .i64 p, .int .i64 i] 40))
    clear hb0 hb1
    go_enter Tryz.func106, Tryz.ntmps106
    go_wp2_with (at_builtin; refine wpList_append_one _ rfl _ _ 161 rfl w.heap.size 40 i0 _ 2 16 Tryz.underlying161 hi0 hz0 hz1 hz2 rfl _ 0 [] rfl (OwnO.nil _ _ _ _) (w.heap.size + 1 + 1) [.int .i64 p, .int .i64 i] rfl rfl ?c1 ?c2 ?c3 ?c4 ?c5 ?_)
    case c1 => exact news_new rfl (by simp)
    case c2 => exact one_ints (by simp)
    case c3 => omega
    case c4 => omega
    case c5 => simp; omega
    intro A2 c2 w2 ho hg hat hEx
    have hb0 := HB0.out.grown hg (by simp [Value.ownBlock])
    have hb1 := HB1.out.grown hg (by simp [Value.ownBlock])
    have hX2 : Ex w w2 := hEx w ((((Ex.refl w).alloc _).alloc _).alloc _) (Nat.le_refl _)
    have x0 := hb0.cell 0
    have x1 := hb1.cell 0
    have x2 := hb1.cell 1
    have l0 := hb0.lt
    have l1 := hb1.lt
    have HO := Lib.hid ho
    have HX2 := Lib.hid hX2
    clear hg hat hEx hb0 hb1 ho hX2
    go_wp2_with fail
    refine (HA.out _ HX2.out).mono ?_
    rintro e9 w' ⟨ev, B, bc, hev, rfl, -, z, rfl⟩
    have hev2 : ev = e := by have := HE.out; simp only [Nat.add_sub_cancel] at hev; rw [this] at hev; exact (Option.some.inj hev).symm
    subst hev2
    clear hev
    unfold evV
    by_cases k3 : ev.kind = 3
    · have s3 : (ev.kind == 3) = true := by simp [k3]
      rw [if_pos k3] at HD
      clear k3
      go_wp2_with fail
      refine (HF.out _ ((HX2.out.ext z).alloc _)).mono ?_
      rintro e9 w' ⟨rfl, z2, rfl⟩
      generalize hW3 : ext ((ext w2 z).alloc (.cells #[.int .i64 ev.kind, .int .i64 ev.peer, .int .i64 ev.msg, .int .i64 ev.time, .slice B ev.asg.length bc] 38)) z2 = W3
      have HX3 : Hid (Ex w2 W3) := by rw [← hW3]; exact (((Ex.refl w2).ext z).alloc _).ext z2
      clear hW3 z2
      have HO3 : Hid (OwnO (W3.alloc (.cells #[.int .i64 F1, .int .i64 F2] 40)) w.heap.size 40 2 (.slice A2 1 c2) 1 [.int .i64 p, .int .i64 i]) := (HO.out.ex HX3.out).ex ((Ex.refl _).alloc _)
      have HXw := Lib.hid (HX2.out.trans HX3.out)
      have hle : w.heap.size ≤ W3.heap.size := HXw.out.below.size
      clear x0 x1 x2 l0 l1
      unfold idV
      go_wp2_with (at_builtin; refine wpList_append_one _ rfl _ _ 161 rfl w.heap.size 40 i0 _ 2 16 Tryz.underlying161 hi0 hz0 hz1 hz2 rfl _ 1 [.int .i64 p, .int .i64 i] rfl HO3.out W3.heap.size [.int .i64 F1, .int .i64 F2] rfl rfl ?c1 ?c2 ?c3 ?c4 ?c5 ?_)
      case c1 => exact news_new rfl rfl
      case c2 => exact one_ints (by simp)
      case c3 => omega
      case c4 => omega
      case c5 => simp; omega
      intro A4 c4 w4 ho hg hat hEx
      have HX4 := Lib.hid (hEx w (HXw.out.alloc _) (Nat.le_refl _))
      have HO4 := Lib.hid ho
      clear hg hat hEx ho
      go_wp2_with fail
      go_ret
      rw [HD.out]
      exact ⟨A4, c4, rfl, HO4.out, HX4.out⟩
    · have s3 : (ev.kind == 3) = false := by simp [k3]
      rw [if_neg k3] at HD
      clear k3
      go_wp2_with fail
      go_ret
      rw [HD.out]
      exact ⟨A2, c2, rfl, (HO.out.ex ⟨z, rfl⟩).ex ((Ex.refl _).alloc _), (HX2.out.ext z).alloc _⟩
  · have s0 : decide (1 < (i : Int) + 1) = false := decide_eq_false (by omega)
    rw [if_neg h0] at HD
    clear hb0 hb1
    have HX2 : Hid (Ex w ((w.alloc (.cells #[.slice A t.length c] 24)).alloc (.cells #[.int .i64 p, .int .i64 ((i : Int) + 1)] 40))) := ((Ex.refl w).alloc _).alloc _
    go_enter Tryz.func106, Tryz.ntmps106
    go_wp2_with fail
    refine (HA.out _ HX2.out).mono ?_
    rintro e9 w' ⟨ev, B, bc, hev, rfl, -, z, rfl⟩
    have hev2 : ev = e := by have := HE.out; simp only [Nat.add_sub_cancel] at hev; rw [this] at hev; exact (Option.some.inj hev).symm
    subst hev2
    clear hev
    unfold evV
    by_cases k3 : ev.kind = 3
    · have s3 : (ev.kind == 3) = true := by simp [k3]
      rw [if_pos k3] at HD
      clear k3
      go_wp2_with fail
      refine (HF.out _ ((HX2.out.ext z).alloc _)).mono ?_
      rintro e9 w' ⟨rfl, z2, rfl⟩
      generalize hW3 : ext ((ext ((w.alloc (.cells #[.slice A t.length c] 24)).alloc (.cells #[.int .i64 p, .int .i64 ((i : Int) + 1)] 40)) z).alloc (.cells #[.int .i64 ev.kind, .int .i64 ev.peer, .int .i64 ev.msg, .int .i64 ev.time, .slice B ev.asg.length bc] 38)) z2 = W3
      have HXw : Hid (Ex w W3) := by rw [← hW3]; exact ((HX2.out.ext z).alloc _).ext z2
      clear hW3 z2
      have hle : w.heap.size ≤ W3.heap.size := HXw.out.below.size
      unfold idV
      go_wp2_with (at_builtin; refine wpList_append_one _ rfl _ _ 161 rfl w.heap.size 40 i0 _ 2 16 Tryz.underlying161 hi0 hz0 hz1 hz2 rfl _ 0 [] rfl (OwnO.nil _ _ _ _) W3.heap.size [.int .i64 F1, .int .i64 F2] rfl rfl ?c1 ?c2 ?c3 ?c4 ?c5 ?_)
      case c1 => exact news_new rfl rfl
      case c2 => exact one_ints (by simp)
      case c3 => omega
      case c4 => omega
      case c5 => simp; omega
      intro A4 c4 w4 ho hg hat hEx
      have HX4 := Lib.hid (hEx w (HXw.out.alloc _) (Nat.le_refl _))
      have HO4 := Lib.hid ho
      clear hg hat hEx ho
      go_wp2_with fail
      go_ret
      rw [HD.out]
      exact ⟨A4, c4, rfl, HO4.out, HX4.out⟩
    · have s3 : (ev.kind == 3) = false := by simp [k3]
      rw [if_neg k3] at HD
      clear k3
      go_wp2_with fail
      go_ret
      rw [HD.out]
      exact ⟨none, 0, rfl, OwnO.nil _ _ _ _, (HX2.out.ext z).alloc _⟩
end
section
open Go.RowKit
/-- counts in memory -/
def cntC (d : Nat → Nat) (n : Nat) : List Value := (List.range n).map fun p => .int .i64 (d p : Nat)
theorem cntC_get {d : Nat → Nat} {n p : Nat} (h : p < n) : (cntC d n)[p]? = some (.int .i64 (d p : Nat)) := by
  unfold cntC
  rw [List.getElem?_map, List.getElem?_range h]
  rfl
theorem cntC_bump (d : Nat → Nat) (n p : Nat) : (cntC d n).set p (.int .i64 ((d p + 1 : Nat) : Int)) = cntC (bump d p) n := by
  apply List.ext_getElem?
  intro q
  rw [List.getElem?_set]
  by_cases hq : q < n
  · by_cases hpq : p = q
    · subst hpq
      rw [if_pos rfl, if_pos (by simpa [cntC] using hq), cntC_get hq]
      unfold bump
      rw [if_pos rfl]
    · rw [if_neg hpq, cntC_get hq, cntC_get hq]
      unfold bump
      rw [if_neg (fun h => hpq h.symm)]
  · have h1 : (cntC d n)[q]? = none := List.getElem?_eq_none (by simp [cntC]; omega)
    have h2 : (cntC (bump d p) n)[q]? = none := List.getElem?_eq_none (by simp [cntC]; omega)
    rw [h1, h2]
    split
    · rw [if_neg (by simp [cntC]; omega)]
    · rfl
/-- nothing can be taken away of a process -/
def Stuck (t : List Pr) (d : Nat → Nat) (p : Nat) : Prop := d p < evN t p → ∃ x, Dir t x (p, d p + 1) ∧ ¬ Done d x
/-- how many are left -/
def leftN (t : List Pr) (d : Nat → Nat) : Nat := ((List.range t.length).map fun p => evN t p - d p).sum
theorem sum_bump (f : Nat → Nat) (p : Nat) : ∀ n, p < n → 0 < f p → ((List.range n).map fun q => if q = p then f p - 1 else f q).sum + 1 = ((List.range n).map f).sum
  | 0, h, _ => absurd h (Nat.not_lt_zero _)
  | n + 1, h, hp => by
    rw [List.range_succ, List.map_append, List.map_append, List.sum_append, List.sum_append]
    simp only [List.map_cons, List.map_nil, List.sum_cons, List.sum_nil, Nat.add_zero]
    by_cases he : p = n
    · subst he
      rw [if_pos rfl]
      have hm : ((List.range p).map fun q => if q = p then f p - 1 else f q) = (List.range p).map f := by
        apply List.map_congr_left
        intro q hq
        rw [if_neg (by have := List.mem_range.1 hq; omega)]
      rw [hm]
      omega
    · have := sum_bump f p n (by omega) hp
      rw [if_neg (fun h => he h.symm)]
      omega
theorem left_bump {t : List Pr} {d : Nat → Nat} {p : Nat} (hp : d p < evN t p) : leftN t (bump d p) + 1 = leftN t d := by
  have hl : p < t.length := Nat.lt_of_not_le fun h => by
    unfold evN at hp
    rw [List.getElem?_eq_none h] at hp
    simp at hp
  unfold leftN
  rw [← sum_bump (fun q => evN t q - d q) p t.length hl (by show 0 < evN t p - d p; omega)]
  congr 2
  apply List.map_congr_left
  intro q _
  unfold bump
  split
  · rename_i h; subst h; omega
  · rfl
theorem alloc_drewN (w : World) (n : Nat) (o : Obj) : (w.drewN n).alloc o = (w.alloc o).drewN n := rfl
theorem alloc_drew (w : World) (o : Obj) : w.drew.alloc o = (w.alloc o).drew := rfl
theorem setCell_drewN (w : World) (n : Nat) (p : Addr) (u : Value) : (w.drewN n).setCell p u = (w.setCell p u).drewN n := rfl
theorem setCell_drew (w : World) (p : Addr) (u : Value) : w.drew.setCell p u = (w.setCell p u).drew := rfl
theorem infoInt : (Tryz.prog.info? 3).map (fun i => (i.zero, i.size, i.bytes)) = some (some (.int .i64 0), 1, 8) := by kernel_rfl
theorem cnt_zero (n : Nat) : madeCells #[.int .i64 0] (n * 1) = (cntC (fun _ => 0) n).toArray := by
  unfold madeCells cntC
  apply Array.ext
  · simp
  · intro i h1 h2
    simp [Nat.mod_one]
theorem mk_cnt (n : Nat) (hn : n ≤ 1000000000) (W : World) : (Instr.makeSlice 93 (.int .i64 (n : Int)) (.int .i64 (n : Int))).run Tryz.prog W = .ok (.slice (some ⟨W.heap.size, 0, none⟩) n n) (W.alloc (.cells (cntC (fun _ => 0) n).toArray 3)) := by
  obtain ⟨i, hi, hz, hs, hb⟩ := info_parts infoInt
  have h := run_make (P := Tryz.prog) W 93 3 i (.int .i64 0) Tryz.underlying93 hi hz .i64 .i64 (n : Int) (n : Int) (by omega) (Int.le_refl _) (by rw [hb]; omega) (by omega)
  rw [h, hs]
  rw [show ((n : Int)).toNat = n by omega]
  have e := cnt_zero n
  simp only [Value.cells]
  rw [e]
/-- what a further look at the processes ahead of p has brought -/
structure Acy (t : List Pr) (d0 d : Nat → Nat) (m : Bool) (p : Nat) : Prop where
  peel : Peel t d
  old : m = false → d = d0 ∧ ∀ q, q < p → Stuck t d q
  new : m = true → leftN t d < leftN t d0
  le : leftN t d ≤ leftN t d0
theorem Acy.start {t : List Pr} {d : Nat → Nat} (h : Peel t d) : Acy t d d false 0 := ⟨h, fun _ => ⟨rfl, fun q hq => absurd hq (Nat.not_lt_zero _)⟩, fun h => (by cases h), Nat.le_refl _⟩
theorem Acy.next {t : List Pr} {d0 d : Nat → Nat} {m : Bool} {p : Nat} (h : Acy t d0 d m p) (hs : Stuck t d p) : Acy t d0 d m (p + 1) :=
  ⟨h.peel, fun hm => ⟨(h.old hm).1, fun q hq => by
    by_cases he : q = p
    · rw [he]; exact hs
    · exact (h.old hm).2 q (by omega)⟩, h.new, h.le⟩
theorem Acy.bump {t : List Pr} {d0 d : Nat → Nat} {m : Bool} {p q : Nat} (h : Acy t d0 d m p) (hq : d q < evN t q) (hd : ∀ x, Dir t x (q, d q + 1) → Done d x) : Acy t d0 (bump d q) true p := by
  have h1 := left_bump hq
  have h2 := h.le
  exact ⟨peel_bump h.peel hq hd, fun hm => (by cases hm), fun _ => by omega, by omega⟩
attribute [local go_sem] alloc_drewN alloc_drew setCell_drewN setCell_drew
set_option maxRecDepth 20000 in
set_option maxHeartbeats 3200000 in
theorem rAcyclic_c (t : List Pr) (A : Option Addr) (c : Nat) (w : World) (hT : TcC w A t) (hs : TSm t) (hP : Paired t) :
    Calls Tryz.prog 76 #[.agg #[.slice A t.length c]] w (fun e w' => ∃ b : Bool, e = .returned (.bool b) ∧ (b = true ↔ ∀ x, ¬ OnC t x) ∧ Ex w w') := by
  have hl := hs.procs
  have HEl : Hid (∀ (p : Nat) (x : Pr), t[p]? = some x → x.evs.length ≤ 100000) := fun p x hx => (hs.each x (List.mem_of_getElem? hx)).2.2.1
  have HT : Hid (∀ w', Ex w w' → TcC w' A t) := fun w' hx => hT.ex hx
  have HF : Hid (∀ m w', Ex w w' → Calls Tryz.prog 105 #[.agg #[.slice A t.length c], .int .i64 2, .int .i64 m] w' (Ret w' (idV (findO t 2 m)))) := fun m w' h => rFind_c t A c 2 m w' (HT.out w' h) hs
  have HP := Lib.hid hP
  have hmk := fun W => mk_cnt t.length (by omega) W
  obtain ⟨W1, hW1⟩ : ∃ W1, W1 = w.alloc (.cells #[.slice A t.length c] 24) := ⟨_, rfl⟩
  have HX1 : Hid (Ex w W1) := by rw [hW1]; exact (Ex.refl w).alloc _
  have HS1 : Hid (W1.heap.size = w.heap.size + 1) := Lib.hid (by rw [hW1]; simp)
  have HB0 : Hid (∀ w', Ex W1 w' → Blk w' w.heap.size 24 [.slice A t.length c]) := fun w' hx => by
    have : Blk W1 w.heap.size 24 [.slice A t.length c] := by rw [hW1]; exact Blk.new w _ _
    exact this.ex hx
  have HW1 := Lib.hid hW1
  clear hT hs hP hW1
  go_enter Tryz.func76, Tryz.ntmps76
  go_wp2_with fail
  rw [← HW1.out]
  have HS : Hid (Peel t (fun _ => 0) ∧ Ex W1 (W1.alloc (.cells (cntC (fun _ => 0) t.length).toArray 3)) ∧ Blk (W1.alloc (.cells (cntC (fun _ => 0) t.length).toArray 3)) (w.heap.size + 1) 3 (cntC (fun _ => 0) t.length)) := ⟨peel_zero t, (Ex.refl _).alloc _, by rw [← HS1.out]; exact Blk.new _ _ _⟩
  generalize W1.alloc (.cells (cntC (fun _ => 0) t.length).toArray 3) = W2 at *
  go_loopg [4] (leftN t (fun _ => 0)) (fun gg _ wr => ∃ d : Nat → Nat, leftN t d ≤ gg ∧ Hid (Peel t d ∧ Ex W1 wr ∧ Blk wr (w.heap.size + 1) 3 (cntC d t.length)))
  case atStart => exact ⟨_, Nat.le_refl _, HS⟩
  case round =>
    clear HS
    obtain ⟨d0, hd0, HH⟩ := hrel
    go_wp2_with fail
    go_loopw [4, 5] (fun m i wr => ∃ (b : Bool) (p : Nat) (d : Nat → Nat), m = .bool b ∧ i = .int .i64 p ∧ p ≤ t.length ∧ Hid (Acy t d0 d b p ∧ Ex W1 wr ∧ Blk wr (w.heap.size + 1) 3 (cntC d t.length))) (fun _ i _ => t.length - (intOf i).toNat)
    case atStart => exact ⟨false, 0, d0, rfl, rfl, Nat.zero_le _, Lib.hid ⟨Acy.start HH.out.1, HH.out.2⟩⟩
    case round =>
      clear HH
      obtain ⟨b, p, d, rfl, rfl, hp, HH⟩ := hrel
      have hB0 := HB0.out _ HH.out.2.1
      have x0 := hB0.cell 0
      have l0 := hB0.lt
      have l1 := HH.out.2.2.lt
      clear hB0
      by_cases hpl : p < t.length
      · have m0 : (0 : Int) ≤ (p : Int) := by omega
        have m1 : (p : Int) < (t.length : Int) := by omega
        obtain ⟨x, hx⟩ : ∃ x, t[p]? = some x := ⟨_, List.getElem?_eq_getElem hpl⟩
        have hel := HEl.out p x hx
        have hev := evN_at hx
        have HXt := Lib.hid hx
        clear hx
        go_wp2_with fail
        clear x0 l0 l1
        go_loopg [4] (evN t p - d p) (fun gg m wr => ∃ (b : Bool) (d : Nat → Nat), m = .bool b ∧ evN t p - d p ≤ gg ∧ Hid (Acy t d0 d b p ∧ Ex W1 wr ∧ Blk wr (w.heap.size + 1) 3 (cntC d t.length)))
        case atStart => exact ⟨b, d, rfl, Nat.le_refl _, HH⟩
        case round =>
          clear HH
          obtain ⟨b, d, rfl, hgg, HH⟩ := hrel
          have hB0 := HB0.out _ HH.out.2.1
          have x0 := hB0.cell 0
          have l0 := hB0.lt
          have hdp : wr.cell? ⟨w.heap.size + 1, p, none⟩ = some (.int .i64 (d p : Nat)) := (HH.out.2.2.cell p).trans (cntC_get hpl)
          have l1 := HH.out.2.2.lt
          have hle := HH.out.1.peel.le p
          obtain ⟨bb, o, hA, hbl, V, vc, E, ec, -, -, g2, -, hE⟩ := HT.out _ (HX1.out.trans HH.out.2.1) p x HXt.out
          subst hA
          clear hB0
          by_cases hdl : d p < evN t p
          · have s1 : decide ((d p : Int) < (x.evs.length : Int)) = true := decide_eq_true (by omega)
            have m2 : (0 : Int) ≤ (d p : Int) := by omega
            have m3 : (d p : Int) < (x.evs.length : Int) := by omega
            obtain ⟨e, he⟩ : ∃ e, x.evs[d p]? = some e := ⟨_, List.getElem?_eq_getElem (by omega)⟩
            obtain ⟨b2, o2, hA2, hbl2, B, bc, k0, k1, k2, k3, k4, -⟩ := hE _ e he
            subst hA2
            have HEv := Lib.hid (evAt_at HXt.out he)
            have HDL := Lib.hid hdl
            clear hE he
            go_wp2_with fail
            go_quiet (fail)
            go_wp2_with fail
            go_region
            generalize hW4 : World.drewN _ _ = W4
            have HX3 : Hid (Ex wr W4) := by rw [← hW4]; exact ((Ex.refl _).alloc _).drewN _
            have hbE : Blk W4 wr.heap.size 38 [.int .i64 e.kind, .int .i64 e.peer, .int .i64 e.msg, .int .i64 e.time, .slice B e.asg.length bc] := by rw [← hW4]; exact Blk.new wr _ _
            clear hW4 x0 l0 hdp l1 k0 k1 k2 k3 k4 g2
            have HX4 := Lib.hid (HH.out.2.1.trans HX3.out)
            have hb3 := HB0.out _ HX4.out
            have x0 := hb3.cell 0
            have l0 := hb3.lt
            have j0 := hbE.cell 0
            have j2 := hbE.cell 2
            have jl := hbE.lt
            generalize wr.heap.size = nE at *
            by_cases q3 : e.kind = 3
            · have s3 : (e.kind == 3) = true := by simp [q3]
              have HFd : Hid (InT t (findO t 2 e.msg) ∧ ∀ y, Dir t y (p, d p + 1) ↔ InT t (p, d p + 1) ∧ ((2 ≤ d p + 1 ∧ y = (p, d p)) ∨ y = findO t 2 e.msg)) := by
                have hi : InT t (p, d p + 1) := ⟨by simp, by show d p + 1 ≤ evN t p; omega⟩
                refine ⟨(find_sent HP.out hi (by simpa using HEv.out) q3).1, fun y => ?_⟩
                rw [dir_back HP.out]
                simp only [Nat.add_sub_cancel]
                constructor
                · rintro ⟨h1, h2 | ⟨f, h3, h4, h5⟩⟩
                  · exact ⟨h1, .inl h2⟩
                  · rw [HEv.out] at h3; cases h3; exact ⟨h1, .inr h5⟩
                · rintro ⟨h1, h2 | h2⟩
                  · exact ⟨h1, .inl h2⟩
                  · exact ⟨h1, .inr ⟨e, HEv.out, q3, h2⟩⟩
              have HF1 := Lib.hid (HF.out e.msg _ (HX1.out.trans HX4.out))
              generalize hFF : findO t 2 e.msg = F at *
              obtain ⟨F1, F2⟩ := F
              clear hFF q3
              go_wp2_with fail
              refine (HF1.out).mono ?_
              rintro e9 w' ⟨rfl, z, rfl⟩
              have HX5 : Hid (Ex wr (ext W4 z)) := HX3.out.ext z
              have hF1 : F1 < t.length := Nat.lt_of_not_le fun hle => by
                have h2 := HFd.out.1.1
                have h3 := HFd.out.1.2
                unfold evN at h3
                rw [List.getElem?_eq_none hle] at h3
                simp only at h2 h3
                omega
              have m4 : (0 : Int) ≤ (F1 : Int) := by omega
              have m5 : (F1 : Int) < (t.length : Int) := by omega
              generalize ext W4 z = W5 at *
              have hb5 := HH.out.2.2.ex (HX5.out.alloc (.cells #[.int .i64 F1, .int .i64 F2] 40))
              have y0 : (W5.alloc (.cells #[.int .i64 F1, .int .i64 F2] 40)).cell? ⟨w.heap.size + 1, F1, none⟩ = some (.int .i64 (d F1 : Nat)) := (hb5.cell F1).trans (cntC_get hF1)
              have l5 := hb5.lt
              clear hb5 x0 l0
              by_cases hds : d F1 < F2
              · have s4 : decide ((d F1 : Int) < (F2 : Int)) = true := decide_eq_true (by omega)
                have HN := Lib.hid (HH.out.1.next (show Stuck t d p from fun h => ⟨(F1, F2), (HFd.out.2 _).2 ⟨⟨by simp, h⟩, .inr rfl⟩, fun hD => by have := hD.2; simp only at this; omega⟩))
                have HX6 := Lib.hid ((HH.out.2.1.trans HX5.out).alloc (.cells #[.int .i64 F1, .int .i64 F2] 40))
                have HB6 := Lib.hid (HH.out.2.2.ex (HX5.out.alloc (.cells #[.int .i64 F1, .int .i64 F2] 40)))
                unfold idV
                go_wp2_with fail
                go_quiet (fail)
                go_wp2_with fail
                refine ⟨⟨b, p + 1, d, rfl, by go_num, by omega, Lib.hid ⟨HN.out, HX6.out.drewN _, HB6.out⟩⟩, by simp [intOf]; omega⟩
              · have s4 : decide ((d F1 : Int) < (F2 : Int)) = false := decide_eq_false (by omega)
                have HN := Lib.hid (HH.out.1.bump HDL.out (fun y hy => by
                  rcases ((HFd.out.2 y).1 hy).2 with ⟨h1, rfl⟩ | rfl
                  · exact ⟨by simp only; omega, Nat.le_refl _⟩
                  · exact ⟨HFd.out.1.1, by simp only; omega⟩))
                have HX6 := Lib.hid ((HH.out.2.1.trans HX5.out).alloc (.cells #[.int .i64 F1, .int .i64 F2] 40))
                have HB6 := Lib.hid (HH.out.2.2.ex (HX5.out.alloc (.cells #[.int .i64 F1, .int .i64 F2] 40)))
                have y1 : (W5.alloc (.cells #[.int .i64 F1, .int .i64 F2] 40)).cell? ⟨w.heap.size + 1, p, none⟩ = some (.int .i64 (d p : Nat)) := (HB6.out.cell p).trans (cntC_get hpl)
                have y2 := HB6.out.frozen p
                have e1 : IntKind.i64.wrap ((d p : Int) + 1) = ((d p + 1 : Nat) : Int) := by rw [IntWalk.i64_in _ (by omega)]; omega
                unfold idV
                go_wp2_with fail
                go_quiet (fail)
                go_wp2_with fail
                go_roundg (evN t p - (d p + 1))
                case measure => omega
                case rel =>
                  refine ⟨true, bump d p, rfl, by unfold bump; rw [if_pos rfl]; exact Nat.le_refl _, Lib.hid ⟨HN.out, (HX6.out.drewN _).setCell (p := ⟨w.heap.size + 1, p, none⟩) (by have := HS1.out; simp; omega) _, ?_⟩⟩
                  rw [← cntC_bump]
                  exact Blk.set_ HB6.out _ _
            · have s3 : (e.kind == 3) = false := by simp [q3]
              have HN := Lib.hid (HH.out.1.bump HDL.out (fun y hy => by
                rcases ((dir_back HP.out).1 hy).2 with ⟨h1, rfl⟩ | ⟨f, h1, h2, rfl⟩
                · simp only at h1
                  exact ⟨by simp only [Nat.add_sub_cancel]; omega, Nat.le_refl _⟩
                · simp only [Nat.add_sub_cancel] at h1
                  rw [HEv.out] at h1
                  cases h1
                  exact absurd h2 q3))
              have HX6 := Lib.hid HX4.out
              have HB6 := Lib.hid (HH.out.2.2.ex (HX3.out))
              have y1 : W4.cell? ⟨w.heap.size + 1, p, none⟩ = some (.int .i64 (d p : Nat)) := (HB6.out.cell p).trans (cntC_get hpl)
              have y2 := HB6.out.frozen p
              have y3 := HB6.out.lt
              have e1 : IntKind.i64.wrap ((d p : Int) + 1) = ((d p + 1 : Nat) : Int) := by rw [IntWalk.i64_in _ (by omega)]; omega
              clear q3
              go_wp2_with fail
              go_roundg (evN t p - (d p + 1))
              case measure => omega
              case rel =>
                refine ⟨true, bump d p, rfl, by unfold bump; rw [if_pos rfl]; exact Nat.le_refl _, Lib.hid ⟨HN.out, HX6.out.setCell (p := ⟨w.heap.size + 1, p, none⟩) (by have := HS1.out; simp; omega) _, ?_⟩⟩
                rw [← cntC_bump]
                exact Blk.set_ HB6.out _ _
          · have s1 : decide ((d p : Int) < (x.evs.length : Int)) = false := decide_eq_false (by omega)
            have HN := Lib.hid (HH.out.1.next (show Stuck t d p from fun h => absurd h hdl))
            go_wp2_with fail
            go_quiet (fail)
            go_wp2_with fail
            refine ⟨⟨b, p + 1, d, rfl, by go_num, by omega, Lib.hid ⟨HN.out, HH.out.2.1.drewN _, HH.out.2.2⟩⟩, by simp [intOf]; omega⟩
      · obtain rfl : p = t.length := by omega
        have s1 : decide ((t.length : Int) < (t.length : Int)) = false := decide_eq_false (by omega)
        cases b with
        | true =>
          have HN := Lib.hid (HH.out.1.new rfl)
          have hlt := HN.out
          go_wp2_with fail
          go_roundg (leftN t d)
          case measure => omega
          case rel => exact ⟨d, Nat.le_refl _, Lib.hid ⟨HH.out.1.peel, HH.out.2⟩⟩
        | false =>
          obtain ⟨hdd, hst⟩ := HH.out.1.old rfl
          have HSt : Hid (∀ q, Stuck t d q) := fun q hq => by
            by_cases hql : q < t.length
            · exact hst q hql hq
            · have : evN t q = 0 := by unfold evN; rw [List.getElem?_eq_none (by omega)]
              omega
          have HXe := HH.out.2
          have HPl := Lib.hid HH.out.1.peel
          clear hdd hst
          go_wp2_with fail
          clear x0 l0 l1
          go_loopw [8] (fun i wr => ∃ q : Nat, i = .int .i64 q ∧ q ≤ t.length ∧ Hid ((∀ j, j < q → d j = evN t j) ∧ Ex W1 wr ∧ Blk wr (w.heap.size + 1) 3 (cntC d t.length))) (fun i _ => t.length - (intOf i).toNat)
          case atStart => exact ⟨0, rfl, Nat.zero_le _, Lib.hid ⟨fun j h => absurd h (Nat.not_lt_zero _), HXe⟩⟩
          case round =>
            clear HXe HH
            obtain ⟨q, rfl, hq, HH⟩ := hrel
            have hB0 := HB0.out _ HH.out.2.1
            have x0 := hB0.cell 0
            have l0 := hB0.lt
            clear hB0
            by_cases hql : q < t.length
            · have m0 : (0 : Int) ≤ (q : Int) := by omega
              have m1 : (q : Int) < (t.length : Int) := by omega
              obtain ⟨x, hx⟩ : ∃ x, t[q]? = some x := ⟨_, List.getElem?_eq_getElem hql⟩
              have hev := evN_at hx
              have hdq : wr.cell? ⟨w.heap.size + 1, q, none⟩ = some (.int .i64 (d q : Nat)) := (HH.out.2.2.cell q).trans (cntC_get hql)
              have l1 := HH.out.2.2.lt
              have hle := HPl.out.le q
              obtain ⟨bb, o, hA, hbl, V, vc, E, ec, -, -, g2, -⟩ := HT.out _ (HX1.out.trans HH.out.2.1) q x hx
              subst hA
              clear hx
              by_cases hdl : d q < evN t q
              · have s2 : decide ((d q : Int) < (x.evs.length : Int)) = true := decide_eq_true (by omega)
                have HC := Lib.hid (peel_stuck HSt.out hdl)
                go_wp2_with fail
                go_quiet (fail)
                go_wp2_with fail
                go_ret
                refine ⟨false, rfl, ⟨fun h => (by cases h), fun h => ?_⟩, (HX1.out.trans HH.out.2.1).drewN _⟩
                obtain ⟨y, hy⟩ := HC.out
                exact absurd hy (h y)
              · have s2 : decide ((d q : Int) < (x.evs.length : Int)) = false := decide_eq_false (by omega)
                have HQ : Hid (∀ j, j < q + 1 → d j = evN t j) := fun j hj => by
                  by_cases hjq : j = q
                  · rw [hjq]; omega
                  · exact HH.out.1 j (by omega)
                go_wp2_with fail
                go_quiet (fail)
                go_wp2_with fail
                refine ⟨⟨q + 1, by go_num, by omega, Lib.hid ⟨HQ.out, HH.out.2.1.drewN _, HH.out.2.2⟩⟩, by simp [intOf]; omega⟩
            · obtain rfl : q = t.length := by omega
              have HA : Hid (∀ x, ¬ OnC t x) := fun x => peel_all HPl.out (fun p => by
                by_cases hpl : p < t.length
                · exact HH.out.1 p hpl
                · have h0 : evN t p = 0 := by unfold evN; rw [List.getElem?_eq_none (by omega)]
                  have := HPl.out.le p
                  omega) x
              go_wp2_with fail
              go_ret
              exact ⟨true, rfl, ⟨fun _ => HA.out, fun _ => rfl⟩, HX1.out.trans HH.out.2.1⟩
end
section
open Go.RowKit
/-- the search backwards from x: s are those marked, r those to be visited, b those behind them -/
structure Bck (t : List Pr) (x : Nat × Nat) (s r b : List (Nat × Nat)) : Prop where
  nodup : s.Nodup
  seen : ∀ y, y ∈ s → Hap t y x
  rest : ∀ y, y ∈ r → Hap t y x
  pend : ∀ y, y ∈ b → Hap t y x
  cov : ∀ u v, (v = x ∨ v ∈ s) → Dir t u v → u ∈ s ∨ u ∈ r ∨ u ∈ b
theorem bck_start {t : List Pr} (hP : Paired t) {x : Nat × Nat} (hx : InT t x) : Bck t x [] (dirL t x) [] :=
  ⟨List.nodup_nil, fun _ h => absurd h List.not_mem_nil, fun _ h => .single ((mem_dirL hP hx).1 h), fun _ h => absurd h List.not_mem_nil, fun u v hv hd => by
    rcases hv with rfl | hv
    · exact .inr (.inl ((mem_dirL hP hx).2 hd))
    · exact absurd hv List.not_mem_nil⟩
theorem bck_old {t : List Pr} {x y : Nat × Nat} {s r : List (Nat × Nat)} (h : Bck t x s (y :: r) []) (hy : y ∈ s) : Bck t x s r [] :=
  ⟨h.nodup, h.seen, fun z hz => h.rest z (List.mem_cons_of_mem _ hz), h.pend, fun u v hv hd => by
    rcases h.cov u v hv hd with g | g | g
    · exact .inl g
    · rcases List.mem_cons.1 g with rfl | g
      · exact .inl hy
      · exact .inr (.inl g)
    · exact .inr (.inr g)⟩
theorem bck_new {t : List Pr} (hP : Paired t) {x y : Nat × Nat} {s r : List (Nat × Nat)} (h : Bck t x s (y :: r) []) (hy : y ∉ s) : Bck t x (y :: s) r (dirL t y) := by
  have hyx := h.rest y (List.mem_cons_self ..)
  have hin := (hap_in hyx).1
  refine ⟨List.nodup_cons.2 ⟨hy, h.nodup⟩, fun z hz => ?_, fun z hz => h.rest z (List.mem_cons_of_mem _ hz), fun z hz => hap_head ((mem_dirL hP hin).1 hz) hyx, fun u v hv hd => ?_⟩
  · rcases List.mem_cons.1 hz with rfl | hz
    · exact hyx
    · exact h.seen z hz
  · by_cases hvy : v = y
    · subst hvy
      exact .inr (.inr ((mem_dirL hP hin).2 hd))
    · have hv2 : v = x ∨ v ∈ s := by
        rcases hv with hv | hv
        · exact .inl hv
        · rcases List.mem_cons.1 hv with hv | hv
          · exact absurd hv hvy
          · exact .inr hv
      rcases h.cov u v hv2 hd with g | g | g
      · exact .inl (List.mem_cons_of_mem _ g)
      · rcases List.mem_cons.1 g with rfl | g
        · exact .inl (List.mem_cons_self ..)
        · exact .inr (.inl g)
      · exact absurd g List.not_mem_nil
theorem bck_move {t : List Pr} {x y : Nat × Nat} {s r b : List (Nat × Nat)} (h : Bck t x s r (y :: b)) : Bck t x s (r ++ [y]) b :=
  ⟨h.nodup, h.seen, fun z hz => by
    rcases List.mem_append.1 hz with hz | hz
    · exact h.rest z hz
    · rw [List.mem_singleton.1 hz]; exact h.pend y (List.mem_cons_self ..), fun z hz => h.pend z (List.mem_cons_of_mem _ hz), fun u v hv hd => by
    rcases h.cov u v hv hd with g | g | g
    · exact .inl g
    · exact .inr (.inl (List.mem_append.2 (.inl g)))
    · rcases List.mem_cons.1 g with rfl | g
      · exact .inr (.inl (List.mem_append.2 (.inr (List.mem_singleton.2 rfl))))
      · exact .inr (.inr g)⟩
theorem bck_end {t : List Pr} {x : Nat × Nat} {s : List (Nat × Nat)} (h : Bck t x s [] []) (y : Nat × Nat) : y ∈ s ↔ Hap t y x := by
  refine ⟨h.seen y, fun hy => ?_⟩
  have hc : ∀ u v, Dir t u v → (v = x ∨ v ∈ s) → u ∈ s := fun u v hd hv => by
    rcases h.cov u v hv hd with g | g | g
    · exact g
    · exact absurd g List.not_mem_nil
    · exact absurd g List.not_mem_nil
  obtain ⟨z, hz, hw⟩ := hap_last hy
  have hzs := hc z x hz (.inl rfl)
  rcases hw with rfl | hw
  · exact hzs
  · exact hap_closed (S := fun u => u ∈ s) (fun u v hd hv => hc u v hd (.inr hv)) hw hzs
theorem bck_size {t : List Pr} {x : Nat × Nat} {s r b : List (Nat × Nat)} (h : Bck t x s r b) : s.length ≤ sumN t := nodup_le h.nodup fun y hy => (hap_in (h.seen y hy)).1
/-- a row of marks -/
def mrk (s : List (Nat × Nat)) (q n : Nat) : List Value := (List.range n).map fun i => .bool (decide ((q, i) ∈ s))
theorem mrk_get {s : List (Nat × Nat)} {q n i : Nat} (h : i < n) : (mrk s q n)[i]? = some (.bool (decide ((q, i) ∈ s))) := by
  unfold mrk
  rw [List.getElem?_map, List.getElem?_range h]
  rfl
theorem mrk_set (s : List (Nat × Nat)) (q n i : Nat) : (mrk s q n).set i (.bool true) = mrk ((q, i) :: s) q n := by
  apply List.ext_getElem?
  intro j
  rw [List.getElem?_set]
  by_cases hj : j < n
  · rw [mrk_get hj, mrk_get hj]
    by_cases hij : i = j
    · subst hij
      rw [if_pos rfl, if_pos (by simpa [mrk] using hj)]
      simp
    · rw [if_neg hij]
      simp only [List.mem_cons, Prod.mk.injEq, true_and]
      have : ¬ j = i := fun h => hij h.symm
      simp [this]
  · have h1 : ∀ s, (mrk s q n)[j]? = none := fun s => List.getElem?_eq_none (by simp [mrk]; omega)
    rw [h1, h1]
    split
    · rw [if_neg (by simp [mrk]; omega)]
    · rfl
theorem mrk_other (s : List (Nat × Nat)) (q n i r : Nat) (h : r ≠ q) : mrk ((q, i) :: s) r n = mrk s r n := by
  unfold mrk
  apply List.map_congr_left
  intro j _
  simp [h]
/-- the rows of marks in memory, of the processes ahead of p -/
structure RowsB (t : List Pr) (w : World) (base : Nat) (s : List (Nat × Nat)) (bf : Nat → Nat) (p : Nat) : Prop where
  lo : ∀ q, q < p → base ≤ bf q
  inj : ∀ i j, i < p → j < p → bf i = bf j → i = j
  row : ∀ q, q < p → Blk w (bf q) 4 (mrk s q (evN t q + 1))
theorem RowsB.ex {t : List Pr} {w w' : World} {base : Nat} {s : List (Nat × Nat)} {bf : Nat → Nat} {p : Nat} (h : RowsB t w base s bf p) (hx : Ex w w') : RowsB t w' base s bf p :=
  ⟨h.lo, h.inj, fun q hq => (h.row q hq).ex hx⟩
theorem RowsB.grown {t : List Pr} {w w' : World} {base : Nat} {s : List (Nat × Nat)} {bf : Nat → Nat} {p : Nat} {row : Option Nat} (h : RowsB t w base s bf p) (hg : w.grownBy w' row) (hn : ∀ q, q < p → some (bf q) ≠ row) : RowsB t w' base s bf p :=
  ⟨h.lo, h.inj, fun q hq => (h.row q hq).grown hg (hn q hq)⟩
theorem RowsB.zero (t : List Pr) (w : World) (base : Nat) : RowsB t w base [] (fun _ => 0) 0 := ⟨fun _ h => absurd h (Nat.not_lt_zero _), fun _ _ h => absurd h (Nat.not_lt_zero _), fun _ h => absurd h (Nat.not_lt_zero _)⟩
def upd (bf : Nat → Nat) (p b : Nat) : Nat → Nat := fun q => if q = p then b else bf q
theorem RowsB.snoc {t : List Pr} {w : World} {base : Nat} {s : List (Nat × Nat)} {bf : Nat → Nat} {p b : Nat} (h : RowsB t w base s bf p) (hb : base ≤ b) (hn : ∀ q, q < p → bf q ≠ b) (hB : Blk w b 4 (mrk s p (evN t p + 1))) : RowsB t w base s (upd bf p b) (p + 1) := by
  have hu : ∀ q, q < p → upd bf p b q = bf q := fun q hq => if_neg (by omega)
  have hp : upd bf p b p = b := if_pos rfl
  refine ⟨fun q hq => ?_, fun i j hi hj he => ?_, fun q hq => ?_⟩
  · by_cases hqp : q = p
    · rw [hqp, hp]; exact hb
    · rw [hu q (by omega)]; exact h.lo q (by omega)
  · by_cases hip : i = p
    · by_cases hjp : j = p
      · omega
      · rw [hip, hp, hu j (by omega)] at he
        exact absurd he.symm (hn j (by omega))
    · by_cases hjp : j = p
      · rw [hjp, hp, hu i (by omega)] at he
        exact absurd he (hn i (by omega))
      · rw [hu i (by omega), hu j (by omega)] at he
        exact h.inj i j (by omega) (by omega) he
  · by_cases hqp : q = p
    · rw [hqp, hp]; exact hB
    · rw [hu q (by omega)]; exact h.row q (by omega)
theorem RowsB.mark {t : List Pr} {w : World} {base : Nat} {s : List (Nat × Nat)} {bf : Nat → Nat} {p q i : Nat} (h : RowsB t w base s bf p) (hq : q < p) : RowsB t (w.setCell ⟨bf q, i, none⟩ (.bool true)) base ((q, i) :: s) bf p :=
  ⟨h.lo, h.inj, fun r hr => by
    by_cases hrq : r = q
    · subst hrq
      rw [← mrk_set]
      exact (h.row r hr).set_ i _
    · rw [mrk_other s q _ i r hrq]
      exact (h.row r hr).far (fun he => hrq (h.inj r q hr hq he)) _⟩
/-- the slices of the rows -/
def rowVs (t : List Pr) (bf : Nat → Nat) (p : Nat) : List Value := (List.range p).map fun q => .slice (some ⟨bf q, 0, none⟩) (evN t q + 1) (evN t q + 1)
theorem rowVs_get {t : List Pr} {bf : Nat → Nat} {p q : Nat} (h : q < p) : (rowVs t bf p)[q]? = some (.slice (some ⟨bf q, 0, none⟩) (evN t q + 1) (evN t q + 1)) := by
  unfold rowVs
  rw [List.getElem?_map, List.getElem?_range h]
  rfl
theorem rowVs_snoc (t : List Pr) (bf : Nat → Nat) (p b : Nat) : rowVs t (upd bf p b) (p + 1) = rowVs t bf p ++ [.slice (some ⟨b, 0, none⟩) (evN t p + 1) (evN t p + 1)] := by
  unfold rowVs
  rw [List.range_succ, List.map_append]
  congr 1
  · apply List.map_congr_left
    intro q hq
    have := List.mem_range.1 hq
    unfold upd
    rw [if_neg (by omega)]
  · simp [upd]
theorem infoBool : (Tryz.prog.info? 4).map (fun i => (i.zero, i.size, i.bytes)) = some (some (.bool false), 1, 1) := by kernel_rfl
theorem infoBools : (Tryz.prog.info? 133).map (fun i => (i.zero, i.size, i.bytes)) = some (some (.slice none 0 0), 1, 24) := by kernel_rfl
theorem mrk_zero (q n : Nat) : madeCells #[.bool false] (n * 1) = (mrk [] q n).toArray := by
  unfold madeCells mrk
  apply Array.ext
  · simp
  · intro i h1 h2
    simp [Nat.mod_one]
theorem mk_bools (q n : Nat) (L : Int) (hL : L = n) (hn : n ≤ 1000000000) (W : World) : (Instr.makeSlice 133 (.int .i64 L) (.int .i64 L)).run Tryz.prog W = .ok (.slice (some ⟨W.heap.size, 0, none⟩) n n) (W.alloc (.cells (mrk [] q n).toArray 4)) := by
  subst hL
  obtain ⟨i, hi, hz, hs, hb⟩ := info_parts infoBool
  have h := run_make (P := Tryz.prog) W 133 4 i (.bool false) Tryz.underlying133 hi hz .i64 .i64 (n : Int) (n : Int) (by omega) (Int.le_refl _) (by rw [hb]; omega) (by omega)
  rw [h, hs]
  rw [show ((n : Int)).toNat = n by omega]
  have e := mrk_zero q n
  simp only [Value.cells]
  rw [e]
end
section
open Go.RowKit
/-- what Past hands back -/
def PastR (t : List Pr) (x : Nat × Nat) (w : World) (e : Ending) (w' : World) : Prop :=
  ∃ A c bf s, e = .returned (.slice A t.length c) ∧ OwnO w' w.heap.size 133 1 (.slice A t.length c) t.length (rowVs t bf t.length) ∧ RowsB t w' w.heap.size s bf t.length ∧ (∀ y, y ∈ s ↔ Hap t y x) ∧ Ex w w'
attribute [local go_sem] alloc_drewN alloc_drew setCell_drewN setCell_drew
set_option maxRecDepth 20000 in
set_option maxHeartbeats 3200000 in
theorem rPast_c (t : List Pr) (A : Option Addr) (c p i : Nat) (w : World) (hT : TcC w A t) (hs : TSm t) (hP : Paired t) (hx : i < evN t p) :
    Calls Tryz.prog 77 #[.agg #[.slice A t.length c], .agg #[.int .i64 p, .int .i64 ((i : Int) + 1)]] w (PastR t (p, i + 1) w) := by
  have hl := hs.procs
  have hse := hs.events
  have HEl : Hid (∀ (p : Nat) (x : Pr), t[p]? = some x → x.evs.length ≤ 100000) := fun p x hx => (hs.each x (List.mem_of_getElem? hx)).2.2.1
  have HT : Hid (∀ w', Ex w w' → TcC w' A t) := fun w' hx => hT.ex hx
  have HIx : Hid (InT t (p, i + 1)) := ⟨by simp, hx⟩
  have HEn : Hid (∀ q, evN t q ≤ 100000) := fun q => by
    unfold evN
    cases h : t[q]? with
    | none => simp
    | some x => exact HEl.out q x h
  have HD : Hid (∀ q j w', Ex w w' → j < evN t q → Calls Tryz.prog 106 #[.agg #[.slice A t.length c], .agg #[.int .i64 q, .int .i64 ((j : Int) + 1)]] w' (DirR t (q, j + 1) w')) := fun q j w' h hj => rDirectly_c t A c q j w' (HT.out w' h) hs hj (by have := HEn.out q; omega)
  have HP := Lib.hid hP
  have hi : i < evN t p := hx
  obtain ⟨ib, hib, hbz, hbs, hbb⟩ := info_parts infoBools
  obtain ⟨i0, hi0, hz0, hz1, hz2⟩ := info_parts infoId
  obtain ⟨W0, hW0⟩ : ∃ W0, W0 = (w.alloc (.cells #[.slice A t.length c] 24)).alloc (.cells #[.int .i64 p, .int .i64 ((i : Int) + 1)] 40) := ⟨_, rfl⟩
  have HX0 : Hid (Ex w W0) := by rw [hW0]; exact ((Ex.refl w).alloc _).alloc _
  have HS0 : Hid (W0.heap.size = w.heap.size + 2) := Lib.hid (by rw [hW0]; simp)
  have HB0 : Hid (∀ w', Ex W0 w' → Blk w' w.heap.size 24 [.slice A t.length c]) := fun w' hx => by
    have : Blk W0 w.heap.size 24 [.slice A t.length c] := by rw [hW0]; exact (Blk.new w _ _).alloc _
    exact this.ex hx
  have HB1 : Hid (∀ w', Ex W0 w' → Blk w' (w.heap.size + 1) 40 [.int .i64 p, .int .i64 ((i : Int) + 1)]) := fun w' hx => by
    have : Blk W0 (w.heap.size + 1) 40 [.int .i64 p, .int .i64 ((i : Int) + 1)] := by
      rw [hW0, show w.heap.size + 1 = (w.alloc (.cells #[.slice A t.length c] 24)).heap.size by simp]
      exact Blk.new _ _ _
    exact this.ex hx
  have HW0 := Lib.hid hW0
  clear hT hs hP hx hW0
  unfold PastR
  go_enter Tryz.func77, Tryz.ntmps77
  go_wp2_with fail
  rw [← HW0.out]
  go_loopw [5, 6] (fun v k wr => ∃ (q : Nat) (A2 : Option Addr) (c2 : Nat) (bf : Nat → Nat), v = .slice A2 q c2 ∧ k = .int .i64 q ∧ q ≤ t.length ∧ Hid (OwnO wr W0.heap.size 133 1 (.slice A2 q c2) q (rowVs t bf q) ∧ RowsB t wr W0.heap.size [] bf q ∧ Ex W0 wr)) (fun _ k _ => t.length - (intOf k).toNat)
  case atStart => exact ⟨0, none, 0, fun _ => 0, rfl, rfl, Nat.zero_le _, Lib.hid ⟨OwnO.nil _ _ _ _, RowsB.zero _ _ _, Ex.refl _⟩⟩
  case round =>
    obtain ⟨q, A2, c2, bf, rfl, rfl, hq, HH⟩ := hrel
    have hB0 := HB0.out _ HH.out.2.2
    have x0 := hB0.cell 0
    have l0 := hB0.lt
    clear hB0
    by_cases hql : q < t.length
    · have m0 : (0 : Int) ≤ (q : Int) := by omega
      have m1 : (q : Int) < (t.length : Int) := by omega
      obtain ⟨x, hx⟩ : ∃ x, t[q]? = some x := ⟨_, List.getElem?_eq_getElem hql⟩
      have hev := evN_at hx
      have hel := HEl.out q x hx
      obtain ⟨bb, o, hA, hbl, V, vc, E, ec, -, -, g2, -⟩ := HT.out _ (HX0.out.trans HH.out.2.2) q x hx
      subst hA
      have hmk := fun W => mk_bools q (x.evs.length + 1) ((x.evs.length : Int) + 1) (by omega) (by omega) W
      have e1 : IntKind.i64.wrap ((x.evs.length : Int) + 1) = (x.evs.length : Int) + 1 := IntWalk.i64_in _ (by omega)
      have HO := Lib.hid (((HH.out.1.ex ((Ex.refl _).alloc (.cells (mrk [] q (x.evs.length + 1)).toArray 4)))).ex ((Ex.refl _).alloc (.cells #[.slice (some ⟨wr.heap.size, 0, none⟩) (x.evs.length + 1) (x.evs.length + 1)] 133)))
      have hbase : W0.heap.size ≤ wr.heap.size := HH.out.2.2.below.size
      clear hx
      go_wp2_with (at_builtin; refine wpList_append_one _ rfl _ _ 134 rfl W0.heap.size 133 ib _ 1 24 Tryz.underlying134 hib hbz hbs hbb rfl _ q (rowVs t bf q) rfl HO.out (wr.heap.size + 1) [.slice (some ⟨wr.heap.size, 0, none⟩) (x.evs.length + 1) (x.evs.length + 1)] rfl rfl ?c1 ?c2 ?c3 ?c4 ?c5 ?_)
      case c1 => exact news_new rfl (by simp)
      case c2 => simp; rfl
      case c3 => omega
      case c4 => omega
      case c5 => simp; omega
      intro A3 c3 w3 ho hg hat hEx
      have HX3 := Lib.hid (hEx W0 ((HH.out.2.2.alloc (.cells (mrk [] q (x.evs.length + 1)).toArray 4)).alloc (.cells #[.slice (some ⟨wr.heap.size, 0, none⟩) (x.evs.length + 1) (x.evs.length + 1)] 133)) (Nat.le_refl _))
      have HN : Hid (OwnO w3 W0.heap.size 133 1 (.slice A3 (q + 1) c3) (q + 1) (rowVs t (upd bf q wr.heap.size) (q + 1)) ∧ RowsB t w3 W0.heap.size [] (upd bf q wr.heap.size) (q + 1)) := by
        have hB : Blk ((wr.alloc (.cells (mrk [] q (x.evs.length + 1)).toArray 4)).alloc (.cells #[.slice (some ⟨wr.heap.size, 0, none⟩) (x.evs.length + 1) (x.evs.length + 1)] 133)) wr.heap.size 4 (mrk [] q (x.evs.length + 1)) := (Blk.new wr _ _).alloc _
        have hR := (HH.out.2.1.ex ((Ex.refl _).alloc (.cells (mrk [] q (x.evs.length + 1)).toArray 4))).ex ((Ex.refl _).alloc (.cells #[.slice (some ⟨wr.heap.size, 0, none⟩) (x.evs.length + 1) (x.evs.length + 1)] 133))
        refine ⟨by rw [rowVs_snoc, hev]; exact ho, ?_⟩
        refine (hR.grown hg (fun r hr => HO.out.ne (hR.row r hr) (by decide))).snoc hbase (fun r hr => ?_) ?_
        · have := (HH.out.2.1.row r hr).lt
          omega
        · rw [hev]; exact hB.grown hg (HO.out.ne hB (by decide))
      clear ho hg hat hEx x0 l0 g2
      go_wp2_with fail
      refine ⟨⟨q + 1, A3, c3, _, rfl, by go_num, by omega, Lib.hid ⟨HN.out.1, HN.out.2, HX3.out⟩⟩, by simp [intOf]; omega⟩
    · obtain rfl : q = t.length := by omega
      have s1 : decide ((t.length : Int) < (t.length : Int)) = false := decide_eq_false (by omega)
      have hB1 := HB1.out _ HH.out.2.2
      have y0 := hB1.cell 0
      have y1 := hB1.cell 1
      have l1 := hB1.lt
      clear hB1
      have HD0 := Lib.hid (HD.out p i wr (HX0.out.trans HH.out.2.2) hi)
      have hbase : W0.heap.size ≤ wr.heap.size := HH.out.2.2.below.size
      go_wp2_with fail
      refine (HD0.out).mono ?_
      rintro e9 w' ⟨A4, c4, rfl, ho4, hx4⟩
      have HH4 : Hid (Bck t (p, i + 1) [] (dirL t (p, i + 1)) [] ∧ OwnO w' W0.heap.size 40 2 (.slice A4 (dirL t (p, i + 1)).length c4) (dirL t (p, i + 1)).length (idCs (dirL t (p, i + 1))) ∧ RowsB t w' W0.heap.size [] bf t.length ∧ Ex W0 w' ∧ OwnO w' W0.heap.size 133 1 (.slice A2 t.length c2) t.length (rowVs t bf t.length)) :=
        ⟨bck_start HP.out HIx.out, ho4.mono hbase, HH.out.2.1.ex hx4, HH.out.2.2.trans hx4, HH.out.1.ex hx4⟩
      have hd2 := dirL_len t (p, i + 1)
      generalize dirL t (p, i + 1) = D0 at *
      clear ho4 hx4 x0 l0 y0 y1 l1 HH HD0 hbase
      go_wp2_with fail
      go_loopg [7] (3 * sumN t + 2) (fun gg v wr => ∃ (s r : List (Nat × Nat)) (A4 : Option Addr) (c4 : Nat), v = .slice A4 r.length c4 ∧ 3 * (sumN t - s.length) + r.length ≤ gg ∧ 3 * (sumN t - s.length) + r.length ≤ 3 * sumN t + 2 ∧ Hid (Bck t (p, i + 1) s r [] ∧ OwnO wr W0.heap.size 40 2 (.slice A4 r.length c4) r.length (idCs r) ∧ RowsB t wr W0.heap.size s bf t.length ∧ Ex W0 wr ∧ OwnO wr W0.heap.size 133 1 (.slice A2 t.length c2) t.length (rowVs t bf t.length)))
      case atStart => exact ⟨[], D0, A4, c4, rfl, by simp only [List.length_nil]; omega, by simp only [List.length_nil]; omega, HH4⟩
      case round =>
        clear HH4
        obtain ⟨s, r, A5, c5, rfl, hgg, hbd, HH⟩ := hrel
        have hB0 := HB0.out _ HH.out.2.2.2.1
        have x0 := hB0.cell 0
        have l0 := hB0.lt
        clear hB0
        cases r with
        | nil =>
          go_wp2_with fail
          go_ret
          exact ⟨A2, c2, bf, s, rfl, HH.out.2.2.2.2.mono HX0.out.below.size, ⟨fun q hq => Nat.le_trans HX0.out.below.size (HH.out.2.2.1.lo q hq), HH.out.2.2.1.inj, HH.out.2.2.1.row⟩, bck_end HH.out.1, HX0.out.trans HH.out.2.2.2.1⟩
        | cons y r =>
          have hyx := HH.out.1.rest y (List.mem_cons_self ..)
          have hyin := (hap_in hyx).1
          obtain ⟨g, o, cap, hv, hcap, hmx, hgb, hgl, hcell⟩ := HH.out.2.1.open_ (by simp)
          obtain ⟨y1, y2⟩ := y
          obtain ⟨j, rfl⟩ : ∃ j, y2 = j + 1 := ⟨y2 - 1, by have := hyin.1; simp only at this; omega⟩
          have hj : j < evN t y1 := hyin.2
          have hy1 : y1 < t.length := Nat.lt_of_not_le fun hle => by
            unfold evN at hj
            rw [List.getElem?_eq_none hle] at hj
            simp at hj
          cases hv
          have k0 : wr.cell? ⟨g, o, none⟩ = some (.int .i64 (y1 : Nat)) := hcell 0 _ rfl
          have k1 : wr.cell? ⟨g, o + 1, none⟩ = some (.int .i64 ((j : Int) + 1)) := hcell 1 _ rfl
          have HO := Lib.hid HH.out.2.1
          have HTl1 : Hid (c5 = 1 → OwnO wr W0.heap.size 40 2 (.slice (some ⟨g, o, none⟩) r.length 0) r.length (idCs r)) := fun h1 => by
            subst h1
            have hr0 : r = [] := List.length_eq_zero_iff.1 (by simp only [List.length_cons] at hcap; omega)
            subst hr0
            exact HO.out.tail1
          have HTl2 : Hid (OwnO wr W0.heap.size 40 2 (.slice (some ⟨g, o + 2, none⟩) r.length (c5 - 1)) r.length (idCs r)) := HO.out.tail
          have m0 : (0 : Int) ≤ (y1 : Int) := by omega
          have m1 : (y1 : Int) < (t.length : Int) := by omega
          have hen := HEn.out y1
          obtain ⟨go, oo, cc, hv2, -, -, -, hgl2, hcell2⟩ := HH.out.2.2.2.2.open_ (by omega)
          cases hv2
          have k2 : wr.cell? ⟨go, oo + y1, none⟩ = some (.slice (some ⟨bf y1, 0, none⟩) (evN t y1 + 1) (evN t y1 + 1)) := hcell2 _ _ (rowVs_get hy1)
          have k3 : wr.cell? ⟨bf y1, j + 1, none⟩ = some (.bool (decide ((y1, j + 1) ∈ s))) := ((HH.out.2.2.1.row y1 hy1).cell (j + 1)).trans (mrk_get (by omega))
          have k4 := (HH.out.2.2.1.row y1 hy1).lt
          have k5 := (HH.out.2.2.1.row y1 hy1).frozen (j + 1)
          have m2 : (0 : Int) ≤ (j : Int) + 1 := by omega
          have m3 : (j : Int) + 1 < (evN t y1 : Int) + 1 := by omega
          have Hyin := Lib.hid hyin
          clear hcell hyin hcell2
          by_cases hc1 : c5 = 1
          case' pos =>
            have HTl := Lib.hid (HTl1.out hc1)
            go_wp2_with fail
            generalize hV : Value.slice (some ⟨g, o, none⟩) r.length 0 = V at *
          case' neg =>
            have HTl := Lib.hid HTl2.out
            go_wp2_with fail
            generalize hV : Value.slice (some ⟨g, o + 2, none⟩) r.length (c5 - 1) = V at *
          all_goals
            have HVe : Hid (∃ A c, V = .slice A r.length c) := ⟨_, _, hV.symm⟩
            clear hV HTl1 HTl2 HO
            generalize hdb : decide ((y1, j + 1) ∈ s) = db at *
            cases db with
            | true =>
              have hys : (y1, j + 1) ∈ s := of_decide_eq_true hdb
              go_quiet (fail)
              go_wp2_with fail
              obtain ⟨A6, c6, rfl⟩ := HVe.out
              go_roundg (3 * (sumN t - s.length) + r.length)
              case measure => simp only [List.length_cons] at hgg; omega
              case rel =>
                have hx : ∀ n, Ex wr ((wr.alloc (.cells #[.int .i64 y1, .int .i64 ((j : Int) + 1)] 40)).drewN n) := fun n => ((Ex.refl _).alloc _).drewN n
                exact ⟨s, r, A6, c6, rfl, Nat.le_refl _, by simp only [List.length_cons] at hbd; omega, Lib.hid ⟨bck_old HH.out.1 hys, HTl.out.ex (hx _), HH.out.2.2.1.ex (hx _), HH.out.2.2.2.1.trans (hx _), HH.out.2.2.2.2.ex (hx _)⟩⟩
            | false =>
              have hys : (y1, j + 1) ∉ s := of_decide_eq_false hdb
              go_quiet (fail)
              go_wp2_with fail
              go_region
              have hbr := HH.out.2.2.1.row y1 hy1
              have hxa : Ex (wr.setCell ⟨bf y1, j + 1, none⟩ (.bool true)) ((wr.setCell ⟨bf y1, j + 1, none⟩ (.bool true)).alloc (.cells #[.int .i64 y1, .int .i64 ((j : Int) + 1)] 40)) := (Ex.refl _).alloc _
              have HH7 : Hid (∀ n, RowsB t (((wr.setCell ⟨bf y1, j + 1, none⟩ (.bool true)).alloc (.cells #[.int .i64 y1, .int .i64 ((j : Int) + 1)] 40)).drewN n) W0.heap.size ((y1, j + 1) :: s) bf t.length ∧
                  OwnO (((wr.setCell ⟨bf y1, j + 1, none⟩ (.bool true)).alloc (.cells #[.int .i64 y1, .int .i64 ((j : Int) + 1)] 40)).drewN n) W0.heap.size 40 2 V r.length (idCs r) ∧
                  OwnO (((wr.setCell ⟨bf y1, j + 1, none⟩ (.bool true)).alloc (.cells #[.int .i64 y1, .int .i64 ((j : Int) + 1)] 40)).drewN n) W0.heap.size 133 1 (.slice (some ⟨go, oo, none⟩) t.length c2) t.length (rowVs t bf t.length) ∧
                  Blk (((wr.setCell ⟨bf y1, j + 1, none⟩ (.bool true)).alloc (.cells #[.int .i64 y1, .int .i64 ((j : Int) + 1)] 40)).drewN n) wr.heap.size 40 [.int .i64 y1, .int .i64 ((j : Int) + 1)] ∧
                  Ex W0 (((wr.setCell ⟨bf y1, j + 1, none⟩ (.bool true)).alloc (.cells #[.int .i64 y1, .int .i64 ((j : Int) + 1)] 40)).drewN n)) := fun n => by
                have h1 := (HH.out.2.2.1.mark (q := y1) (i := j + 1) hy1).ex hxa
                have h2 := (HTl.out.set_ (p := ⟨bf y1, j + 1, none⟩) (HTl.out.ne hbr (by decide)).symm (.bool true)).ex hxa
                have h3 := (HH.out.2.2.2.2.set_ (p := ⟨bf y1, j + 1, none⟩) (HH.out.2.2.2.2.ne hbr (by decide)).symm (.bool true)).ex hxa
                have h5 : Blk ((wr.setCell ⟨bf y1, j + 1, none⟩ (.bool true)).alloc (.cells #[.int .i64 y1, .int .i64 ((j : Int) + 1)] 40)) (wr.setCell ⟨bf y1, j + 1, none⟩ (.bool true)).heap.size 40 [.int .i64 y1, .int .i64 ((j : Int) + 1)] := Blk.new _ _ _
                rw [show (wr.setCell ⟨bf y1, j + 1, none⟩ (.bool true)).heap.size = wr.heap.size by simp] at h5
                exact ⟨⟨h1.lo, h1.inj, h1.row⟩, h2, h3, h5, ((HH.out.2.2.2.1.setCell (p := ⟨bf y1, j + 1, none⟩) (HH.out.2.2.1.lo y1 hy1) _).trans hxa).drewN n⟩
              have HBk := Lib.hid (bck_new HP.out HH.out.1 hys)
              generalize hW7 : World.drewN _ _ = W7
              have H7 : Hid (RowsB t W7 W0.heap.size ((y1, j + 1) :: s) bf t.length ∧ OwnO W7 W0.heap.size 40 2 V r.length (idCs r) ∧ OwnO W7 W0.heap.size 133 1 (.slice (some ⟨go, oo, none⟩) t.length c2) t.length (rowVs t bf t.length) ∧ Blk W7 wr.heap.size 40 [.int .i64 y1, .int .i64 ((j : Int) + 1)] ∧ Ex W0 W7) := by rw [← hW7]; exact HH7.out _
              clear hW7 HH7 hxa hbr HTl x0 l0 k0 k1 k2 k3 k4 k5 hgl hgl2
              generalize wr.heap.size = nY at *
              have hB0 := HB0.out _ H7.out.2.2.2.2
              have x0 := hB0.cell 0
              have l0 := hB0.lt
              have v0 := H7.out.2.2.2.1.cell 0
              have v1 := H7.out.2.2.2.1.cell 1
              have v2 := H7.out.2.2.2.1.lt
              clear hB0
              have HD7 := Lib.hid (HD.out y1 j W7 (HX0.out.trans H7.out.2.2.2.2) hj)
              go_wp2_with fail
              refine (HD7.out).mono ?_
              rintro e9 w8 ⟨A8, c8, rfl, ho8, hx8⟩
              have H8 : Hid (RowsB t w8 W0.heap.size ((y1, j + 1) :: s) bf t.length ∧ OwnO w8 W0.heap.size 40 2 V r.length (idCs r) ∧ OwnO w8 W0.heap.size 133 1 (.slice (some ⟨go, oo, none⟩) t.length c2) t.length (rowVs t bf t.length) ∧ Ex W0 w8 ∧ OwnO w8 W0.heap.size 40 2 (.slice A8 (dirL t (y1, j + 1)).length c8) (dirL t (y1, j + 1)).length (idCs (dirL t (y1, j + 1))) ∧ ∀ k, V.ownBlock = some k → (Value.slice A8 (dirL t (y1, j + 1)).length c8).ownBlock ≠ some k) :=
                ⟨H7.out.1.ex hx8, H7.out.2.1.ex hx8, H7.out.2.2.1.ex hx8, H7.out.2.2.2.2.trans hx8, ho8.mono H7.out.2.2.2.2.below.size, fun k hk hk2 => by
                  have h1 := (H7.out.2.1.lt k hk).2
                  have h2 := (ho8.lt k hk2).1
                  omega⟩
              have hd2 := dirL_len t (y1, j + 1)
              generalize dirL t (y1, j + 1) = D at *
              obtain ⟨A6, c6, rfl⟩ := HVe.out
              clear ho8 hx8 H7 HD7 x0 l0 v0 v1 v2 HVe
              go_wp2_with fail
              go_loopw [7, 10] (fun v k wr => ∃ (q : Nat) (r' : List (Nat × Nat)) (A6 : Option Addr) (c6 : Nat), v = .slice A6 r'.length c6 ∧ k = .int .i64 q ∧ q ≤ D.length ∧ r'.length ≤ r.length + q ∧ Hid (Bck t (p, i + 1) ((y1, j + 1) :: s) r' (D.drop q) ∧ RowsB t wr W0.heap.size ((y1, j + 1) :: s) bf t.length ∧ OwnO wr W0.heap.size 40 2 (.slice A6 r'.length c6) r'.length (idCs r') ∧ OwnO wr W0.heap.size 133 1 (.slice (some ⟨go, oo, none⟩) t.length c2) t.length (rowVs t bf t.length) ∧ Ex W0 wr ∧ OwnO wr W0.heap.size 40 2 (.slice A8 D.length c8) D.length (idCs D) ∧ ∀ k, (Value.slice A6 r'.length c6).ownBlock = some k → (Value.slice A8 D.length c8).ownBlock ≠ some k)) (fun _ k _ => D.length - (intOf k).toNat)
              case atStart => exact ⟨0, r, A6, c6, rfl, rfl, Nat.zero_le _, Nat.le_refl _, Lib.hid ⟨HBk.out, H8.out⟩⟩
              case round =>
                clear HBk H8 HH
                obtain ⟨q, r', A6, c6, rfl, rfl, hq, hrl, HH⟩ := hrel
                by_cases hqD : q < D.length
                · obtain ⟨z, hz⟩ : ∃ z, D[q]? = some z := ⟨_, List.getElem?_eq_getElem hqD⟩
                  obtain ⟨gm, om, cm, hv3, -, -, -, hgl3, hcell3⟩ := HH.out.2.2.2.2.2.1.open_ (by omega)
                  cases hv3
                  have hpg := pair_get (fun x : Nat × Nat => Value.int .i64 (x.1 : Nat)) (fun x => .int .i64 (x.2 : Nat)) D q z hz
                  have k0 : wr.cell? ⟨gm, om + q * 2, none⟩ = some (.int .i64 (z.1 : Nat)) := hcell3 _ _ hpg.1
                  have k1 : wr.cell? ⟨gm, om + q * 2 + 1, none⟩ = some (.int .i64 (z.2 : Nat)) := by rw [Nat.add_assoc]; exact hcell3 _ _ hpg.2
                  have m4 : (0 : Int) ≤ (q : Int) := by omega
                  have m5 : (q : Int) < (D.length : Int) := by omega
                  have hdrop : D.drop q = z :: D.drop (q + 1) := by
                    rw [List.drop_eq_getElem_cons hqD]
                    congr 1
                    rw [List.getElem?_eq_getElem hqD] at hz
                    exact Option.some.inj hz
                  have HBk : Hid (Bck t (p, i + 1) ((y1, j + 1) :: s) (r' ++ [z]) (D.drop (q + 1))) := bck_move (by rw [← hdrop]; exact HH.out.1)
                  have HOw := Lib.hid (HH.out.2.2.1.ex ((Ex.refl _).alloc (.cells #[.int .i64 z.1, .int .i64 z.2] 40)))
                  have hbase : W0.heap.size ≤ wr.heap.size := HH.out.2.2.2.2.1.below.size
                  have hrN : r'.length ≤ 1000000000 := by
                    have h1 := nodup_le HBk.out.nodup (fun y hy => (hap_in (HBk.out.seen y hy)).1)
                    simp only [List.length_cons] at hbd
                    omega
                  clear hz hcell3 hpg hdrop
                  go_wp2_with (at_builtin; refine wpList_append_one _ rfl _ _ 161 rfl W0.heap.size 40 i0 _ 2 16 Tryz.underlying161 hi0 hz0 hz1 hz2 rfl _ r'.length (idCs r') rfl HOw.out wr.heap.size [.int .i64 z.1, .int .i64 z.2] rfl rfl ?c1 ?c2 ?c3 ?c4 ?c5 ?_)
                  case c1 => exact news_new rfl rfl
                  case c2 => exact one_ints (by simp)
                  case c3 => exact hrN
                  case c4 => omega
                  case c5 => simp; omega
                  intro A9 c9 w9 ho hg hat hEx
                  have HN : Hid (Bck t (p, i + 1) ((y1, j + 1) :: s) (r' ++ [z]) (D.drop (q + 1)) ∧ RowsB t w9 W0.heap.size ((y1, j + 1) :: s) bf t.length ∧ OwnO w9 W0.heap.size 40 2 (.slice A9 (r' ++ [z]).length c9) (r' ++ [z]).length (idCs (r' ++ [z])) ∧ OwnO w9 W0.heap.size 133 1 (.slice (some ⟨go, oo, none⟩) t.length c2) t.length (rowVs t bf t.length) ∧ Ex W0 w9 ∧ OwnO w9 W0.heap.size 40 2 (.slice (some ⟨gm, om, none⟩) D.length c8) D.length (idCs D) ∧ ∀ k, (Value.slice A9 (r' ++ [z]).length c9).ownBlock = some k → (Value.slice (some ⟨gm, om, none⟩) D.length c8).ownBlock ≠ some k) := by
                    have hxa : Ex wr (wr.alloc (.cells #[.int .i64 z.1, .int .i64 z.2] 40)) := (Ex.refl _).alloc _
                    have hR := HH.out.2.1.ex hxa
                    have hO := HH.out.2.2.2.1.ex hxa
                    have hM := HH.out.2.2.2.2.2.1.ex hxa
                    refine ⟨HBk.out, hR.grown hg (fun u hu => HOw.out.ne (hR.row u hu) (by decide)), ?_, hO.kept hg (hO.ne2 HOw.out (by decide)), hEx W0 (HH.out.2.2.2.2.1.trans hxa) (Nat.le_refl _), hM.kept hg (.inr fun he => HH.out.2.2.2.2.2.2 gm (by rw [← he]; rfl) rfl), fun k hk hk2 => ?_⟩
                    · rw [List.length_append, idCs_snoc]; exact ho
                    · have hk3 : (Value.slice A9 (r'.length + 1) c9).ownBlock = some k := by rw [← hk]; cases A9 <;> rfl
                      rcases hat with hat | hat
                      · rw [hat] at hk3
                        exact HH.out.2.2.2.2.2.2 k hk3 hk2
                      · rw [hat] at hk3
                        have h1 : k = gm := by simpa [Value.ownBlock] using hk2.symm
                        have h2 : wr.heap.size + 1 = k := Option.some.inj hk3
                        omega
                  clear ho hg hat hEx k0 k1
                  go_wp2_with fail
                  refine ⟨⟨q + 1, r' ++ [z], A9, c9, by rw [List.length_append]; rfl, by go_num, by omega, by rw [List.length_append, List.length_singleton]; omega, HN⟩, by simp [intOf]; omega⟩
                · obtain rfl : q = D.length := by omega
                  have s3 : decide ((D.length : Int) < (D.length : Int)) = false := decide_eq_false (by omega)
                  have hsz := bck_size HH.out.1
                  have hb := HH.out.1
                  rw [List.drop_length] at hb
                  have HB := Lib.hid hb
                  clear hb
                  go_wp2_with fail
                  go_roundg (3 * (sumN t - ((y1, j + 1) :: s).length) + r'.length)
                  case measure => simp only [List.length_cons] at hgg hsz ⊢; omega
                  case rel => exact ⟨(y1, j + 1) :: s, r', A6, c6, rfl, Nat.le_refl _, by simp only [List.length_cons] at hbd hsz ⊢; omega, Lib.hid ⟨HB.out, HH.out.2.2.1, HH.out.2.1, HH.out.2.2.2.2.1, HH.out.2.2.2.1⟩⟩
end
end Go.Proofs.YtpmponafjhnegaaGreatDoor
