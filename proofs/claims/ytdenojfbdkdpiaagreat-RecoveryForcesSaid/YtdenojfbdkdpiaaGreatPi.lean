/-
  The program's Forced, walked.
  Conditions: as each theorem says.
-/
import Derived.Test.YtdenojfbdkdpiaaGreatPh
import Derived.Lib.OwnBridge
import Derived.Lib.QuietBelow
namespace Go.Proofs.YtdenojfbdkdpiaaGreat
open Go.RowKit Go.Shelf
theorem rowO_ex {w w' : World} {base : Nat} {e : TypeId} {size : Nat} {v : Value} {n : Nat} {xs : List Value} (h : w.ownsRow base e size v n xs) (hx : Ex w w') : w'.ownsRow base e size v n xs := by
  refine ⟨h.1, ?_⟩
  rcases h.2 with hn | ⟨g, cap, cur, rfl, hb, hg, rest⟩
  · exact .inl hn
  · exact .inr ⟨g, cap, cur, rfl, hb, (hx.below.block g (Array.getElem?_eq_some_iff.1 hg).1).trans hg, rest⟩
theorem rowO_len {w : World} {base : Nat} {e : TypeId} {size : Nat} {v : Value} {n : Nat} {xs : List Value} (h : w.ownsRow base e size v n xs) : ∃ a c, v = .slice a n c := by
  rcases h.2 with hn | ⟨g, cap, cur, rfl, hb, rest⟩
  · obtain ⟨rfl, rfl⟩ := hn; exact ⟨_, _, rfl⟩
  · exact ⟨_, _, rfl⟩
theorem sort_c (base : Nat) (v : Value) (zs : List Int) (w : World) (ho : w.ownsRow base 3 1 v zs.length (intsV zs)) (hl : zs.length ≤ 1000000) :
    Calls Tryz.prog 31 #[v] w (fun e w' => e = .returned (.tuple #[]) ∧ w'.ownsRow base 3 1 v zs.length (intsV (zs.mergeSort fun x y => decide (x ≤ y))) ∧ ∀ W0, Ex W0 w → W0.heap.size ≤ base → Ex W0 w') := by
  by_cases hv : v = .slice none 0 0
  · subst hv
    have h0 : zs = [] := by
      rcases ho.2 with ⟨-, e⟩ | ⟨g, cap, cur, e, -⟩
      · exact List.eq_nil_of_length_eq_zero (by simpa using e)
      · cases e
    subst h0
    refine (Tryz.slices_Sort_int_none none 0 w).mono ?_
    rintro e w' ⟨rfl, rfl⟩
    exact ⟨rfl, by simpa using ho, fun _ h _ => h⟩
  · obtain ⟨g, cap, rfl, hg, hlt, hcap, hmx, -, hH⟩ := Lib.holds_of_ownsRow (zs := zs) ho hv
    refine (Tryz.slices_Sort_int g 0 cap zs w hH hlt (by omega)).mono ?_
    rintro e w' ⟨rfl, q, os, rfl⟩
    have h1 := Lib.ownsRow_putRow (q := q) (k := zs.length) (ys := zs.mergeSort fun x y => decide (x ≤ y)) ho (by simp) (Nat.le_refl _)
    rw [List.take_of_length_le (by simp)] at h1
    have hgr : ∀ X : World, Ex X (Sort.grow X os) := fun X => Ex.of (Go.below_regrown X X.drawn os)
    exact ⟨rfl, rowO_ex h1 (hgr _), fun W0 hx hb => Ex.trans (Ex.of (Lib.below_putRow hx.below (Nat.le_trans hb hg))) (hgr _)⟩
theorem blk7_lt {w : World} {a : Addr} {v : Value} (h : w.cell? a = some v) : a.block < w.heap.size := by
  unfold World.cell? at h
  split at h
  · rename_i hb; exact (Array.getElem?_eq_some_iff.1 hb).1
  · cases h
theorem cells_atB {w : World} {g t : Nat} {cs : List Value} (h : Blk w g t cs) : ∀ j u, cs[j]? = some u → w.cell? ((⟨g, 0, none⟩ : Addr).add j) = some u := fun j u hj => by
  obtain ⟨ad, e, -, hc⟩ := h.cells j u hj
  cases e
  exact hc
/-- rows of the call's own -/
structure FrO (t : List Pr) (l : List (List Int)) (base i : Nat) (f : Nat → Option Addr × Nat) (A : Option Addr) (c : Nat) (w : World) : Prop where
  out : OwnO w base 39 1 (.slice A i c) i ((List.range i).map fun p => .slice (f p).1 (frcP t l p).length (f p).2)
  rows : ∀ p, p < i → OwnO w base 3 1 (.slice (f p).1 (frcP t l p).length (f p).2) (frcP t l p).length (intsV (frcP t l p))
theorem FrO.ex {t : List Pr} {l : List (List Int)} {base i : Nat} {f : Nat → Option Addr × Nat} {A : Option Addr} {c : Nat} {w w' : World} (h : FrO t l base i f A c w) (hx : Ex w w') : FrO t l base i f A c w' := ⟨h.out.ex hx, fun p hp => (h.rows p hp).ex hx⟩
/-- lists as they are handed back -/
theorem FrO.lists {t : List Pr} {l : List (List Int)} {base : Nat} {f : Nat → Option Addr × Nat} {A : Option Addr} {c : Nat} {w : World} (h : FrO t l base l.length f A c w) : LlC w A (frcL t l) := fun p r hp => by
  have hpl : p < l.length := by have := (List.getElem?_eq_some_iff.1 hp).1; rwa [frcL_len] at this
  rw [frcL_get hpl] at hp
  cases hp
  obtain ⟨g, o, cap, he, -, -, -, hlt, hc⟩ := h.out.open_ (by omega)
  cases he
  obtain ⟨a9, c9, h9, hle, -⟩ := (h.rows p hpl).len
  cases h9
  exact ⟨g, o, rfl, hlt, _, _, hc p _ (by simp [hpl]), hle, (h.rows p hpl).row⟩
/-- what Forced hands back -/
def FrcR (t : List Pr) (l : List (List Int)) (w : World) (e : Ending) (w' : World) : Prop :=
  (cpB t l = false ∧ e = .returned (.tuple #[.slice none 0 0, .int .i64 1]) ∧ Ex w w') ∨
  (cpB t l = true ∧ ∃ A c, e = .returned (.tuple #[.slice A l.length c, .int .i64 0]) ∧ LlC w' A (frcL t l) ∧ l.length ≤ c ∧ Ex w w')
set_option maxRecDepth 100000 in
set_option maxHeartbeats 6400000 in
theorem pForced_c (t : List Pr) (A : Option Addr) (c : Nat) (l : List (List Int)) (B : Option Addr) (lc : Nat) (w : World) (hT : TcC w A t) (hs : TSm t) (hcap : t.length ≤ c) (hL : LlC w B l) (hls : LSm l) :
    Calls Tryz.prog 9 #[.agg #[.slice A t.length c], .slice B l.length lc] w (FrcR t l w) := by
  have HV := Lib.hid (fun w' (h : Ex w w') => pCp_c t A c l B lc w' (hT.ex h) hs hcap (hL.ex h) hls)
  have HT : Hid (∀ w', Ex w w' → TcC w' A t) := fun w' hx => hT.ex hx
  have HL : Hid (∀ w', Ex w w' → LlC w' B l) := fun w' hx => hL.ex hx
  have HEl : Hid (∀ (p : Nat) (x : Pr), t[p]? = some x → x.evs.length ≤ 100000) := fun p x hx => (hs.each x (List.mem_of_getElem? hx)).2.2.1
  obtain ⟨i0, hi0, hz0, hz1, hz2⟩ := info_parts infoInt
  obtain ⟨j0, hj0, jz0, jz1, jz2⟩ := info_parts infoRow
  obtain ⟨W0, hW0⟩ : ∃ W0, W0 = w.alloc (.cells #[.slice A t.length c] 24) := ⟨_, rfl⟩
  have HX0 : Hid (Ex w W0) := by rw [hW0]; exact (Ex.refl w).alloc _
  have HB0 : Hid (∀ w', Ex W0 w' → Blk w' w.heap.size 24 [.slice A t.length c]) := fun w' hx => by
    have : Blk W0 w.heap.size 24 [.slice A t.length c] := by rw [hW0]; exact Blk.new w _ _
    exact this.ex hx
  have HW0 := Lib.hid hW0
  have x0 := (HB0.out _ (Ex.refl _)).cell 0
  have xl := (HB0.out _ (Ex.refl _)).lt
  unfold FrcR
  cases hv : cpB t l with
  | false =>
    rw [hv] at HV
    clear hW0 hT hcap hL hs hls
    go_enter Tryz.func9, Tryz.ntmps9
    go_wp2_with fail
    rw [← HW0.out]
    go_wp2_with fail
    refine (HV.out _ HX0.out).mono ?_
    rintro e9 w1 ⟨rfl, hx1⟩
    have HX1 := Lib.hid (HX0.out.trans hx1)
    clear hx1 x0 xl
    go_wp2_with fail
    exact bodyPost_ret (results_tt rfl rfl rfl) rfl (.inl ⟨by first | rfl | trivial, rfl, HX1.out⟩)
  | true =>
    rw [hv] at HV
    have hcp := (cp_of hv).2
    have hlt : l.length ≤ t.length := Nat.le_of_eq hcp.1
    have htl := hs.procs
    have HOk : Hid (∀ (p : Nat) (x : Pr) (r : List Int), t[p]? = some x → l[p]? = some r → okRow x.evs.length r) := fun p x r hx hr => by have := hcp.2 p r hr; rwa [evN_at hx] at this
    have HRl : Hid (∀ (p : Nat) (r : List Int), l[p]? = some r → r.length ≤ 100000) := fun p r hr => hls.each r (List.mem_of_getElem? hr)
    clear hW0 hT hcap hL hs hls hcp
    go_enter Tryz.func9, Tryz.ntmps9
    go_wp2_with fail
    rw [← HW0.out]
    go_wp2_with fail
    refine (HV.out _ HX0.out).mono ?_
    rintro e9 w1 ⟨rfl, hx1⟩
    have HX1 := Lib.hid hx1
    clear hx1 x0 xl
    go_wp2_with fail
    go_loopw [6, 21] (fun ov q wr => ∃ (p : Nat) (A2 : Option Addr) (c2 : Nat) (f : Nat → Option Addr × Nat), q = .int .i64 p ∧ p ≤ l.length ∧ ov = .slice A2 p c2 ∧ Hid (FrO t l W0.heap.size p f A2 c2 wr ∧ Ex W0 wr)) (fun _ q _ => l.length - (intOf q).toNat)
    case atStart => exact ⟨0, none, 0, fun _ => (none, 0), rfl, Nat.zero_le _, rfl, Lib.hid ⟨⟨by simpa using OwnO.nil _ _ _ _, fun p h => absurd h (Nat.not_lt_zero _)⟩, HX1.out⟩⟩
    case round =>
      obtain ⟨p, A2, c2, f, rfl, hp, rfl, HH⟩ := hrel
      by_cases hpl : p < l.length
      · have m0 : (0 : Int) ≤ (p : Int) := by omega
        have m1 : (p : Int) < (l.length : Int) := by omega
        have m2 : (p : Int) < (t.length : Int) := by omega
        obtain ⟨x, hx⟩ := get_at (show p < t.length by omega)
        obtain ⟨r, hr⟩ := get_at hpl
        have hel := HEl.out p x hx
        have hrl := HRl.out p r hr
        have hok := HOk.out p x r hx hr
        have HSrt := Lib.hid (sort_frc hok)
        have HAsc := Lib.hid hok.asc
        have HFp : Hid (frcP t l p = frc r x.evs 0 false) := frcP_at hx hr
        have hrp := asc_pos hok.asc
        have hXw := HX0.out.trans HH.out.2
        obtain ⟨b, o, hA, hbl, V, vc, E, ec, k0, k1, k2, -, kE⟩ := HT.out _ hXw p x hx
        subst hA
        obtain ⟨bb, oo, hBB, hbb, A7, c7, r0, hc7, hrow⟩ := HL.out _ hXw p r hr
        subst hBB
        have HRow : Hid (∀ w', Ex wr w' → Row w' A7 (intsV r)) := fun w' h => hrow.ex h
        have HPx : Hid (∀ w', Ex wr w' → b < w'.heap.size ∧ w'.cell? ⟨b, o + p * 3 + 2, none⟩ = some (.slice E x.evs.length ec)) := fun w' h => ⟨Nat.lt_of_lt_of_le hbl h.below.size, (h.below.cell hbl).trans k2⟩
        have HXe : Hid (∀ w', Ex wr w' → EvsC w' E x.evs) := fun w' h => kE.ex h
        have HBw := Lib.hid (fun w' (h : Ex wr w') => HB0.out w' (HH.out.2.trans h))
        obtain ⟨bA, oA, hA7, hgA, hcA⟩ := row_at hrow (fun h => by rw [h] at hrp; exact absurd hrp (Nat.lt_irrefl _))
        subst hA7
        have HCl := Lib.hid (Tryz.slices_Clone_int bA oA r.length c7 r wr (Nat.le_refl _) (by omega) (contains_int hcA))
        have HSr := Lib.hid (fun n w' (h : Ex wr w') => search_c r _ c7 n w' (hrow.ex h) hok.asc hrl)
        clear hx hr k0 k1 k2 kE hbl hrow hgA hcA hok hXw
        go_wp2_with fail
        refine (HCl.out).mono ?_
        rintro e9 w2 ⟨v2, rfl, ho2, -, hb2⟩
        rw [List.take_length] at ho2
        have HX2 : Hid (Ex wr w2) := Ex.of hb2
        have HO2 : Hid (w2.ownsRow wr.heap.size 3 1 v2 r.length (intsV r)) := ho2
        obtain ⟨a2, d2, rfl⟩ := rowO_len ho2
        have y0 := (HBw.out _ HX2.out).cell 0
        have yl := (HBw.out _ HX2.out).lt
        obtain ⟨g1, g2⟩ := HPx.out _ HX2.out
        clear ho2 hb2 r0 hbb
        go_wp2_with fail
        clear y0 yl g1 g2
        go_loopw [9, 10, 35] (fun mv sv q w3 => ∃ (k : Nat) (s : Bool) (acc : List Int) (am : Option Addr) (cm : Nat), q = .int .i64 k ∧ k ≤ x.evs.length ∧ sv = .bool s ∧ acc.length ≤ k ∧ mv = .slice am (r.length + acc.length) cm ∧ Hid (acc ++ addF r (x.evs.drop k) k s = addF r x.evs 0 false ∧ w3.ownsRow wr.heap.size 3 1 (.slice am (r.length + acc.length) cm) (r.length + acc.length) (intsV (r ++ acc)) ∧ Ex wr w3)) (fun _ _ q _ => x.evs.length - (intOf q).toNat)
        case atStart => exact ⟨0, false, [], a2, d2, rfl, Nat.zero_le _, rfl, Nat.le_refl _, rfl, Lib.hid ⟨by simp, by simpa using HO2.out, HX2.out⟩⟩
        case round =>
          obtain ⟨k, s, acc, am, cm, rfl, hk, rfl, hac, rfl, HJ⟩ := hrel
          by_cases hkl : k < x.evs.length
          · have n0 : (0 : Int) ≤ (k : Int) := by omega
            have n1 : (k : Int) < (x.evs.length : Int) := by omega
            obtain ⟨e, he⟩ := get_at hkl
            obtain ⟨be, oe, hE, hbe, Bs, bs, e0, e1, e2, e3, e4, -⟩ := HXe.out _ HJ.out.2.2 k e he
            subst hE
            have HSt := Lib.hid (fun s => add_step (r := r) he s)
            have hXe : Ex wr (wr.alloc (.cells #[.int .i64 e.kind, .int .i64 e.peer, .int .i64 e.msg, .int .i64 e.time, .slice Bs e.asg.length bs] 47)) := (Ex.refl _).alloc _
            have hBe : Blk (wr.alloc (.cells #[.int .i64 e.kind, .int .i64 e.peer, .int .i64 e.msg, .int .i64 e.time, .slice Bs e.asg.length bs] 47)) wr.heap.size 47 [.int .i64 e.kind, .int .i64 e.peer, .int .i64 e.msg, .int .i64 e.time, .slice Bs e.asg.length bs] := Blk.new wr _ _
            have HFnd := Lib.hid (HSr.out (k : Int) _ (HJ.out.2.2.trans hXe))
            have HBe := Lib.hid hBe
            have HXe2 := Lib.hid hXe
            clear hBe hXe
            generalize r.countP (· < (k : Int)) = kc at *
            have hk2 : decide (e.kind = 2) = (e.kind == 2) := by rw [Bool.eq_iff_iff]; simp
            have hcb : r.contains (k : Int) = decide ((k : Int) ∈ r) := by rw [Bool.eq_iff_iff]; simp
            have HK2 := Lib.hid hk2
            rw [hcb] at HFnd
            clear hk2 hcb he
            by_cases hr1 : (k : Int) ∈ r
            · rw [decide_eq_true hr1] at HFnd
              have HNx : Hid (nxS r k s e = (e.kind == 2)) := by
                unfold nxS
                rw [decide_eq_true (.inl hr1), HK2.out]
                exact Lib.hid (by simp)
              have HAd : Hid (acc ++ addF r (x.evs.drop (k + 1)) (k + 1) (nxS r k s e) = addF r x.evs 0 false) := by
                have := HJ.out.1
                rw [HSt.out s, if_neg fun h => h.1 hr1] at this
                exact this
              rw [HNx.out] at HAd
              clear hr1
              cases s with
              | false =>
                go_wp2_with fail
                refine (HFnd.out).mono ?_
                rintro e9 w5 ⟨rfl, hx5⟩
                have hb5 := HBe.out.ex hx5
                have q0 := hb5.cell 0
                have ql := hb5.lt
                have HX5 := Lib.hid (HXe2.out.trans hx5)
                clear e0 e1 e2 e3 e4 hb5 hx5 hbe
                go_wp2_with fail
                refine ⟨⟨k + 1, _, acc, am, cm, by go_num, by omega, rfl, by omega, rfl, Lib.hid ⟨HAd.out, rowO_ex HJ.out.2.1 HX5.out, HJ.out.2.2.trans HX5.out⟩⟩, by simp [intOf]; omega⟩
              | true =>
                go_wp2_with fail
                refine (HFnd.out).mono ?_
                rintro e9 w5 ⟨rfl, hx5⟩
                have hb5 := HBe.out.ex hx5
                have q0 := hb5.cell 0
                have ql := hb5.lt
                have HX5 := Lib.hid (HXe2.out.trans hx5)
                clear e0 e1 e2 e3 e4 hb5 hx5 hbe
                go_wp2_with fail
                refine ⟨⟨k + 1, _, acc, am, cm, by go_num, by omega, rfl, by omega, rfl, Lib.hid ⟨HAd.out, rowO_ex HJ.out.2.1 HX5.out, HJ.out.2.2.trans HX5.out⟩⟩, by simp [intOf]; omega⟩
            · rw [decide_eq_false hr1] at HFnd
              cases s with
              | false =>
                have HNx : Hid (nxS r k false e = (e.kind == 2)) := by
                  unfold nxS
                  rw [HK2.out]
                  exact Lib.hid (by simp)
                have HAd : Hid (acc ++ addF r (x.evs.drop (k + 1)) (k + 1) (nxS r k false e) = addF r x.evs 0 false) := by
                  have := HJ.out.1
                  rw [HSt.out false, if_neg fun h => by cases h.2.1] at this
                  exact this
                rw [HNx.out] at HAd
                clear hr1
                go_wp2_with fail
                refine (HFnd.out).mono ?_
                rintro e9 w5 ⟨rfl, hx5⟩
                have hb5 := HBe.out.ex hx5
                have q0 := hb5.cell 0
                have ql := hb5.lt
                have HX5 := Lib.hid (HXe2.out.trans hx5)
                clear e0 e1 e2 e3 e4 hb5 hx5 hbe
                go_wp2_with fail
                refine ⟨⟨k + 1, _, acc, am, cm, by go_num, by omega, rfl, by omega, rfl, Lib.hid ⟨HAd.out, rowO_ex HJ.out.2.1 HX5.out, HJ.out.2.2.trans HX5.out⟩⟩, by simp [intOf]; omega⟩
              | true =>
                by_cases h3 : e.kind = 3
                · have s3 : (e.kind == 3) = true := by simp [h3]
                  have s2 : (e.kind == 2) = false := by simp [h3]
                  have HNx : Hid (nxS r k true e = false) := by
                    unfold nxS
                    rw [HK2.out, s2, decide_eq_true (.inr ⟨rfl, h3⟩)]
                    exact Lib.hid rfl
                  have HAd : Hid ((acc ++ [(k : Int)]) ++ addF r (x.evs.drop (k + 1)) (k + 1) false = addF r x.evs 0 false) := by
                    have := HJ.out.1
                    rw [HSt.out true, if_pos ⟨hr1, rfl, h3⟩, HNx.out] at this
                    rw [List.append_assoc]
                    exact this
                  clear hr1 h3
                  go_wp2_with fail
                  refine (HFnd.out).mono ?_
                  rintro e9 w5 ⟨rfl, hx5⟩
                  have hb5 := HBe.out.ex hx5
                  have q0 := hb5.cell 0
                  have ql := hb5.lt
                  have HX5 := Lib.hid (HXe2.out.trans hx5)
                  have HB5 := Lib.hid hb5
                  have hXs : Ex w5 (w5.alloc (.cells #[.int .i64 (k : Nat)] 3)) := (Ex.refl _).alloc _
                  have HOs := Lib.hid (rowO_ex HJ.out.2.1 (HX5.out.trans hXs))
                  have HXs := Lib.hid (HJ.out.2.2.trans (HX5.out.trans hXs))
                  have hbase := (HJ.out.2.2.trans HX5.out).below.size
                  have hnew := cells_atB (Blk.new w5 3 [.int .i64 (k : Nat)])
                  have HNw := Lib.hid hnew
                  clear e0 e1 e2 e3 e4 hb5 hx5 hbe hXs hnew
                  go_wp2_with (at_builtin; refine wpList_append_own _ rfl _ _ 39 rfl _ 3 i0 (.int .i64 0) 1 8 Tryz.underlying39 hi0 hz0 hz1 hz2 rfl (by decide) _ _ _ rfl HOs.out ⟨w5.heap.size, 0, none⟩ 1 1 [.int .i64 (k : Nat)] rfl rfl ?c1 ?c2 ?c3 ?c4 ?c5 ?_)
                  case c1 => exact HNw.out
                  case c2 => intro u hu; simp at hu; subst hu; rfl
                  case c3 => unfold maxLen; omega
                  case c4 => omega
                  case c5 => simp; omega
                  intro v7 w7 hown7 hg7 _
                  obtain ⟨a7, d7, rfl⟩ := rowO_len hown7
                  have HX7 : Hid (Ex _ w7) := HXs.out.grown hg7 fun k hk => by
                    rcases HOs.out.2 with ⟨h0, -⟩ | ⟨g, cap, cur, h0, hb, -⟩
                    · rw [h0] at hk; simp [Value.ownBlock] at hk
                    · rw [h0] at hk; simp [Value.ownBlock] at hk; omega
                  have ho7 := hown7
                  rw [show r.length + acc.length + 1 = r.length + (acc ++ [(k : Int)]).length by simp; omega, show intsV (r ++ acc) ++ [Value.int .i64 (k : Nat)] = intsV (r ++ (acc ++ [(k : Int)])) by rw [← List.append_assoc, intsV_snoc]] at ho7
                  have HO7 := Lib.hid ho7
                  clear ho7
                  have hq7 : w7.cell? ⟨wr.heap.size, 0, none⟩ = some (.int .i64 e.kind) := by
                    refine ((HB5.out.alloc _).grown hg7 (fun he => ?_)).cell 0
                    rcases HOs.out.2 with ⟨h0, -⟩ | ⟨g, cap, cur, h0, hb, hcur, -⟩
                    · rw [h0] at he; simp [Value.ownBlock] at he
                    · rw [h0] at he
                      simp only [Value.ownBlock, Option.some.injEq] at he
                      have h9 := HB5.out.alloc (.cells #[.int .i64 (k : Nat)] 3)
                      unfold Blk at h9
                      rw [he, hcur] at h9
                      injection h9 with h9
                      injection h9 with _ h9
                      exact absurd h9 (by decide)
                  have hql7 : wr.heap.size < w7.heap.size := blk7_lt hq7
                  have hlen7 : (acc ++ [(k : Int)]).length = acc.length + 1 := by simp
                  clear hown7 hg7 q0 ql
                  go_wp2_with fail
                  refine ⟨⟨k + 1, false, acc ++ [(k : Int)], a7, d7, by go_num, by omega, rfl, by omega, by rw [hlen7]; rfl, Lib.hid ⟨HAd.out, HO7.out, HX7.out⟩⟩, by simp [intOf]; omega⟩
                · have s3 : (e.kind == 3) = false := by simp [h3]
                  have HNx : Hid (nxS r k true e = true) := by
                    unfold nxS
                    rw [decide_eq_false (fun h => h.elim hr1 fun h => h3 h.2)]
                    exact Lib.hid (by simp)
                  have HAd : Hid (acc ++ addF r (x.evs.drop (k + 1)) (k + 1) (nxS r k true e) = addF r x.evs 0 false) := by
                    have := HJ.out.1
                    rw [HSt.out true, if_neg fun h => h3 h.2.2] at this
                    exact this
                  rw [HNx.out] at HAd
                  clear hr1 h3
                  go_wp2_with fail
                  refine (HFnd.out).mono ?_
                  rintro e9 w5 ⟨rfl, hx5⟩
                  have hb5 := HBe.out.ex hx5
                  have q0 := hb5.cell 0
                  have ql := hb5.lt
                  have HX5 := Lib.hid (HXe2.out.trans hx5)
                  clear e0 e1 e2 e3 e4 hb5 hx5 hbe
                  go_wp2_with fail
                  refine ⟨⟨k + 1, true, acc, am, cm, by go_num, by omega, rfl, by omega, rfl, Lib.hid ⟨HAd.out, rowO_ex HJ.out.2.1 HX5.out, HJ.out.2.2.trans HX5.out⟩⟩, by simp [intOf]; omega⟩
          · obtain rfl : k = x.evs.length := by omega
            have s1 : decide ((x.evs.length : Int) < (x.evs.length : Int)) = false := decide_eq_false (by omega)
            have hacc : acc = addF r x.evs 0 false := by
              have := HJ.out.1
              rw [List.drop_length, show addF r [] x.evs.length s = [] from rfl, List.append_nil] at this
              exact this
            have hlen : (frc r x.evs 0 false).length = r.length + acc.length := by
              rw [← HSrt.out, List.length_mergeSort, List.length_append, ← hacc]
            have HSo := Lib.hid (sort_c _ (.slice am (r.length + acc.length) cm) (r ++ acc) _ (by rw [List.length_append]; exact HJ.out.2.1) (by simp; omega))
            have HLe := Lib.hid hlen
            have HAc := Lib.hid hacc
            clear hlen hacc
            go_wp2_with fail
            refine (HSo.out).mono ?_
            rintro e9 w8 ⟨rfl, ho8, hx8⟩
            rw [HAc.out, HSrt.out, ← HAc.out, List.length_append] at ho8
            have HX8 := Lib.hid (hx8 _ HJ.out.2.2 (Nat.le_refl _))
            have HX8w := Lib.hid (HH.out.2.trans HX8.out)
            have HR8 : Hid (OwnO w8 W0.heap.size 3 1 (.slice am (frcP t l p).length cm) (frcP t l p).length (intsV (frcP t l p))) := by
              rw [HFp.out, HLe.out]
              exact (OwnO.of ho8).mono HH.out.2.below.size
            have HF8 := Lib.hid ((HH.out.1.ex HX8.out).ex ((Ex.refl _).alloc (.cells #[.slice am (r.length + acc.length) cm] 39)))
            have HR8a := Lib.hid (HR8.out.ex ((Ex.refl _).alloc (.cells #[.slice am (r.length + acc.length) cm] 39)))
            have hbase : W0.heap.size ≤ w8.heap.size := HX8w.out.below.size
            clear ho8 hx8 HSo
            go_wp2_with (at_builtin; refine wpList_append_one _ rfl _ _ 25 rfl W0.heap.size 39 j0 _ 1 24 Tryz.underlying25 hj0 jz0 jz1 jz2 rfl (.slice A2 p c2) p ((List.range p).map fun p => .slice (f p).1 (frcP t l p).length (f p).2) rfl HF8.out.out w8.heap.size [.slice am (r.length + acc.length) cm] rfl rfl ?c1 ?c2 ?c3 ?c4 ?c5 ?_)
            case c1 => exact news_new rfl (by simp)
            case c2 => simp; rfl
            case c3 => omega
            case c4 => omega
            case c5 => simp; omega
            intro A9 c9 w9 ho hg hat hEx
            have HX9 := Lib.hid (hEx W0 (HX8w.out.alloc _) (Nat.le_refl _))
            have HN : Hid (FrO t l W0.heap.size (p + 1) (fun q => if q = p then (am, cm) else f q) A9 c9 w9) := by
              have hmap : ((List.range (p + 1)).map fun q => Value.slice ((if q = p then (am, cm) else f q) : Option Addr × Nat).1 (frcP t l q).length ((if q = p then (am, cm) else f q) : Option Addr × Nat).2) = ((List.range p).map fun q => Value.slice (f q).1 (frcP t l q).length (f q).2) ++ [.slice am (r.length + acc.length) cm] := by
                rw [List.range_succ, List.map_append]
                congr 1
                · refine List.map_congr_left fun q hq => ?_
                  have := List.mem_range.1 hq
                  rw [if_neg (by omega)]
                · simp [HFp.out, HLe.out]
              refine ⟨by rw [hmap]; exact ho, fun q hq => ?_⟩
              by_cases he : q = p
              · subst he
                rw [if_pos rfl]
                exact HR8a.out.kept hg (HR8a.out.ne2 HF8.out.out (by decide))
              · rw [if_neg he]
                have h9 := HF8.out.rows q (by omega)
                exact h9.kept hg (h9.ne2 HF8.out.out (by decide))
            clear ho hg hat hEx
            go_wp2_with fail
            refine ⟨⟨p + 1, A9, c9, _, by go_num, by omega, rfl, Lib.hid ⟨HN.out, HX9.out⟩⟩, by simp [intOf]; omega⟩
      · obtain rfl : p = l.length := by omega
        have s1 : decide ((l.length : Int) < (l.length : Int)) = false := decide_eq_false (by omega)
        obtain ⟨a9, c9, h9, hle, -⟩ := HH.out.1.out.len
        cases h9
        go_wp2_with fail
        exact bodyPost_ret (results_tt rfl rfl rfl) rfl (.inr ⟨by first | rfl | trivial, A2, c2, rfl, HH.out.1.lists, hle, HX0.out.trans HH.out.2⟩)
end Go.Proofs.YtdenojfbdkdpiaaGreat
