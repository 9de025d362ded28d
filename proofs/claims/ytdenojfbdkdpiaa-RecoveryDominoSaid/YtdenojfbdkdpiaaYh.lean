/-
  The program's stored, greatest and line, walked. The program's line, walked. The program's After and Line, walked. The program's After, walked. The program's Line, walked.
  Conditions: as each theorem says.
-/
import Derived.Test.YtdenojfbdkdpiaaYg
import Derived.Test.YtdenojfbdkdpiaaShelf
import Derived.WalkMore
import Derived.Deep.RegionWith
import Derived.Test.YtdenojfbdkdpiaaHk
namespace Go.Proofs.Ytdenojfbdkdpiaa
section
open Go.RowKit Go.Shelf
theorem stored_len {r : List Int} (h : r ≠ []) : (stored r).length = max 1 (r.length - 1) := by
  have := List.length_pos_iff.2 h
  unfold stored
  rw [List.length_take]
  omega
set_option maxRecDepth 20000 in
set_option maxHeartbeats 1600000 in
theorem pStored_c (r : List Int) (A : Option Addr) (c : Nat) (w : World) (hr : r ≠ []) (hc : r.length ≤ c) (hl : r.length ≤ 100000) :
    Calls Try.prog 62 #[.slice A r.length c] w (Ret w (.slice A (stored r).length c)) := by
  rw [stored_len hr]
  have hp := List.length_pos_iff.2 hr
  have w1 : IntKind.i64.wrap ((r.length : Int) - 1) = ((r.length - 1 : Nat) : Int) := by rw [IntWalk.i64_in _ (by omega)]; omega
  by_cases h1 : r.length = 1
  · go_enter Try.func62, Try.ntmps62
    go_wp2_with fail
    go_ret
    exact Ret.mk (by rw [h1]; rfl) (Ex.refl w)
  · have hm : max (1 : Int) ((r.length - 1 : Nat) : Int) = ((r.length - 1 : Nat) : Int) := by omega
    have hm2 : max 1 (r.length - 1) = r.length - 1 := by omega
    have q0 : (0 : Int) ≤ ((r.length - 1 : Nat) : Int) := by omega
    have q1 : ((r.length - 1 : Nat) : Int) ≤ (c : Int) := by omega
    have q2 : r.length - 1 ≤ c := by omega
    rw [hm2]
    clear hm2 h1
    go_enter Try.func62, Try.ntmps62
    go_wp2_with fail
    go_ret
    exact Ret.mk (by simp) (Ex.refl w)
theorem contains_int {b off : Nat} {r : List Int} {w : World} (h : ∀ j a, r[j]? = some a → w.cell? ⟨b, off + j, none⟩ = some (.int .i64 a)) : ∀ j, j < r.length → w.cell? ⟨b, off + j, none⟩ = some (.int .i64 (r.getD j 0)) := fun j hj => by
  rw [h j _ (List.getElem?_eq_getElem hj), List.getD_eq_getElem?_getD, List.getElem?_eq_getElem hj]
  rfl
theorem search_c (r : List Int) (A : Option Addr) (c : Nat) (n : Int) (w : World) (hrow : Row w A (intsV r)) (hasc : Asc r) (hl : r.length ≤ 100000) :
    Calls Try.prog 30 #[.slice A r.length c, .int .i64 n] w (Ret w (.tuple #[.int .i64 (r.countP (· < n) : Nat), .bool (r.contains n)])) := by
  obtain ⟨b, o, rfl, hb, hcs⟩ := row_at hrow (fun h => by have := asc_pos hasc; rw [h] at this; exact absurd this (Nat.lt_irrefl _))
  refine (Try.slices_BinarySearch_int b o r.length c r n w (Nat.le_refl _) (by omega) (contains_int hcs) (by rw [List.take_length]; exact asc_sorted hasc)).mono ?_
  rintro e w' ⟨rfl, q, rfl⟩
  rw [List.take_length]
  exact Ret.mk rfl ((Ex.refl w).drewN _)
set_option maxRecDepth 20000 in
set_option maxHeartbeats 1600000 in
theorem pGreatest_c (r : List Int) (A : Option Addr) (c : Nat) (n : Int) (w : World) (hrow : Row w A (intsV r)) (hasc : Asc r) (hl : r.length ≤ 100000) (hn : 0 ≤ n) :
    Calls Try.prog 88 #[.slice A r.length c, .int .i64 n] w (Ret w (.int .i64 (grt r n))) := by
  have HS := Lib.hid (fun w' (hx : Ex w w') => search_c r A c n w' (hrow.ex hx) hasc hl)
  have hs := search_at hasc hn
  have hp := asc_pos hasc
  obtain ⟨b, o, rfl, hb, hcs⟩ := row_at hrow (fun h => by rw [h] at hp; exact absurd hp (Nat.lt_irrefl _))
  generalize r.countP (· < n) = i at *
  clear hrow hasc
  rcases hs with ⟨h0, ⟨h1, h2, h3⟩ | ⟨h1, h2, h3⟩⟩
  · rw [grt_of h3]
    rw [h1] at HS
    have d0 := hcs i n h2
    have m0 : (0 : Int) ≤ (i : Int) := by omega
    have m1 : (i : Int) < (r.length : Int) := by have := (List.getElem?_eq_some_iff.1 h2).1; omega
    have HB : Hid (∀ w', Ex w w' → w'.cell? ⟨b, o + i, none⟩ = some (.int .i64 n) ∧ b < w'.heap.size) := fun w' hx => ⟨(hx.below.cell hb).trans d0, Nat.lt_of_lt_of_le hb hx.below.size⟩
    clear h1 h2 h3 hcs d0
    go_enter Try.func88, Try.ntmps88
    go_wp2_with fail
    refine (HS.out w (Ex.refl w)).mono ?_
    rintro e9 w' ⟨rfl, z, rfl⟩
    obtain ⟨d0, hb⟩ := HB.out _ ((Ex.refl w).ext z)
    go_wp2_with fail
    go_ret
    exact Ret.mk rfl ((Ex.refl w).ext z)
  · rw [h1] at HS
    generalize grt r n = g at *
    have d0 := hcs _ g h3
    have m0 : (0 : Int) ≤ ((i - 1 : Nat) : Int) := by omega
    have m1 : ((i - 1 : Nat) : Int) < (r.length : Int) := by have := (List.getElem?_eq_some_iff.1 h3).1; omega
    have w1 : IntKind.i64.wrap ((i : Int) - 1) = ((i - 1 : Nat) : Int) := by rw [IntWalk.i64_in _ (by omega)]; omega
    have HB : Hid (∀ w', Ex w w' → w'.cell? ⟨b, o + (i - 1), none⟩ = some (.int .i64 g) ∧ b < w'.heap.size) := fun w' hx => ⟨(hx.below.cell hb).trans d0, Nat.lt_of_lt_of_le hb hx.below.size⟩
    clear h1 h3 hcs d0
    go_enter Try.func88, Try.ntmps88
    go_wp2_with fail
    refine (HS.out w (Ex.refl w)).mono ?_
    rintro e9 w' ⟨rfl, z, rfl⟩
    obtain ⟨d0, hb⟩ := HB.out _ ((Ex.refl w).ext z)
    go_wp2_with fail
    go_ret
    exact Ret.mk rfl ((Ex.refl w).ext z)
end
section
open Go.RowKit Go.Shelf
theorem OwnO.put {w : World} {base : Nat} {e : TypeId} {size n cap g o : Nat} {xs : List Value} (h : OwnO w base e size (.slice (some ⟨g, o, none⟩) n cap) n xs) (j : Nat) (u : Value) : OwnO (w.setCell ⟨g, o + j, none⟩ u) base e size (.slice (some ⟨g, o, none⟩) n cap) n (xs.set j u) := by
  refine ⟨by rw [List.length_set]; exact h.1, ?_⟩
  rcases h.2 with ⟨h0, _⟩ | ⟨g', o', cap', cur, he, hb, hgg, h1, h2, h3, h4⟩
  · cases h0
  · cases he
    have hB : Blk w g e cur.toList := by unfold Blk; simpa using hgg
    have hS := hB.set_ (o + j) u
    unfold Blk at hS
    refine .inr ⟨g, o, cap, (cur.toList.set (o + j) u).toArray, rfl, hb, hS, h1, h2, by simpa using h3, ?_⟩
    rw [List.toList_toArray, List.drop_set, if_neg (by omega), List.take_set, h4]
    congr 1
    omega
theorem OwnO.frozen {w : World} {base : Nat} {e : TypeId} {size n cap g o : Nat} {xs : List Value} (h : OwnO w base e size (.slice (some ⟨g, o, none⟩) n cap) n xs) (j : Nat) : w.frozen? ⟨g, j, none⟩ = false := by
  rcases h.2 with ⟨h0, _⟩ | ⟨g', o', cap', cur, he, hb, hgg, h1, h2, h3, h4⟩
  · cases h0
  · cases he
    have hB : Blk w g e cur.toList := by unfold Blk; simpa using hgg
    exact hB.frozen j
theorem intsV_set (c : List Int) (q : Nat) (v : Int) : (intsV c).set q (.int .i64 v) = intsV (c.set q v) := by
  unfold intsV
  rw [List.map_set]
theorem intsV_snoc (c : List Int) (v : Int) : intsV (c ++ [v]) = intsV c ++ [.int .i64 v] := by simp [intsV]
/-- the last states of the rows -/
def lasts (P : List (List Int)) : List Int := P.map fun r => r.getD (r.length - 1) 0
theorem lasts_len (P : List (List Int)) : (lasts P).length = P.length := by simp [lasts]
theorem lasts_get {P : List (List Int)} {p : Nat} {r : List Int} (h : P[p]? = some r) : (lasts P)[p]? = some (r.getD (r.length - 1) 0) := by
  unfold lasts
  rw [List.getElem?_map, h]
  rfl
theorem last_at {r : List Int} (h : Asc r) : r[r.length - 1]? = some (r.getD (r.length - 1) 0) := by
  obtain ⟨a, ha⟩ := get_at (show r.length - 1 < r.length by have := asc_pos h; omega)
  rw [List.getD_eq_getElem?_getD, ha]
  rfl
theorem rcv_mem {t : List Pr} (hP : Paired t) {m : Msg} (h : m ∈ msgs t) : InT t m.1 ∧ InT t m.2 := by
  obtain ⟨x, -, hx⟩ := List.mem_flatMap.1 h
  unfold rcvE at hx
  split at hx
  · rename_i e he
    split at hx
    · rename_i hk
      rw [List.mem_singleton.1 hx]
      have hin : InT t (x.1, x.2 + 1) := ⟨by simp, evAt_lt he⟩
      exact ⟨(find_sent hP (y := (x.1, x.2 + 1)) hin he hk).1, hin⟩
    · exact absurd hx List.not_mem_nil
  · exact absurd hx List.not_mem_nil
theorem in_proc {t : List Pr} {x : Nat × Nat} (h : InT t x) : x.1 < t.length := Nat.lt_of_not_le fun hle => by
  have h1 := h.1
  have h2 := h.2
  unfold evN at h2
  rw [List.getElem?_eq_none hle] at h2
  have h3 : x.2 ≤ 0 := h2
  omega
/-- what line hands back -/
def LineR (t : List Pr) (P : List (List Int)) (w : World) (e : Ending) (w' : World) : Prop :=
  ∃ A k c, e = .returned (.slice A P.length k) ∧ IsTop (msgs t) P c ∧ OwnO w' w.heap.size 3 1 (.slice A P.length k) P.length (intsV c) ∧ Ex w w'
set_option maxRecDepth 100000 in
set_option maxHeartbeats 3200000 in
theorem pLine_c (t : List Pr) (A : Option Addr) (c : Nat) (P : List (List Int)) (B : Option Addr) (lc : Nat) (w : World) (hT : TcC w A t) (hs : TSm t) (hcap : t.length ≤ c) (hv : validB t = true) (hL : LlC w B P) (hls : LSm P) (hlen : P.length = t.length) (hasc : ∀ (p : Nat) (r : List Int), P[p]? = some r → Asc r) :
    Calls Try.prog 63 #[.agg #[.slice A t.length c], .slice B P.length lc] w (LineR t P w) := by
  have htl := hs.procs
  have hse := hs.events
  have hpl := hls.rows
  have hPd : Paired t := paired_of (fault_zero (of_decide_eq_true hv)).2.2.2.1
  have HIn : Hid (∀ m, m ∈ msgs t → InT t m.1 ∧ InT t m.2) := fun m h => rcv_mem hPd h
  have hml : (msgs t).length ≤ 100000 := Nat.le_trans (rcv_len t.length 0 (.inr ⟨Nat.le_refl _, rfl⟩)) hse
  have HEn : Hid (∀ q, evN t q ≤ 100000) := fun q => by
    unfold evN
    cases h : t[q]? with
    | none => simp
    | some x => exact (hs.each x (List.mem_of_getElem? h)).2.2.1
  have HM := Lib.hid (fun w' (h : Ex w w') => messages_c t A c w' (hT.ex h) hs hcap hv)
  have HL : Hid (∀ w', Ex w w' → LlC w' B P) := fun w' hx => hL.ex hx
  have HE : Hid (∀ (p : Nat) (r : List Int), P[p]? = some r → r.length ≤ 100000) := fun p r hr => hls.each r (List.mem_of_getElem? hr)
  have HA := Lib.hid hasc
  obtain ⟨i0, hi0, hz0, hz1, hz2⟩ := info_parts infoInt
  obtain ⟨W0, hW0⟩ : ∃ W0, W0 = w.alloc (.cells #[.slice A t.length c] 24) := ⟨_, rfl⟩
  have HX0 : Hid (Ex w W0) := by rw [hW0]; exact (Ex.refl w).alloc _
  have HB0 : Hid (∀ w', Ex W0 w' → Blk w' w.heap.size 24 [.slice A t.length c]) := fun w' hx => by
    have : Blk W0 w.heap.size 24 [.slice A t.length c] := by rw [hW0]; exact Blk.new w _ _
    exact this.ex hx
  have HW0 := Lib.hid hW0
  have HLen := Lib.hid hlen
  clear hW0 hT hs hcap hv hL hls hasc hPd hlen
  unfold LineR
  unfold MsgsR at HM
  generalize msgs t = M at *
  go_enter Try.func63, Try.ntmps63
  go_wp2_with fail
  rw [← HW0.out]
  go_step3
  go_wp2_with fail
  go_loopw [5, 14] (fun v k wr => ∃ (p : Nat) (A2 : Option Addr) (c2 : Nat), v = .slice A2 p c2 ∧ k = .int .i64 p ∧ p ≤ P.length ∧ Hid (OwnO wr W0.heap.size 3 1 (.slice A2 p c2) p (intsV ((lasts P).take p)) ∧ Ex W0 wr)) (fun _ k _ => P.length - (intOf k).toNat)
  case atStart => exact ⟨0, none, 0, rfl, rfl, Nat.zero_le _, Lib.hid ⟨OwnO.nil _ _ _ _, Ex.refl _⟩⟩
  case round =>
    obtain ⟨p, A2, c2, rfl, rfl, hp, HH⟩ := hrel
    by_cases hplt : p < P.length
    · have m0 : (0 : Int) ≤ (p : Int) := by omega
      have m1 : (p : Int) < (P.length : Int) := by omega
      obtain ⟨r, hr⟩ := get_at hplt
      have hrl := HE.out p r hr
      have has := HA.out p r hr
      have hrp := asc_pos has
      obtain ⟨b, o, hB, hbl, A3, c3, g0, hc3, hrow⟩ := HL.out _ (HX0.out.trans HH.out.2) p r hr
      subst hB
      obtain ⟨b2, o2, hA3, hbl2, hcs⟩ := row_at hrow (fun h => by rw [h] at hrp; exact absurd hrp (Nat.lt_irrefl _))
      subst hA3
      have d0 := hcs _ _ (last_at has)
      have HT : Hid ((lasts P).take (p + 1) = (lasts P).take p ++ [r.getD (r.length - 1) 0]) := take_snoc (lasts_get hr)
      generalize r.getD (r.length - 1) 0 = z at *
      have w1 : IntKind.i64.wrap ((r.length : Int) - 1) = ((r.length - 1 : Nat) : Int) := by rw [IntWalk.i64_in _ (by omega)]; omega
      have w2 : (0 : Int) ≤ ((r.length - 1 : Nat) : Int) := by omega
      have w3 : ((r.length - 1 : Nat) : Int) < (r.length : Int) := by omega
      have HO := Lib.hid (HH.out.1.ex ((Ex.refl _).alloc (.cells #[.int .i64 z] 3)))
      have hbase : W0.heap.size ≤ wr.heap.size := HH.out.2.below.size
      clear hr has hcs
      go_wp2_with (at_builtin; refine wpList_append_one _ rfl _ _ 39 rfl W0.heap.size 3 i0 _ 1 8 Try.underlying39 hi0 hz0 hz1 hz2 rfl (.slice A2 p c2) p (intsV ((lasts P).take p)) rfl HO.out wr.heap.size [.int .i64 z] rfl rfl ?c1 ?c2 ?c3 ?c4 ?c5 ?_)
      case c1 => exact news_new rfl (by simp)
      case c2 => exact one_ints (by simp)
      case c3 => omega
      case c4 => omega
      case c5 => simp; omega
      intro A4 c4 w4 ho hg hat hEx
      have HX4 := Lib.hid (hEx W0 (HH.out.2.alloc _) (Nat.le_refl _))
      have HO4 : Hid (OwnO w4 W0.heap.size 3 1 (.slice A4 (p + 1) c4) (p + 1) (intsV ((lasts P).take (p + 1)))) := by
        rw [HT.out, intsV_snoc]; exact ho
      clear hg hat hEx ho g0 d0 hbl hbl2
      go_wp2_with fail
      refine ⟨⟨p + 1, A4, c4, rfl, by go_num, by omega, Lib.hid ⟨HO4.out, HX4.out⟩⟩, by simp [intOf]; omega⟩
    · obtain rfl : p = P.length := by omega
      have s1 : decide ((P.length : Int) < (P.length : Int)) = false := decide_eq_false (by omega)
      have x0 := (HB0.out _ HH.out.2).cell 0
      have l0 := (HB0.out _ HH.out.2).lt
      have HOc : Hid (OwnO wr W0.heap.size 3 1 (.slice A2 P.length c2) P.length (intsV (lasts P))) := by
        have := HH.out.1
        rw [List.take_of_length_le (by rw [lasts_len]; exact Nat.le_refl _)] at this
        exact this
      have HXr := Lib.hid HH.out.2
      have hbase : W0.heap.size ≤ wr.heap.size := HXr.out.below.size
      go_wp2_with fail
      refine (HM.out _ (HX0.out.trans HXr.out)).mono ?_
      rintro e9 w5 ⟨A5, c5, rfl, ho5, hx5⟩
      have HOm : Hid (OwnO w5 W0.heap.size 109 4 (.slice A5 M.length c5) M.length (msgCs M)) := ho5.mono hbase
      have HO5 := Lib.hid (HOc.out.ex hx5)
      have HX5 := Lib.hid (HXr.out.trans hx5)
      have HDn : Hid (Down M P (lasts P)) := down_start HA.out (lasts_len P) fun p r a hr ha => by
        rw [lasts_get hr] at ha
        cases ha
        exact last_at (HA.out p r hr)
      clear x0 l0 ho5 hx5 hbase HXr HOc HH
      go_wp2_with fail
      go_step3
      go_wp2_with fail
      go_loopg [30] (sumC (lasts P)) (fun gg _ wr => ∃ cs : List Int, sumC cs ≤ gg ∧ sumC cs ≤ sumC (lasts P) ∧ Hid (Down M P cs ∧ OwnO wr W0.heap.size 3 1 (.slice A2 P.length c2) P.length (intsV cs) ∧ OwnO wr W0.heap.size 109 4 (.slice A5 M.length c5) M.length (msgCs M) ∧ Ex W0 wr))
      case atStart => exact ⟨lasts P, Nat.le_refl _, Nat.le_refl _, Lib.hid ⟨HDn.out, HO5.out, HOm.out, HX5.out⟩⟩
      case round =>
        clear HDn HO5 HOm HX5
        obtain ⟨cs, hgg, hgb, HH⟩ := hrel
        go_wp2_with fail
        go_loopw [32] (fun k w2 => ∃ i : Nat, k = .int .i64 i ∧ i ≤ M.length ∧ Hid ((∀ m, m ∈ M.take i → ∀ a b, cs[m.2.1]? = some a → cs[m.1.1]? = some b → (m.2.2 : Int) ≤ a → (m.1.2 : Int) ≤ b) ∧ Ex wr w2)) (fun k _ => M.length - (intOf k).toNat)
        case atStart => exact ⟨0, rfl, Nat.zero_le _, Lib.hid ⟨fun m hm => absurd hm (by simp), Ex.refl _⟩⟩
        case round =>
          obtain ⟨i, rfl, hi, HJ⟩ := hrel
          by_cases hil : i < M.length
          · have m0 : (0 : Int) ≤ (i : Int) := by omega
            have m1 : (i : Int) < (M.length : Int) := by omega
            obtain ⟨m, hm⟩ := get_at hil
            have HMem := Lib.hid (List.mem_iff_getElem?.2 ⟨i, hm⟩)
            have hin := HIn.out m HMem.out
            have hq := in_proc hin.2
            have hs1 := in_proc hin.1
            have hqi := hin.2.1
            have hqu := hin.2.2
            rw [← HLen.out] at hq hs1
            obtain ⟨a, ha⟩ := get_at (show m.2.1 < cs.length by rw [HH.out.1.len]; exact hq)
            obtain ⟨b, hb⟩ := get_at (show m.1.1 < cs.length by rw [HH.out.1.len]; exact hs1)
            have hOm := HH.out.2.2.1.ex HJ.out.2
            have hOc := HH.out.2.1.ex HJ.out.2
            obtain ⟨g3, o3, k3, e3, -, -, -, hl3, hc3⟩ := hOm.open_ (by omega)
            obtain ⟨g2, o2, k2, e2, -, -, hb2, hl2, hc2⟩ := hOc.open_ (by omega)
            cases e3
            cases e2
            obtain ⟨d0, d1, d2, d3⟩ := msg_cells hm
            have v0 := hc3 _ _ d0
            have v1 := hc3 _ _ d1
            have v2 := hc3 _ _ d2
            have v3 := hc3 _ _ d3
            rw [← Nat.add_assoc] at v1 v2 v3
            have z0 := hc2 _ _ (intsV_get ha)
            have z1 := hc2 _ _ (intsV_get hb)
            obtain ⟨⟨s1, s2⟩, ⟨q1, q2⟩⟩ := m
            dsimp only at *
            have HTk := Lib.hid (take_snoc hm)
            have HaB : Hid (cs[q1]? = some a) := ha
            have HbB : Hid (cs[s1]? = some b) := hb
            have n0 : (0 : Int) ≤ (q1 : Int) := by omega
            have n1 : (q1 : Int) < (P.length : Int) := by omega
            have n2 : (0 : Int) ≤ (s1 : Int) := by omega
            have n3 : (s1 : Int) < (P.length : Int) := by omega
            clear hm hin ha hb hc3 hc2 d0 d1 d2 d3 hOm hOc
            have hq2 : q2 ≤ 100000 := Nat.le_trans hqu (HEn.out q1)
            have HNx : Hid (((q2 : Int) ≤ a → (s2 : Int) ≤ b) → ∀ m, m ∈ M.take (i + 1) → ∀ a b, cs[m.2.1]? = some a → cs[m.1.1]? = some b → (m.2.2 : Int) ≤ a → (m.1.2 : Int) ≤ b) := fun h m hm a' b' g1 g2 g3 => by
              rw [HTk.out] at hm
              rcases List.mem_append.1 hm with hm | hm
              · exact HJ.out.1 m hm a' b' g1 g2 g3
              · rw [List.mem_singleton.1 hm] at g1 g2 g3 ⊢
                dsimp only at g1 g2 g3 ⊢
                rw [HaB.out] at g1
                rw [HbB.out] at g2
                cases g1; cases g2
                exact h g3
            clear hqu HTk
            by_cases h1 : (q2 : Int) ≤ a
            · have t1 : decide ((q2 : Int) ≤ a) = true := decide_eq_true h1
              by_cases h2 : b < (s2 : Int)
              · have t2 : decide (b < (s2 : Int)) = true := decide_eq_true h2
                obtain ⟨r, hr⟩ := get_at hq
                have hrl := HE.out q1 r hr
                have has := HA.out q1 r hr
                have HSt : Hid (Down M P (cs.set q1 (grt r ((q2 : Int) - 1))) ∧ sumC (cs.set q1 (grt r ((q2 : Int) - 1))) < sumC cs) := by
                  have hG := grt_isG has (show (0 : Int) ≤ (q2 : Int) - 1 by omega)
                  exact ⟨HH.out.1.step HA.out (m := ((s1, s2), (q1, q2))) HMem.out hqi hr HbB.out h2, sumC_set HaB.out (asc_nonneg has hG.1) (by have := hG.2.1; omega)⟩
                have hlw : Ex w wr := (HX0.out.trans HH.out.2.2.2).trans HJ.out.2
                obtain ⟨bb, oo, hBB, hbb, A7, c7, r0, hc7, hrow⟩ := HL.out _ hlw q1 r hr
                have HG : Hid (∀ w', Ex wr w' → Calls Try.prog 88 #[.slice A7 r.length c7, .int .i64 ((q2 : Int) - 1)] w' (Ret w' (.int .i64 (grt r ((q2 : Int) - 1))))) := fun w' h => pGreatest_c r A7 c7 ((q2 : Int) - 1) w' (hrow.ex h) has hrl (by omega)
                subst hBB
                clear hr has hrow h1 h2
                go_wp2_with fail
                go_quiet (fail)
                go_wp2_with fail
                have hB10 : Blk ((wr.alloc (.cells #[.int .i64 s1, .int .i64 s2, .int .i64 q1, .int .i64 q2] 109)).drewN nq) wr.heap.size 109 [.int .i64 s1, .int .i64 s2, .int .i64 q1, .int .i64 q2] := (Blk.new wr _ _).ex ((Ex.refl _).drewN _)
                have hX3 : Ex wr ((wr.alloc (.cells #[.int .i64 s1, .int .i64 s2, .int .i64 q1, .int .i64 q2] 109)).drewN nq) := ((Ex.refl _).alloc _).drewN _
                generalize (wr.alloc (.cells #[.int .i64 s1, .int .i64 s2, .int .i64 q1, .int .i64 q2] 109)).drewN nq = W3 at *
                have r1 : W3.cell? ⟨bb, oo + q1, none⟩ = some (.slice A7 r.length c7) := (hX3.below.cell hbb).trans r0
                have r2 : bb < W3.heap.size := Nat.lt_of_lt_of_le hbb hX3.below.size
                have w1 : IntKind.i64.wrap ((q2 : Int) - 1) = (q2 : Int) - 1 := IntWalk.i64_in _ (by omega)
                have HX3 := Lib.hid hX3
                have hF : ∀ w', Ex W3 w' → w'.frozen? ⟨g2, o2 + q1, none⟩ = false := fun w' h => (HH.out.2.1.ex ((HJ.out.2.trans hX3).trans h)).frozen _
                have HC : Hid (∀ w', Ex W3 w' → w'.cell? ⟨g2, o2 + q1, none⟩ = some (.int .i64 a)) := fun w' h => ((hX3.trans h).below.cell hl2).trans z0
                have hl4 : g2 < W3.heap.size := Nat.lt_of_lt_of_le hl2 hX3.below.size
                have HF := Lib.hid hF
                have hbw : W0.heap.size ≤ wr.heap.size := (HH.out.2.2.2.trans HJ.out.2).below.size
                generalize wr.heap.size = b10 at *
                have y3 := hB10.cell 3
                have yl := hB10.lt
                clear hF hB10 v0 v1 v2 v3 r0 hbb z0 z1 hX3 hl3
                generalize grt r ((q2 : Int) - 1) = gv at *
                go_region_with (refine (HG.out _ (by first | exact HX3.out | exact HX3.out.drew | exact HX3.out.drewN _)).mono ?_; rintro e9 w9 ⟨rfl, z9, rfl⟩; have f9 := HF.out _ (((Ex.refl W3).drew).ext z9); have x9 := HC.out _ (((Ex.refl W3).drew).ext z9); have l9 : g2 < (ext W3.drew z9).heap.size := Nat.lt_of_lt_of_le hl4 (((Ex.refl W3).drew).ext z9).below.size)
                all_goals
                  have hxz : Ex wr (ext W3.drew z9) := (HX3.out.drew).ext z9
                  have HN : Hid (OwnO ((ext W3.drew z9).setCell ⟨g2, o2 + q1, none⟩ (.int .i64 gv)) W0.heap.size 3 1 (.slice (some ⟨g2, o2, none⟩) P.length c2) P.length (intsV (cs.set q1 gv)) ∧ OwnO ((ext W3.drew z9).setCell ⟨g2, o2 + q1, none⟩ (.int .i64 gv)) W0.heap.size 109 4 (.slice (some ⟨g3, o3, none⟩) M.length c5) M.length (msgCs M) ∧ Ex W0 ((ext W3.drew z9).setCell ⟨g2, o2 + q1, none⟩ (.int .i64 gv))) := by
                    have k1 := HH.out.2.1.ex (HJ.out.2.trans hxz)
                    have k2 := HH.out.2.2.1.ex (HJ.out.2.trans hxz)
                    have k3 := (HH.out.2.2.2.trans HJ.out.2).trans hxz
                    refine ⟨by rw [← intsV_set]; exact k1.put q1 _, k2.set_ (p := ⟨g2, o2 + q1, none⟩) ?_ _, k3.setCell (p := ⟨g2, o2 + q1, none⟩) hb2 _⟩
                    rcases k2.ne2 k1 (by decide) with h | h
                    · rw [h]; simp
                    · simpa [Value.ownBlock] using h
                  have HXz := Lib.hid hxz
                  clear hxz
                  go_wp2_with fail
                  go_roundg (sumC (cs.set q1 gv))
                  case measure => have := HSt.out.2; omega
                  case rel => exact ⟨cs.set q1 gv, Nat.le_refl _, by have := HSt.out.2; omega, Lib.hid ⟨HSt.out.1, HN.out.1, HN.out.2.1, HN.out.2.2⟩⟩
              · have t2 : decide (b < (s2 : Int)) = false := decide_eq_false h2
                have HN := Lib.hid (HNx.out fun _ => Int.not_lt.1 h2)
                clear h1 h2
                go_wp2_with fail
                go_quiet (fail)
                go_wp2_with fail
                refine ⟨⟨i + 1, by go_num, by omega, Lib.hid ⟨HN.out, (HJ.out.2.alloc _).drewN _⟩⟩, by simp [intOf]; omega⟩
            · have t1 : decide ((q2 : Int) ≤ a) = false := decide_eq_false h1
              have HN := Lib.hid (HNx.out fun h => absurd h h1)
              clear h1
              go_wp2_with fail
              go_quiet (fail)
              go_wp2_with fail
              refine ⟨⟨i + 1, by go_num, by omega, Lib.hid ⟨HN.out, (HJ.out.2.alloc _).drewN _⟩⟩, by simp [intOf]; omega⟩
          · obtain rfl : i = M.length := by omega
            have s1 : decide ((M.length : Int) < (M.length : Int)) = false := decide_eq_false (by omega)
            have HTop : Hid (IsTop M P cs) := HH.out.1.end_ fun m hm => HJ.out.1 m (by rw [List.take_length]; exact hm)
            go_wp2_with fail
            rw [Exit.noGoto_ret]
            go_ret
            exact ⟨_, _, cs, rfl, HTop.out, (HH.out.2.1.ex HJ.out.2).mono HX0.out.below.size, (HX0.out.trans HH.out.2.2.2).trans HJ.out.2⟩
end
section
open Go.RowKit Go.Shelf
set_option maxRecDepth 20000 in
set_option maxHeartbeats 1600000 in
theorem after1_c (n : Int) (nb : Nat) (B : Option Addr) (L lc : Nat) (w : World) (hc : w.cell? ⟨nb, 0, none⟩ = some (.slice B L lc)) :
    Calls Try.prog 60 #[.int .i64 n, .pointer (some ⟨nb, 0, none⟩)] w (Ret w (.bool (decide (n < 0) || decide ((L : Int) ≤ n)))) := by
  by_cases h : n < 0
  · have s1 : decide (n < 0) = true := decide_eq_true h
    go_enter Try.func60, Try.ntmps60
    go_wp2_with fail
    go_ret
    exact Ret.mk (by rw [s1]; rfl) (Ex.refl w)
  · have s1 : decide (n < 0) = false := decide_eq_false h
    go_enter Try.func60, Try.ntmps60
    go_wp2_with fail
    go_ret
    exact Ret.mk rfl (Ex.refl w)
theorem enters_a1 : ∀ args w, (callFunc 60 args).run Try.prog w = .ok (.enter 60 args) w := enters_of Try.func60 (by kernel_rfl) rfl
/-- the permitted states after failures -/
def permF (l : List (List Int)) (F : List Int) : List (List Int) := l.mapIdx fun p r => if (p : Int) ∈ F then stored r else r
theorem permF_len (l : List (List Int)) (F : List Int) : (permF l F).length = l.length := by simp [permF]
theorem permF_get {l : List (List Int)} {F : List Int} {p : Nat} {r : List Int} (h : l[p]? = some r) : (permF l F)[p]? = some (if (p : Int) ∈ F then stored r else r) := by
  unfold permF
  rw [List.getElem?_mapIdx, h]
  rfl
theorem permF_asc {l : List (List Int)} {F : List Int} (h : ∀ (p : Nat) (r : List Int), l[p]? = some r → Asc r) : ∀ (p : Nat) (r : List Int), (permF l F)[p]? = some r → Asc r := fun p r hp => by
  obtain ⟨r0, hr⟩ := get_at (show p < l.length by rw [← permF_len l F]; exact (List.getElem?_eq_some_iff.1 hp).1)
  rw [permF_get hr] at hp
  cases hp
  split
  · exact asc_stored (h p r0 hr)
  · exact h p r0 hr
/-- the slices of permitted states -/
def vsF (Af : Nat → Option Addr) (cf : Nat → Nat) (l : List (List Int)) (F : List Int) : List Value := l.mapIdx fun p r => .slice (Af p) (if (p : Int) ∈ F then stored r else r).length (cf p)
theorem vsF_get {Af : Nat → Option Addr} {cf : Nat → Nat} {l : List (List Int)} {F : List Int} {p : Nat} {r : List Int} (h : l[p]? = some r) : (vsF Af cf l F)[p]? = some (.slice (Af p) (if (p : Int) ∈ F then stored r else r).length (cf p)) := by
  unfold vsF
  rw [List.getElem?_mapIdx, h]
  rfl
theorem vsF_set {Af : Nat → Option Addr} {cf : Nat → Nat} {l : List (List Int)} {F : List Int} {q : Nat} {r : List Int} (h : l[q]? = some r) : (vsF Af cf l F).set q (.slice (Af q) (stored r).length (cf q)) = vsF Af cf l (F ++ [(q : Int)]) := by
  apply List.ext_getElem?
  intro p
  rw [List.getElem?_set]
  by_cases hp : p < l.length
  · obtain ⟨x, hx⟩ := get_at hp
    rw [vsF_get hx, vsF_get hx]
    by_cases hq : q = p
    · subst hq
      rw [h] at hx
      cases hx
      rw [if_pos rfl, if_pos (by simpa [vsF] using hp), if_pos (List.mem_append.2 (.inr (List.mem_singleton.2 rfl)))]
    · rw [if_neg hq]
      have : ((p : Int) ∈ F ++ [(q : Int)]) ↔ ((p : Int) ∈ F) := by
        simp only [List.mem_append, List.mem_singleton]
        constructor
        · rintro (h | h)
          · exact h
          · omega
        · exact .inl
      simp only [this]
  · have h1 : ∀ F, (vsF Af cf l F)[p]? = none := fun F => List.getElem?_eq_none (by simp [vsF]; omega)
    rw [h1, h1]
    split
    · rw [if_neg (by simp [vsF]; omega)]
    · rfl
theorem row_stored {w : World} {A : Option Addr} {r : List Int} (h : Row w A (intsV r)) : Row w A (intsV (stored r)) := by
  rcases h with h | ⟨b, o, e, hb, h⟩
  · rw [List.map_eq_nil_iff.1 h]; exact .inl rfl
  · refine .inr ⟨b, o, e, hb, fun j u hj => h j u ?_⟩
    unfold intsV stored at *
    rw [List.getElem?_map, List.getElem?_take] at hj
    rw [List.getElem?_map]
    split at hj
    · exact hj
    · simp at hj
/-- where the rows lie -/
theorem rows_at {w : World} {B : Option Addr} {l : List (List Int)} (hL : LlC w B l) (hne : l ≠ []) : ∃ (b o : Nat) (Af : Nat → Option Addr) (cf : Nat → Nat), B = some ⟨b, o, none⟩ ∧ b < w.heap.size ∧ ∀ p r, l[p]? = some r → w.cell? ⟨b, o + p, none⟩ = some (.slice (Af p) r.length (cf p)) ∧ r.length ≤ cf p ∧ Row w (Af p) (intsV r) := by
  obtain ⟨r0, h0⟩ := get_at (List.length_pos_iff.2 hne)
  obtain ⟨b, o, rfl, hb, -⟩ := hL 0 r0 h0
  have : ∀ p, ∃ (x : Option Addr × Nat), ∀ r, l[p]? = some r → w.cell? ⟨b, o + p, none⟩ = some (.slice x.1 r.length x.2) ∧ r.length ≤ x.2 ∧ Row w x.1 (intsV r) := fun p => by
    cases hp : l[p]? with
    | none => exact ⟨(none, 0), fun r h => by cases h⟩
    | some r =>
      obtain ⟨b', o', e, -, A, c, h1, h2, h3⟩ := hL p r hp
      cases e
      exact ⟨(A, c), fun r' h => by cases h; exact ⟨h1, h2, h3⟩⟩
  obtain ⟨f, hf⟩ := Classical.axiomOfChoice this
  exact ⟨b, o, fun p => (f p).1, fun p => (f p).2, rfl, hb, fun p r hp => hf p r hp⟩
theorem vsF_rows {w : World} {base n cap : Nat} {D : Option Addr} {Af : Nat → Option Addr} {cf : Nat → Nat} {l : List (List Int)} {F : List Int} (hn : n = l.length) (hO : OwnO w base 39 1 (.slice D n cap) n (vsF Af cf l F)) (hr : ∀ (p : Nat) (r : List Int), l[p]? = some r → r.length ≤ cf p ∧ Row w (Af p) (intsV r)) : LlC w D (permF l F) := fun p r' hp => by
  have hpl : p < l.length := by rw [← permF_len l F]; exact (List.getElem?_eq_some_iff.1 hp).1
  obtain ⟨r, hl⟩ := get_at hpl
  rw [permF_get hl] at hp
  cases hp
  obtain ⟨g, o, c, e, -, -, -, hlt, hc⟩ := hO.open_ (by omega)
  cases e
  obtain ⟨h1, h2⟩ := hr p r hl
  refine ⟨g, o, rfl, hlt, Af p, cf p, hc p _ (vsF_get hl), ?_, ?_⟩
  · split
    · have : (stored r).length ≤ r.length := by unfold stored; rw [List.length_take]; omega
      omega
    · exact h1
  · split
    · exact row_stored h2
    · exact h2
end
section
open Go.RowKit Go.Shelf
theorem infoRow : (Try.prog.info? 39).map (fun i => (i.zero, i.size, i.bytes)) = some (some (.slice none 0 0), 1, 24) := by kernel_rfl
theorem size_row (w : World) : (Go.sizeOf 39).run Try.prog w = .ok 1 w := by
  simp [Go.sizeOf, go_sem]
  rfl
theorem results_tt {fn : Func} {p q : Nat} {u v : Value} {w : World} {tmps : Array Value} (hr : fn.results = #[.tmp p, .tmp q]) (hp : tmps.getD p undef = u) (hq : tmps.getD q undef = v) :
    (results fn tmps).run Try.prog w = .ok (.tuple #[u, v]) w := by
  rw [Array.getD_eq_getD_getElem?] at hp hq
  simp [results, hr, hp, hq, go_sem]
theorem cloneL_c (b o n c : Nat) (news : List Value) (w : World) (hl : news.length = n) (hn : n ≤ 100000) (hc : ∀ j u, news[j]? = some u → w.cell? ⟨b, o + j, none⟩ = some u) (h1 : ∀ u ∈ news, u.oneCell' = true) :
    Calls Try.prog 61 #[.slice (some ⟨b, o, none⟩) n c] w (fun e w' => ∃ D cap, e = .returned (.slice D n cap) ∧ OwnO w' w.heap.size 39 1 (.slice D n cap) n news ∧ Ex w w') := by
  obtain ⟨i, hi, hz, hs, hb⟩ := info_parts infoRow
  refine (Try.slices_Clone_f61 i _ 1 24 hi hz hs hb rfl (by decide) size_row b o n c news w (by omega) (by unfold maxLen; omega) (by omega) hc h1).mono ?_
  rintro e w' ⟨v', rfl, h2, -, h3⟩
  have hO := OwnO.of h2
  obtain ⟨D, cap, rfl, -, -⟩ := hO.len
  exact ⟨D, cap, rfl, hO, Ex.of h3⟩
theorem vsF_len (Af : Nat → Option Addr) (cf : Nat → Nat) (l : List (List Int)) (F : List Int) : (vsF Af cf l F).length = l.length := by simp [vsF]
theorem vsF_one (Af : Nat → Option Addr) (cf : Nat → Nat) (l : List (List Int)) (F : List Int) : ∀ u ∈ vsF Af cf l F, u.oneCell' = true := fun u hu => by
  obtain ⟨p, hp⟩ := List.mem_iff_getElem?.1 hu
  obtain ⟨r, hr⟩ := get_at (show p < l.length by rw [← vsF_len Af cf l F]; exact (List.getElem?_eq_some_iff.1 hp).1)
  rw [vsF_get hr] at hp
  cases hp
  rfl
/-- a failed process that does not exist, or too many of them -/
def badF (l : List (List Int)) (F : List Int) : Bool := decide (1000 < F.length) || F.any (fun n => decide (n < 0) || decide ((l.length : Int) ≤ n))
/-- what After hands back -/
def AfterR (t : List Pr) (l : List (List Int)) (F : List Int) (w : World) (e : Ending) (w' : World) : Prop :=
  (cpB t l = false ∧ e = .returned (.tuple #[.slice none 0 0, .int .i64 1]) ∧ Ex w w') ∨
  (cpB t l = true ∧ badF l F = true ∧ e = .returned (.tuple #[.slice none 0 0, .int .i64 2]) ∧ Ex w w') ∨
  (cpB t l = true ∧ badF l F = false ∧ ∃ A k c, e = .returned (.tuple #[.slice A l.length k, .int .i64 0]) ∧ IsTop (msgs t) (permF l F) c ∧ OwnO w' w.heap.size 3 1 (.slice A l.length k) l.length (intsV c) ∧ Ex w w')
theorem anyF_c (B : Option Addr) (L lc nb : Nat) (F : List Int) (FA : Option Addr) (fc : Nat) (w : World) (hF : Row w FA (intsV F)) (hn : F.length ≤ 1000000000) (hb : nb < w.heap.size) (hc : w.cell? ⟨nb, 0, none⟩ = some (.slice B L lc)) :
    Calls Try.prog 25 #[.slice FA F.length fc, .func (.func 60) #[] #[.pointer (some ⟨nb, 0, none⟩)]] w (Ret w (.bool (F.any (fun n => decide (n < 0) || decide ((L : Int) ≤ n))))) := by
  have h := anyInt_c 60 #[.pointer (some ⟨nb, 0, none⟩)] enters_a1 FA F.length fc (fun j => .int .i64 (F[j]?.getD 0)) (fun j => (fun n => decide (n < 0) || decide ((L : Int) ≤ n)) (F[j]?.getD 0)) w hn
    (fun w' hx j hj => by
      obtain ⟨b, o, e, hb, hcs⟩ := row_at (hF.ex hx) (fun h => by rw [h] at hj; exact absurd hj (Nat.not_lt_zero _))
      refine ⟨b, o, e, hb, hcs j _ ?_⟩
      rw [List.getElem?_eq_getElem hj]
      rfl)
    (fun w' hx j hj => after1_c _ nb B L lc w' ((hx.below.cell hb).trans hc))
  rw [any_range (fun n : Int => decide (n < 0) || decide ((L : Int) ≤ n)) F F.length (Nat.le_refl _) 0, List.take_length] at h
  exact h
set_option maxRecDepth 20000 in
set_option maxHeartbeats 3200000 in
theorem pAfter_c (t : List Pr) (A : Option Addr) (c : Nat) (l : List (List Int)) (B : Option Addr) (lc : Nat) (F : List Int) (FA : Option Addr) (fc : Nat) (w : World) (hT : TcC w A t) (hs : TSm t) (hcap : t.length ≤ c) (hL : LlC w B l) (hls : LSm l) (hF : Row w FA (intsV F)) (hfl : F.length ≤ 100000) :
    Calls Try.prog 21 #[.agg #[.slice A t.length c], .slice B l.length lc, .slice FA F.length fc] w (AfterR t l F w) := by
  have HV := Lib.hid (fun w' (h : Ex w w') => pCp_c t A c l B lc w' (hT.ex h) hs hcap (hL.ex h) hls)
  obtain ⟨W0, hW0⟩ : ∃ W0, W0 = (w.alloc (.cells #[.slice A t.length c] 24)).alloc (.cells #[.slice B l.length lc] 25) := ⟨_, rfl⟩
  have HX0 : Hid (Ex w W0) := by rw [hW0]; exact ((Ex.refl w).alloc _).alloc _
  have HB0 : Hid (∀ w', Ex W0 w' → Blk w' w.heap.size 24 [.slice A t.length c]) := fun w' hx => by
    have : Blk W0 w.heap.size 24 [.slice A t.length c] := by rw [hW0]; exact (Blk.new w _ _).alloc _
    exact this.ex hx
  have HB1 : Hid (∀ w', Ex W0 w' → Blk w' (w.heap.size + 1) 25 [.slice B l.length lc]) := fun w' hx => by
    have : Blk W0 (w.heap.size + 1) 25 [.slice B l.length lc] := by
      rw [hW0, show w.heap.size + 1 = (w.alloc (.cells #[.slice A t.length c] 24)).heap.size by simp]
      exact Blk.new _ _ _
    exact this.ex hx
  have HW0 := Lib.hid hW0
  by_cases hV : cpB t l = true
  · rw [hV] at HV
    obtain ⟨hvt, hcp⟩ := cp_of hV
    have hll := hls.rows
    have HC := Lib.hid (fun w' (h : Ex W0 w') => anyF_c B l.length lc (w.heap.size + 1) F FA fc w' (hF.ex (HX0.out.trans h)) (by omega) (HB1.out w' h).lt ((HB1.out w' h).cell 0))
    by_cases hbad : badF l F = true
    · have HR : Hid (∀ w', Ex w w' → AfterR t l F w (.returned (.tuple #[.slice none 0 0, .int .i64 2])) w') := fun w' h => .inr (.inl ⟨hV, hbad, rfl, h⟩)
      unfold badF at hbad
      clear hW0 hT hs hcap hL hls hF hV hvt hcp
      generalize F.any (fun n => decide (n < 0) || decide ((l.length : Int) ≤ n)) = ab at *
      by_cases h1 : 1000 < F.length
      · have s1 : decide (1000 < (F.length : Int)) = true := decide_eq_true (by omega)
        clear hbad
        go_enter Try.func21, Try.ntmps21
        go_wp2_with fail
        rw [← HW0.out]
        refine (HV.out _ HX0.out).mono ?_
        rintro e9 w' ⟨rfl, z, rfl⟩
        go_wp2_with fail
        exact bodyPost_ret (results_tt rfl rfl rfl) rfl (HR.out _ (HX0.out.ext z))
      · have s1 : decide (1000 < (F.length : Int)) = false := decide_eq_false (by omega)
        have hab : ab = true := by rw [decide_eq_false h1] at hbad; exact hbad
        subst hab
        go_enter Try.func21, Try.ntmps21
        go_wp2_with fail
        rw [← HW0.out]
        refine (HV.out _ HX0.out).mono ?_
        rintro e9 w' ⟨rfl, z, rfl⟩
        have hx1 : Ex W0 (ext W0 z) := ⟨z, rfl⟩
        have HX1 := Lib.hid hx1
        clear hx1
        go_wp2_with fail
        refine (HC.out _ HX1.out).mono ?_
        rintro e9 w' ⟨rfl, z2, rfl⟩
        go_wp2_with fail
        exact bodyPost_ret (results_tt rfl rfl rfl) rfl (HR.out _ ((HX0.out.trans HX1.out).ext z2))
    · have hb2 : badF l F = false := by simpa using hbad
      have hbb := hb2
      unfold badF at hbb
      rw [Bool.or_eq_false_iff] at hbb
      obtain ⟨hb3, hb4⟩ := hbb
      have hF1 : F.length ≤ 1000 := Nat.le_of_not_lt (of_decide_eq_false hb3)
      have s1 : decide (1000 < (F.length : Int)) = false := decide_eq_false (by omega)
      rw [hb4] at HC
      have HIn : Hid (∀ (k : Nat) (n : Int), F[k]? = some n → ∃ q : Nat, n = (q : Int) ∧ q < l.length) := fun k n hk => by
        have := (List.any_eq_false.1 hb4) n (List.mem_iff_getElem?.2 ⟨k, hk⟩)
        simp only [Bool.or_eq_true, decide_eq_true_eq, not_or] at this
        exact ⟨n.toNat, by omega, by omega⟩
      have HR : Hid (∀ (w' : World) (A' : Option Addr) (k : Nat) (c' : List Int), IsTop (msgs t) (permF l F) c' → OwnO w' w.heap.size 3 1 (.slice A' l.length k) l.length (intsV c') → Ex w w' → AfterR t l F w (.returned (.tuple #[.slice A' l.length k, .int .i64 0])) w') := fun w' A' k c' h1 h2 h3 => .inr (.inr ⟨hV, hb2, A', k, c', rfl, h1, h2, h3⟩)
      have hne : l ≠ [] := fun h0 => by
        have h1 := (fault_zero (of_decide_eq_true hvt)).1
        have h2 := hcp.1
        rw [h0] at h2
        simp at h2
        omega
      obtain ⟨b, o, Af, cf, hB, hbl, hrows⟩ := rows_at hL hne
      have HRw := Lib.hid hrows
      have HAsc : Hid (∀ (p : Nat) (r : List Int), l[p]? = some r → Asc r) := fun p r h => (hcp.2 p r h).asc
      have HLn := Lib.hid hls
      have HLi : Hid (∀ w' D cap, Ex w w' → ∀ base, OwnO w' base 39 1 (.slice D l.length cap) l.length (vsF Af cf l F) → Calls Try.prog 63 #[.agg #[.slice A t.length c], .slice D l.length cap] w' (LineR t (permF l F) w')) := fun w' D cap hx base hO => by
        have h := pLine_c t A c (permF l F) D cap w' (hT.ex hx) hs hcap hvt (vsF_rows rfl hO fun p r hp => ⟨(hrows p r hp).2.1, (hrows p r hp).2.2.ex hx⟩) ⟨by rw [permF_len]; exact hll, fun r hr => by
          obtain ⟨p, hp⟩ := List.mem_iff_getElem?.1 hr
          obtain ⟨r0, h0⟩ := get_at (show p < l.length by rw [← permF_len l F]; exact (List.getElem?_eq_some_iff.1 hp).1)
          rw [permF_get h0] at hp
          have h1 := hls.each r0 (List.mem_of_getElem? h0)
          cases hp
          split
          · unfold stored; rw [List.length_take]; omega
          · exact h1⟩ (by rw [permF_len]; exact hcp.1) (permF_asc HAsc.out)
        rw [permF_len] at h
        exact h
      subst hB
      have HCl : Hid (∀ w', Ex w w' → Calls Try.prog 61 #[.slice (some ⟨b, o, none⟩) l.length lc] w' (fun e w'' => ∃ D cap, e = .returned (.slice D l.length cap) ∧ OwnO w'' w'.heap.size 39 1 (.slice D l.length cap) l.length (vsF Af cf l []) ∧ Ex w' w'')) := fun w' h => cloneL_c b o l.length lc (vsF Af cf l []) w' (vsF_len _ _ _ _) hll (fun j u hj => by
        obtain ⟨r0, h0⟩ := get_at (show j < l.length by rw [← vsF_len Af cf l []]; exact (List.getElem?_eq_some_iff.1 hj).1)
        rw [vsF_get h0, if_neg (by simp)] at hj
        cases hj
        exact (h.below.cell hbl).trans (hrows j r0 h0).1) (vsF_one _ _ _ _)
      have HFr : Hid (∀ w', Ex w w' → Row w' FA (intsV F)) := fun w' h => hF.ex h
      have HbL := Lib.hid hbl
      have HSt : Hid (∀ (p : Nat) (r : List Int), l[p]? = some r → ∀ w', Ex w w' → Calls Try.prog 62 #[.slice (Af p) r.length (cf p)] w' (Ret w' (.slice (Af p) (stored r).length (cf p)))) := fun p r hp w' _ => pStored_c r (Af p) (cf p) w' (fun h => by have := asc_pos (HAsc.out p r hp); rw [h] at this; exact absurd this (Nat.lt_irrefl _)) (hrows p r hp).2.1 (hls.each r (List.mem_of_getElem? hp))
      clear hW0 hT hs hcap hL hls hF hV hvt hcp hbad hb2 hb3 hb4 hne hrows hbl
      go_enter Try.func21, Try.ntmps21
      go_wp2_with fail
      rw [← HW0.out]
      refine (HV.out _ HX0.out).mono ?_
      rintro e9 w' ⟨rfl, z, rfl⟩
      have hx1 : Ex W0 (ext W0 z) := ⟨z, rfl⟩
      have HX1 := Lib.hid hx1
      clear hx1
      go_wp2_with fail
      refine (HC.out _ HX1.out).mono ?_
      rintro e9 w' ⟨rfl, z2, rfl⟩
      have HX2 := Lib.hid (HX1.out.ext z2)
      have x1 := (HB1.out _ HX2.out).cell 0
      have l1 := (HB1.out _ HX2.out).lt
      go_wp2_with fail
      refine (HCl.out _ (HX0.out.trans HX2.out)).mono ?_
      rintro e9 w5 ⟨D, cap, rfl, hO5, hx5⟩
      have hbs : W0.heap.size ≤ (ext (ext W0 z) z2).heap.size := HX2.out.below.size
      have HO5 := Lib.hid (hO5.mono hbs)
      have HX5 := Lib.hid (HX2.out.trans hx5)
      clear hO5 hx5 x1 l1 hbs HX2 HX1
      go_wp2_with fail
      go_loopw [27] (fun i wr => ∃ k : Nat, i = .int .i64 k ∧ k ≤ F.length ∧ Hid (OwnO wr W0.heap.size 39 1 (.slice D l.length cap) l.length (vsF Af cf l (F.take k)) ∧ Ex W0 wr)) (fun i _ => F.length - (intOf i).toNat)
      case atStart => exact ⟨0, rfl, Nat.zero_le _, Lib.hid ⟨HO5.out, HX5.out⟩⟩
      case round =>
        clear HO5 HX5
        obtain ⟨k, rfl, hk, HH⟩ := hrel
        by_cases hkl : k < F.length
        · have m0 : (0 : Int) ≤ (k : Int) := by omega
          have m1 : (k : Int) < (F.length : Int) := by omega
          obtain ⟨n, hn⟩ := get_at hkl
          obtain ⟨q, rfl, hq⟩ := HIn.out k n hn
          obtain ⟨r, hr⟩ := get_at hq
          obtain ⟨b3, o3, hFA, hb3, hcs⟩ := row_at (HFr.out _ (HX0.out.trans HH.out.2)) (fun h => by rw [h] at hkl; exact absurd hkl (Nat.not_lt_zero _))
          subst hFA
          have k0 := hcs k _ hn
          have hxw : Ex w wr := HX0.out.trans HH.out.2
          have k1 := (hxw.below.cell HbL.out).trans (HRw.out q r hr).1
          have hbw := Nat.lt_of_lt_of_le HbL.out hxw.below.size
          have x1 := (HB1.out _ HH.out.2).cell 0
          have l1 := (HB1.out _ HH.out.2).lt
          obtain ⟨g, o4, cap', hg, -, -, hg2, hg3, hgc⟩ := HH.out.1.open_ (by omega)
          cases hg
          have y0 := hgc q _ (vsF_get hr)
          have HTk : Hid (vsF Af cf l (F.take (k + 1)) = (vsF Af cf l (F.take k)).set q (.slice (Af q) (stored r).length (cf q))) := by rw [take_snoc hn]; exact (vsF_set hr).symm
          have HS2 := Lib.hid (HSt.out q r hr)
          have n0 : (0 : Int) ≤ (q : Int) := by omega
          have n1 : (q : Int) < (l.length : Int) := by omega
          have HXw := Lib.hid hxw
          clear hn hr hcs hxw hgc
          go_wp2_with fail
          refine (HS2.out _ HXw.out).mono ?_
          rintro e9 w' ⟨rfl, z9, rfl⟩
          have hxz : Ex wr (ext wr z9) := ⟨z9, rfl⟩
          have y1 := (hxz.below.cell (p := ⟨g, o4 + q, none⟩) hg3).trans y0
          have y2 := (HH.out.1.ex hxz).frozen (o4 + q)
          have y3 : g < (ext wr z9).heap.size := Nat.lt_of_lt_of_le hg3 hxz.below.size
          have HN : Hid (OwnO ((ext wr z9).setCell ⟨g, o4 + q, none⟩ (.slice (Af q) (stored r).length (cf q))) W0.heap.size 39 1 (.slice (some ⟨g, o4, none⟩) l.length cap) l.length (vsF Af cf l (F.take (k + 1))) ∧ Ex W0 ((ext wr z9).setCell ⟨g, o4 + q, none⟩ (.slice (Af q) (stored r).length (cf q)))) := ⟨by rw [HTk.out]; exact (HH.out.1.ex hxz).put q _, (HH.out.2.trans hxz).setCell (p := ⟨g, o4 + q, none⟩) hg2 _⟩
          clear hxz y0
          go_wp2_with fail
          refine ⟨⟨k + 1, by go_num, by omega, Lib.hid ⟨HN.out.1, HN.out.2⟩⟩, by simp [intOf]; omega⟩
        · obtain rfl : k = F.length := by omega
          have s2 : decide ((F.length : Int) < (F.length : Int)) = false := decide_eq_false (by omega)
          have x0 := (HB0.out _ HH.out.2).cell 0
          have l0 := (HB0.out _ HH.out.2).lt
          have hO := HH.out.1
          rw [List.take_length] at hO
          have HL5 := Lib.hid (HLi.out wr D cap (HX0.out.trans HH.out.2) _ hO)
          clear hO
          go_wp2_with fail
          refine (HL5.out).mono ?_
          rintro e9 w6 ⟨A6, k6, c6, rfl, h1, h2, h3⟩
          rw [permF_len] at h2
          rw [permF_len]
          have HZ := Lib.hid (HR.out w6 A6 k6 c6 h1 (h2.mono (HX0.out.trans HH.out.2).below.size) ((HX0.out.trans HH.out.2).trans h3))
          clear h1 h2 h3
          go_wp2_with fail
          exact bodyPost_ret (results_tt rfl rfl rfl) rfl HZ.out
  · have hV2 : cpB t l = false := by simpa using hV
    rw [hV2] at HV
    have HR : Hid (∀ w', Ex w w' → AfterR t l F w (.returned (.tuple #[.slice none 0 0, .int .i64 1])) w') := fun w' h => .inl ⟨hV2, rfl, h⟩
    clear hW0 hT hs hcap hL hls hF hV hV2
    go_enter Try.func21, Try.ntmps21
    go_wp2_with fail
    rw [← HW0.out]
    refine (HV.out _ HX0.out).mono ?_
    rintro e9 w' ⟨rfl, z, rfl⟩
    go_wp2_with fail
    exact bodyPost_ret (results_tt rfl rfl rfl) rfl (HR.out _ (HX0.out.ext z))
end
section
open Go.RowKit Go.Shelf
/-- all processes -/
def allF (n : Nat) : List Int := (List.range n).map fun p : Nat => (p : Int)
theorem allF_len (n : Nat) : (allF n).length = n := by simp [allF]
theorem allF_snoc (n : Nat) : allF (n + 1) = allF n ++ [(n : Int)] := by simp [allF, List.range_succ]
theorem AfterR.from_ {t : List Pr} {l : List (List Int)} {F : List Int} {w W : World} {e : Ending} {w' : World} (hX : Ex w W) (h : AfterR t l F W e w') : AfterR t l F w e w' := by
  rcases h with ⟨h1, h2, h3⟩ | ⟨h1, h2, h3, h4⟩ | ⟨h1, h2, A, k, c, h3, h4, h5, h6⟩
  · exact .inl ⟨h1, h2, hX.trans h3⟩
  · exact .inr (.inl ⟨h1, h2, h3, hX.trans h4⟩)
  · exact .inr (.inr ⟨h1, h2, A, k, c, h3, h4, h5.mono hX.below.size, hX.trans h6⟩)
theorem AfterR.two {t : List Pr} {l : List (List Int)} {F : List Int} {w : World} {e : Ending} {w' : World} (h : AfterR t l F w e w') : ∃ u v, e = .returned (.tuple #[u, v]) := by
  rcases h with ⟨h1, h2, h3⟩ | ⟨h1, h2, h3, h4⟩ | ⟨h1, h2, A, k, c, h3, h4, h5, h6⟩
  · exact ⟨_, _, h2⟩
  · exact ⟨_, _, h3⟩
  · exact ⟨_, _, h3⟩
theorem row_own {w : World} {base n cap : Nat} {D : Option Addr} {xs : List Value} (h : OwnO w base 3 1 (.slice D n cap) n xs) : Row w D xs := by
  by_cases hn : 0 < n
  · obtain ⟨g, o, c, e, -, -, -, hlt, hc⟩ := h.open_ hn
    cases e
    exact .inr ⟨g, o, rfl, hlt, hc⟩
  · have := h.1
    exact .inl (List.eq_nil_of_length_eq_zero (by omega))
set_option maxRecDepth 20000 in
set_option maxHeartbeats 3200000 in
theorem pLineA_c (t : List Pr) (A : Option Addr) (c : Nat) (l : List (List Int)) (B : Option Addr) (lc : Nat) (w : World) (hT : TcC w A t) (hs : TSm t) (hcap : t.length ≤ c) (hL : LlC w B l) (hls : LSm l) :
    Calls Try.prog 20 #[.agg #[.slice A t.length c], .slice B l.length lc] w (AfterR t l (allF t.length) w) := by
  have htl := hs.procs
  have HAf : Hid (∀ w' FA fc, Ex w w' → Row w' FA (intsV (allF t.length)) → Calls Try.prog 21 #[.agg #[.slice A t.length c], .slice B l.length lc, .slice FA t.length fc] w' (AfterR t l (allF t.length) w')) := fun w' FA fc h hF => by
    have := pAfter_c t A c l B lc (allF t.length) FA fc w' (hT.ex h) hs hcap (hL.ex h) hls hF (by rw [allF_len]; exact htl)
    rw [allF_len] at this
    exact this
  obtain ⟨i0, hi0, hz0, hz1, hz2⟩ := info_parts infoInt
  obtain ⟨W0, hW0⟩ : ∃ W0, W0 = w.alloc (.cells #[.slice A t.length c] 24) := ⟨_, rfl⟩
  have HX0 : Hid (Ex w W0) := by rw [hW0]; exact (Ex.refl w).alloc _
  have HB0 : Hid (∀ w', Ex W0 w' → Blk w' w.heap.size 24 [.slice A t.length c]) := fun w' hx => by
    have : Blk W0 w.heap.size 24 [.slice A t.length c] := by rw [hW0]; exact Blk.new w _ _
    exact this.ex hx
  have HW0 := Lib.hid hW0
  clear hW0 hT hs hcap hL hls
  go_enter Try.func20, Try.ntmps20
  go_wp2_with fail
  rw [← HW0.out]
  have x0 := (HB0.out _ (Ex.refl _)).cell 0
  have l0 := (HB0.out _ (Ex.refl _)).lt
  go_wp2_with fail
  clear x0 l0
  go_loopw [6, 11] (fun v k wr => ∃ (p : Nat) (A2 : Option Addr) (c2 : Nat), v = .slice A2 p c2 ∧ k = .int .i64 p ∧ p ≤ t.length ∧ Hid (OwnO wr W0.heap.size 3 1 (.slice A2 p c2) p (intsV (allF p)) ∧ Ex W0 wr)) (fun _ k _ => t.length - (intOf k).toNat)
  case atStart => exact ⟨0, none, 0, rfl, rfl, Nat.zero_le _, Lib.hid ⟨OwnO.nil _ _ _ _, Ex.refl _⟩⟩
  case round =>
    obtain ⟨p, A2, c2, rfl, rfl, hp, HH⟩ := hrel
    by_cases hpl : p < t.length
    · have m0 : (0 : Int) ≤ (p : Int) := by omega
      have m1 : (p : Int) < (t.length : Int) := by omega
      have HO := Lib.hid (HH.out.1.ex ((Ex.refl _).alloc (.cells #[.int .i64 (p : Nat)] 3)))
      have hbase : W0.heap.size ≤ wr.heap.size := HH.out.2.below.size
      go_wp2_with (at_builtin; refine wpList_append_one _ rfl _ _ 39 rfl W0.heap.size 3 i0 _ 1 8 Try.underlying39 hi0 hz0 hz1 hz2 rfl (.slice A2 p c2) p (intsV (allF p)) rfl HO.out wr.heap.size [.int .i64 (p : Nat)] rfl rfl ?c1 ?c2 ?c3 ?c4 ?c5 ?_)
      case c1 => exact news_new rfl (by simp)
      case c2 => exact one_ints (by simp)
      case c3 => omega
      case c4 => omega
      case c5 => simp; omega
      intro A4 c4 w4 ho hg hat hEx
      have HX4 := Lib.hid (hEx W0 (HH.out.2.alloc _) (Nat.le_refl _))
      have HO4 : Hid (OwnO w4 W0.heap.size 3 1 (.slice A4 (p + 1) c4) (p + 1) (intsV (allF (p + 1)))) := by
        rw [allF_snoc, intsV_snoc]; exact ho
      clear hg hat hEx ho
      go_wp2_with fail
      refine ⟨⟨p + 1, A4, c4, rfl, by go_num, by omega, Lib.hid ⟨HO4.out, HX4.out⟩⟩, by simp [intOf]; omega⟩
    · obtain rfl : p = t.length := by omega
      have s1 : decide ((t.length : Int) < (t.length : Int)) = false := decide_eq_false (by omega)
      have x0 := (HB0.out _ HH.out.2).cell 0
      have l0 := (HB0.out _ HH.out.2).lt
      have hXw := HX0.out.trans HH.out.2
      have HA2 := Lib.hid (HAf.out wr A2 c2 hXw (row_own HH.out.1))
      have HXw := Lib.hid hXw
      clear hXw
      go_wp2_with fail
      refine (HA2.out).mono ?_
      rintro e9 w' hh
      obtain ⟨u, v, rfl⟩ := hh.two
      have HR := Lib.hid (AfterR.from_ HXw.out hh)
      clear hh
      go_wp2_with fail
      exact bodyPost_ret (results_tt rfl rfl rfl) rfl HR.out
end
end Go.Proofs.Ytdenojfbdkdpiaa
