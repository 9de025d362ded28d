/-
  The reference's Stored, has, greatest and Sent, walked. The reference's Sent, walked. The reference's After, walked. The reference's Line, walked.
  Conditions: as each theorem says.
-/
import Derived.Test.YtdenojfbdkdpiaaYh
namespace Go.Proofs.Ytdenojfbdkdpiaa
section
open Go.RowKit Go.Shelf
set_option maxRecDepth 20000 in
set_option maxHeartbeats 1600000 in
theorem rStored_c (r : List Int) (A : Option Addr) (c : Nat) (w : World) (hr : r ≠ []) (hc : r.length ≤ c) (hl : r.length ≤ 100000) :
    Calls Try.prog 39 #[.slice A r.length c] w (Ret w (.slice A (stored r).length c)) := by
  rw [stored_len hr]
  have hp := List.length_pos_iff.2 hr
  by_cases h1 : r.length = 1
  · have s1 : ((r.length : Int) == 1) = true := by simp [h1]
    have s2 : (r.length == 1) = true := by simp [h1]
    go_enter Try.func39, Try.ntmps39
    go_wp2_with fail
    go_ret
    exact Ret.mk (by simp [h1]) (Ex.refl w)
  · have s1 : ((r.length : Int) == 1) = false := beq_eq_false_iff_ne.2 (by omega)
    have s2 : (r.length == 1) = false := beq_eq_false_iff_ne.2 (by omega)
    have w1 : IntKind.i64.wrap ((r.length : Int) - 1) = ((r.length - 1 : Nat) : Int) := by rw [IntWalk.i64_in _ (by omega)]; omega
    have hm2 : max 1 (r.length - 1) = r.length - 1 := by omega
    have q0 : (0 : Int) ≤ ((r.length - 1 : Nat) : Int) := by omega
    have q1 : ((r.length - 1 : Nat) : Int) ≤ (c : Int) := by omega
    have q2 : r.length - 1 ≤ c := by omega
    rw [hm2]
    clear hm2 h1
    go_enter Try.func39, Try.ntmps39
    go_wp2_with fail
    go_ret
    exact Ret.mk (by simp) (Ex.refl w)
set_option maxRecDepth 20000 in
set_option maxHeartbeats 1600000 in
theorem rHas_c (r : List Int) (A : Option Addr) (c : Nat) (n : Int) (w : World) (hrow : Row w A (intsV r)) (hl : r.length ≤ 100000) :
    Calls Try.prog 66 #[.slice A r.length c, .int .i64 n] w (Ret w (.bool (decide (n ∈ r)))) := by
  have HRow := Lib.hid (fun w' (hx : Ex w w') => hrow.ex hx)
  have HT : Hid (n ∈ r → decide (n ∈ r) = true) := fun h => decide_eq_true h
  have HF : Hid (n ∉ r → decide (n ∈ r) = false) := fun h => decide_eq_false h
  generalize decide (n ∈ r) = R at *
  clear hrow
  go_enter Try.func66, Try.ntmps66
  go_wp2_with fail
  go_loopw [5] (fun i wr => ∃ k : Nat, i = .int .i64 k ∧ k ≤ r.length ∧ Hid ((∀ j a, j < k → r[j]? = some a → a ≠ n) ∧ Ex w wr)) (fun i _ => r.length - (intOf i).toNat)
  case atStart => exact ⟨0, rfl, Nat.zero_le _, Lib.hid ⟨fun j a h => absurd h (Nat.not_lt_zero _), Ex.refl _⟩⟩
  case round =>
    obtain ⟨k, rfl, hk, HH⟩ := hrel
    by_cases hkl : k < r.length
    · have m0 : (0 : Int) ≤ (k : Int) := by omega
      have m1 : (k : Int) < (r.length : Int) := by omega
      obtain ⟨a, ha⟩ := get_at hkl
      obtain ⟨b, o, hA, hb, hcs⟩ := row_at (HRow.out _ HH.out.2) (fun h => by rw [h] at hkl; exact absurd hkl (Nat.not_lt_zero _))
      subst hA
      have k0 := hcs k a ha
      by_cases hn : a = n
      · have s1 : (a == n) = true := by simp [hn]
        have hR := HT.out (by rw [← hn]; exact List.mem_iff_getElem?.2 ⟨k, ha⟩)
        subst hR
        clear ha hcs hn
        go_wp2_with fail
        go_ret
        exact Ret.mk rfl HH.out.2
      · have s1 : (a == n) = false := by simp [hn]
        have HN : Hid (∀ j a, j < k + 1 → r[j]? = some a → a ≠ n) := fun j a' hj h => by
          by_cases hjk : j = k
          · subst hjk; rw [ha] at h; cases h; exact hn
          · exact HH.out.1 j a' (by omega) h
        clear ha hcs hn
        go_wp2_with fail
        refine ⟨⟨k + 1, by go_num, by omega, Lib.hid ⟨HN.out, HH.out.2⟩⟩, by simp [intOf]; omega⟩
    · obtain rfl : k = r.length := by omega
      have hR := HF.out fun h => by
        obtain ⟨j, hj⟩ := List.mem_iff_getElem?.1 h
        exact HH.out.1 j n (List.getElem?_eq_some_iff.1 hj).1 hj rfl
      subst hR
      have s2 : decide ((r.length : Int) < (r.length : Int)) = false := decide_eq_false (by omega)
      go_wp2_with fail
      go_ret
      exact Ret.mk rfl HH.out.2
set_option maxRecDepth 20000 in
set_option maxHeartbeats 1600000 in
theorem rGreatest_c (r : List Int) (A : Option Addr) (c : Nat) (n : Int) (w : World) (hrow : Row w A (intsV r)) (hasc : Asc r) (hl : r.length ≤ 100000) (hn : 0 ≤ n) :
    Calls Try.prog 68 #[.slice A r.length c, .int .i64 n] w (Ret w (.int .i64 (grt r n))) := by
  have HRow := Lib.hid (fun w' (hx : Ex w w') => hrow.ex hx)
  have HAsc := Lib.hid hasc
  have HG : Hid (∀ a, IsG r n a → grt r n = a) := fun a h => grt_of h
  have hp := asc_pos hasc
  generalize grt r n = R at *
  clear hrow hasc
  go_enter Try.func68, Try.ntmps68
  go_wp2_with fail
  go_loopw [5, 6] (fun v i wr => ∃ (k : Nat) (a : Int), v = .int .i64 a ∧ i = .int .i64 k ∧ k ≤ r.length ∧ Hid (((k = 0 ∧ a = 0) ∨ IsG (r.take k) n a) ∧ Ex w wr)) (fun _ i _ => r.length - (intOf i).toNat)
  case atStart => exact ⟨0, 0, rfl, rfl, Nat.zero_le _, Lib.hid ⟨.inl ⟨rfl, rfl⟩, Ex.refl _⟩⟩
  case round =>
    obtain ⟨k, a, rfl, rfl, hk, HH⟩ := hrel
    by_cases hkl : k < r.length
    · have m0 : (0 : Int) ≤ (k : Int) := by omega
      have m1 : (k : Int) < (r.length : Int) := by omega
      obtain ⟨x, hx⟩ := get_at hkl
      obtain ⟨b, o, hA, hb, hcs⟩ := row_at (HRow.out _ HH.out.2) (fun h => by rw [h] at hkl; exact absurd hkl (Nat.not_lt_zero _))
      subst hA
      have k0 := hcs k x hx
      have HN : Hid (IsG (r.take (k + 1)) n (if x ≤ n then x else a)) := by
        rcases HH.out.1 with ⟨h1, h2⟩ | h1
        · subst h1
          have := HAsc.out.1
          rw [hx] at this
          cases this
          rw [if_pos hn]
          exact isG_one HAsc.out hn
        · rw [take_snoc hx]
          exact isG_snoc h1 (asc_before HAsc.out hx)
      by_cases hle : x ≤ n
      · have s1 : decide (x ≤ n) = true := decide_eq_true hle
        rw [if_pos hle] at HN
        clear hx hcs hle
        go_wp2_with fail
        refine ⟨⟨k + 1, x, rfl, by go_num, by omega, Lib.hid ⟨.inr HN.out, HH.out.2⟩⟩, by simp [intOf]; omega⟩
      · have s1 : decide (x ≤ n) = false := decide_eq_false hle
        rw [if_neg hle] at HN
        clear hx hcs hle
        go_wp2_with fail
        refine ⟨⟨k + 1, a, rfl, by go_num, by omega, Lib.hid ⟨.inr HN.out, HH.out.2⟩⟩, by simp [intOf]; omega⟩
    · obtain rfl : k = r.length := by omega
      have hR : R = a := by
        rcases HH.out.1 with ⟨h1, -⟩ | h1
        · omega
        · rw [List.take_length] at h1; exact HG.out a h1
      subst hR
      have s2 : decide ((r.length : Int) < (r.length : Int)) = false := decide_eq_false (by omega)
      go_wp2_with fail
      go_ret
      exact Ret.mk rfl HH.out.2
end
section
open Go.RowKit Go.Shelf
theorem msgs_iff {t : List Pr} {m : Msg} : m ∈ msgs t ↔ ∃ p i e, evAt t p i = some e ∧ e.kind = 3 ∧ m = (findO t 2 e.msg, (p, i + 1)) := by
  unfold msgs rcvL
  rw [List.mem_flatMap]
  constructor
  · rintro ⟨⟨p, i⟩, -, hx⟩
    unfold rcvE at hx
    split at hx
    · rename_i e he
      split at hx
      · rename_i hk
        exact ⟨p, i, e, he, hk, List.mem_singleton.1 hx⟩
      · exact absurd hx List.not_mem_nil
    · exact absurd hx List.not_mem_nil
  · rintro ⟨p, i, e, he, hk, rfl⟩
    have hi := evAt_lt he
    refine ⟨(p, i), mem_plL.2 (.inl ⟨in_proc (x := (p, i + 1)) ⟨by simp, hi⟩, hi⟩), ?_⟩
    unfold rcvE
    simp only [he, hk, if_true]
    exact List.mem_singleton.2 rfl
/-- the event is no receive, or its message is sent in the cut -/
noncomputable def sentB (t : List Pr) (cs : List Int) (p i : Nat) : Bool := match evAt t p i with | some e => if e.kind = 3 then decide (((findO t 2 e.msg).2 : Int) ≤ cs.getD (findO t 2 e.msg).1 0) else true | none => true
theorem sent_other {t : List Pr} {cs : List Int} {p i : Nat} {e : Ev} (he : evAt t p i = some e) (hk : e.kind ≠ 3) : sentB t cs p i = true := by
  unfold sentB
  rw [he]
  simp only [hk, if_false]
theorem sent_at {t : List Pr} {cs : List Int} {p i : Nat} {e : Ev} (he : evAt t p i = some e) (hk : e.kind = 3) {b : Int} (hb : cs[(findO t 2 e.msg).1]? = some b) : sentB t cs p i = decide (((findO t 2 e.msg).2 : Int) ≤ b) := by
  unfold sentB
  rw [he]
  simp only [hk, if_true]
  rw [List.getD_eq_getElem?_getD, hb]
  rfl
/-- what is not sent is a message that is lost -/
theorem sent_false {t : List Pr} (hP : Paired t) {cs : List Int} (hl : cs.length = t.length) {p i : Nat} (h : sentB t cs p i = false) : ∃ m b, m ∈ msgs t ∧ m.2 = (p, i + 1) ∧ cs[m.1.1]? = some b ∧ b < (m.1.2 : Int) := by
  cases he : evAt t p i with
  | none => unfold sentB at h; rw [he] at h; cases h
  | some e =>
    by_cases hk : e.kind = 3
    · have hin : InT t (p, i + 1) := ⟨by simp, evAt_lt he⟩
      have hF := (find_sent hP (y := (p, i + 1)) hin he hk).1
      obtain ⟨b, hb⟩ := get_at (show (findO t 2 e.msg).1 < cs.length by rw [hl]; exact in_proc hF)
      rw [sent_at he hk hb] at h
      exact ⟨(findO t 2 e.msg, (p, i + 1)), b, msgs_iff.2 ⟨p, i, e, he, hk, rfl⟩, rfl, hb, by have := of_decide_eq_false h; dsimp only; omega⟩
    · rw [sent_other he hk] at h; cases h
/-- all that is received is sent: the cut is closed -/
theorem sent_closed {t : List Pr} {cs : List Int} (h : ∀ p i, p < t.length → i < evN t p → ∀ a, cs[p]? = some a → (i : Int) < a → sentB t cs p i = true) : Closed (msgs t) cs := fun m hm a b ha hb hle => by
  obtain ⟨p, i, e, he, hk, rfl⟩ := msgs_iff.1 hm
  have hi := evAt_lt he
  have := h p i (in_proc (x := (p, i + 1)) ⟨by simp, hi⟩) hi a ha (by dsimp only at hle; omega)
  rw [sent_at he hk hb] at this
  exact of_decide_eq_true this
set_option maxRecDepth 20000 in
set_option maxHeartbeats 3200000 in
theorem rSent_c (t : List Pr) (A : Option Addr) (c : Nat) (cs : List Int) (C : Option Addr) (cc p i : Nat) (w : World) (hT : TcC w A t) (hs : TSm t) (hP : Paired t) (hl : cs.length = t.length) (hC : Row w C (intsV cs)) (hi : i < evN t p) :
    Calls Try.prog 67 #[.agg #[.slice A t.length c], .slice C cs.length cc, .int .i64 p, .int .i64 i] w (Ret w (.bool (sentB t cs p i))) := by
  obtain ⟨e, he⟩ := evAt_some hi
  have hpt : p < t.length := in_proc (x := (p, i + 1)) ⟨by simp, hi⟩
  obtain ⟨x, hpx⟩ := get_at hpt
  have hxe : x.evs[i]? = some e := by unfold evAt at he; rw [hpx] at he; exact he
  have hix := (List.getElem?_eq_some_iff.1 hxe).1
  have htl := hs.procs
  have hel := (hs.each x (List.mem_of_getElem? hpx)).2.2.1
  have HF := Lib.hid (fun w' (h : Ex w w') => rFind_c t A c 2 e.msg w' (hT.ex h) hs)
  have HO : Hid (e.kind ≠ 3 → sentB t cs p i = true) := fun h => sent_other he h
  have HS : Hid (∀ b, e.kind = 3 → cs[(findO t 2 e.msg).1]? = some b → sentB t cs p i = decide (((findO t 2 e.msg).2 : Int) ≤ b)) := fun b hk hb => sent_at he hk hb
  have HI : Hid (e.kind = 3 → (findO t 2 e.msg).1 < cs.length) := fun hk => by rw [hl]; exact in_proc (find_sent hP (y := (p, i + 1)) ⟨by simp, hi⟩ he hk).1
  obtain ⟨W0, hW0⟩ : ∃ W0, W0 = w.alloc (.cells #[.slice A t.length c] 24) := ⟨_, rfl⟩
  have HX0 : Hid (Ex w W0) := by rw [hW0]; exact (Ex.refl w).alloc _
  have HB0 : Hid (∀ w', Ex W0 w' → Blk w' w.heap.size 24 [.slice A t.length c]) := fun w' hx => by
    have : Blk W0 w.heap.size 24 [.slice A t.length c] := by rw [hW0]; exact Blk.new w _ _
    exact this.ex hx
  have HC := Lib.hid (fun w' (hx : Ex w w') => hC.ex hx)
  obtain ⟨b, o, hA, hbl, V, vc, E, ec, -, -, g2, -, hE⟩ := hT.ex HX0.out p x hpx
  obtain ⟨b2, o2, hA2, hbl2, B, bc, k0, k1, k2, k3, k4, -⟩ := hE i e hxe
  have x0 := (HB0.out _ (Ex.refl _)).cell 0
  have l0 := (HB0.out _ (Ex.refl _)).lt
  subst hA hA2
  have m0 : (0 : Int) ≤ (p : Int) := by omega
  have m1 : (p : Int) < (t.length : Int) := by omega
  have m2 : (0 : Int) ≤ (i : Int) := by omega
  have m3 : (i : Int) < (x.evs.length : Int) := by omega
  generalize sentB t cs p i = R at *
  clear hT hs hC hP hE he hpx hxe hl
  subst hW0
  by_cases hk : e.kind = 3
  · have s1 : (e.kind != 3) = false := by simp [hk]
    have HI2 := Lib.hid (HI.out hk)
    have HS2 : Hid (∀ b, cs[(findO t 2 e.msg).1]? = some b → R = decide (((findO t 2 e.msg).2 : Int) ≤ b)) := fun b hb => HS.out b hk hb
    generalize findO t 2 e.msg = F at *
    obtain ⟨F1, F2⟩ := F
    unfold idV at HF
    clear HI HS HO hk
    go_enter Try.func67, Try.ntmps67
    go_wp2_with fail
    refine (HF.out _ (HX0.out.alloc _)).mono ?_
    rintro e9 w' ⟨rfl, z, rfl⟩
    generalize hW3 : ext ((w.alloc (.cells #[.slice (some ⟨b, o, none⟩) t.length c] 24)).alloc (.cells #[.int .i64 e.kind, .int .i64 e.peer, .int .i64 e.msg, .int .i64 e.time, .slice B e.asg.length bc] 61)) z = W3
    have HX3 : Hid (Ex w W3) := by rw [← hW3]; exact (HX0.out.alloc _).ext z
    obtain ⟨v, hv⟩ := get_at HI2.out
    have HR := Lib.hid (HS2.out v hv)
    obtain ⟨b7, o7, hC, hb7, hcs⟩ := row_at (HC.out _ HX3.out) (fun h => by have := HI2.out; rw [h] at this; exact absurd this (Nat.not_lt_zero _))
    have q0 := hcs F1 v hv
    have n0 : (0 : Int) ≤ (F1 : Int) := by omega
    have n1 : (F1 : Int) < (cs.length : Int) := by have := HI2.out; omega
    subst hC
    clear hW3 z hcs hv x0 l0 g2 k0 k1 k2 k3 k4 hbl hbl2
    go_wp2_with fail
    go_quiet (fail)
    go_wp2_with fail
    go_ret
    exact Ret.mk (by rw [HR.out]; rfl) ((HX3.out.alloc _).drewN _)
  · have s1 : (e.kind != 3) = true := by simp [hk]
    have hR := HO.out hk
    subst hR
    clear HI HS HO hk
    go_enter Try.func67, Try.ntmps67
    go_wp2_with fail
    go_ret
    exact Ret.mk rfl (HX0.out.alloc _)
end
section
open Go.RowKit Go.Shelf
/-- what the reference's After hands back -/
def RAfterR (t : List Pr) (l : List (List Int)) (F : List Int) (w : World) (e : Ending) (w' : World) : Prop :=
  ∃ A k c, e = .returned (.slice A l.length k) ∧ IsTop (msgs t) (permF l F) c ∧ OwnO w' w.heap.size 3 1 (.slice A l.length k) l.length (intsV c) ∧ Ex w w'
theorem okRow_le {n : Nat} {r : List Int} (h : okRow n r) {a : Int} (ha : a ∈ r) : a ≤ (n : Int) := by
  obtain ⟨j, hj⟩ := List.mem_iff_getElem?.1 ha
  have hl := (List.getElem?_eq_some_iff.1 hj).1
  by_cases he : j = r.length - 1
  · rw [he, h.2.1] at hj; cases hj; exact Int.le_refl _
  · have := asc_lt h.asc (show j < r.length - 1 by omega) hj h.2.1
    omega
theorem stored_sub {r : List Int} {a : Int} (h : a ∈ stored r) : a ∈ r := List.mem_of_mem_take h
theorem permF_le {t : List Pr} {l : List (List Int)} {F : List Int} (h : cpP t l) {p : Nat} {r : List Int} {a : Int} (hr : (permF l F)[p]? = some r) (ha : a ∈ r) : a ≤ (evN t p : Int) := by
  obtain ⟨r0, h0⟩ := get_at (show p < l.length by rw [← permF_len l F]; exact (List.getElem?_eq_some_iff.1 hr).1)
  rw [permF_get h0] at hr
  cases hr
  split at ha
  · exact okRow_le (h.2 p r0 h0) (stored_sub ha)
  · exact okRow_le (h.2 p r0 h0) ha
set_option maxRecDepth 100000 in
set_option maxHeartbeats 6400000 in
theorem rAfter_c (t : List Pr) (A : Option Addr) (c : Nat) (l : List (List Int)) (B : Option Addr) (lc : Nat) (F : List Int) (FA : Option Addr) (fc : Nat) (w : World) (hT : TcC w A t) (hs : TSm t) (hV : cpB t l = true) (hL : LlC w B l) (hls : LSm l) (hF : Row w FA (intsV F)) (hfl : F.length ≤ 100000) :
    Calls Try.prog 27 #[.agg #[.slice A t.length c], .slice B l.length lc, .slice FA F.length fc] w (RAfterR t l F w) := by
  obtain ⟨hvt, hcp⟩ := cp_of hV
  have hPd : Paired t := paired_of (fault_zero (of_decide_eq_true hvt)).2.2.2.1
  have hll := hls.rows
  have htl := hs.procs
  have hne : l ≠ [] := fun h0 => by
    have h1 := (fault_zero (of_decide_eq_true hvt)).1
    have h2 := hcp.1
    rw [h0] at h2
    simp at h2
    omega
  obtain ⟨b, o, Af, cf, hB, hbl, hrows⟩ := rows_at hL hne
  subst hB
  have HRw := Lib.hid hrows
  have HbL := Lib.hid hbl
  have HAsc : Hid (∀ (p : Nat) (r : List Int), l[p]? = some r → Asc r) := fun p r h => (hcp.2 p r h).asc
  have HLn : Hid (∀ (p : Nat) (r : List Int), l[p]? = some r → r.length ≤ 100000) := fun p r h => hls.each r (List.mem_of_getElem? h)
  have HHas := Lib.hid (fun (n : Int) w' (h : Ex w w') => rHas_c F FA fc n w' (hF.ex h) hfl)
  have HSt : Hid (∀ (p : Nat) (r : List Int), l[p]? = some r → ∀ w', Ex w w' → Calls Try.prog 39 #[.slice (Af p) r.length (cf p)] w' (Ret w' (.slice (Af p) (stored r).length (cf p)))) := fun p r hp w' _ => rStored_c r (Af p) (cf p) w' (fun h => by have := asc_pos (HAsc.out p r hp); rw [h] at this; exact absurd this (Nat.lt_irrefl _)) (hrows p r hp).2.1 (HLn.out p r hp)
  have HSe := Lib.hid (fun (cs : List Int) (C : Option Addr) (cc p i : Nat) w' (h : Ex w w') (hl : cs.length = t.length) (hC : Row w' C (intsV cs)) (hi : i < evN t p) => rSent_c t A c cs C cc p i w' (hT.ex h) hs hPd hl hC hi)
  have HLen := Lib.hid hcp.1
  have HLe := Lib.hid (fun (p : Nat) (r : List Int) (a : Int) (hr : (permF l F)[p]? = some r) (ha : a ∈ r) => permF_le hcp hr ha)
  have HPa := Lib.hid (permF_asc (F := F) HAsc.out)
  have HEn : Hid (∀ q, evN t q ≤ 100000) := fun q => by
    unfold evN
    cases h : t[q]? with
    | none => simp
    | some x => exact (hs.each x (List.mem_of_getElem? h)).2.2.1
  have HPd := Lib.hid hPd
  obtain ⟨i0, hi0, hz0, hz1, hz2⟩ := info_parts infoInt
  obtain ⟨j0, hj0, jz0, jz1, jz2⟩ := info_parts infoRow
  obtain ⟨W0, hW0⟩ : ∃ W0, W0 = w.alloc (.cells #[.slice A t.length c] 24) := ⟨_, rfl⟩
  have HX0 : Hid (Ex w W0) := by rw [hW0]; exact (Ex.refl w).alloc _
  have HB0 : Hid (∀ w', Ex W0 w' → Blk w' w.heap.size 24 [.slice A t.length c]) := fun w' hx => by
    have : Blk W0 w.heap.size 24 [.slice A t.length c] := by rw [hW0]; exact Blk.new w _ _
    exact this.ex hx
  have HW0 := Lib.hid hW0
  clear hT hs hV hL hls hF hfl hvt hcp hPd hne hrows hbl hW0
  unfold RAfterR
  go_enter Try.func27, Try.ntmps27
  go_wp2_with fail
  rw [← HW0.out]
  go_wp2_with fail
  go_loopw [7, 8, 9] (fun v u k wr => ∃ (p : Nat) (A2 : Option Addr) (c2 : Nat) (A3 : Option Addr) (c3 : Nat), v = .slice A2 p c2 ∧ u = .slice A3 p c3 ∧ k = .int .i64 p ∧ p ≤ l.length ∧ Hid (OwnO wr W0.heap.size 39 1 (.slice A2 p c2) p ((vsF Af cf l F).take p) ∧ OwnO wr W0.heap.size 3 1 (.slice A3 p c3) p (intsV ((lasts (permF l F)).take p)) ∧ Ex W0 wr)) (fun _ _ k _ => l.length - (intOf k).toNat)
  case atStart => exact ⟨0, none, 0, none, 0, rfl, rfl, rfl, Nat.zero_le _, Lib.hid ⟨OwnO.nil _ _ _ _, OwnO.nil _ _ _ _, Ex.refl _⟩⟩
  case round =>
    obtain ⟨p, A2, c2, A3, c3, rfl, rfl, rfl, hp, HH⟩ := hrel
    by_cases hpl : p < l.length
    · have m0 : (0 : Int) ≤ (p : Int) := by omega
      have m1 : (p : Int) < (l.length : Int) := by omega
      obtain ⟨r, hr⟩ := get_at hpl
      have hxw : Ex w wr := HX0.out.trans HH.out.2.2
      have k1 := (hxw.below.cell HbL.out).trans (HRw.out p r hr).1
      have hbw := Nat.lt_of_lt_of_le HbL.out hxw.below.size
      have HHs := Lib.hid (HHas.out (p : Int) wr hxw)
      by_cases hmem : (p : Int) ∈ F
      · rw [decide_eq_true hmem] at HHs
        have HS2 := Lib.hid (HSt.out p r hr)
        go_wp2_with fail
        refine (HHs.out).mono ?_
        rintro e9 w' ⟨rfl, z, rfl⟩
        go_wp2_with fail
        refine (HS2.out _ (hxw.ext z)).mono ?_
        rintro e9 w' ⟨rfl, z2, rfl⟩
        generalize hW3 : ext (ext wr z) z2 = W3
        have HX3 : Hid (Ex wr W3) := by rw [← hW3]; exact ((Ex.refl _).ext z).ext z2
        have HRow : Hid (∀ w', Ex w w' → Row w' (Af p) (intsV (stored r))) := fun w' h => row_stored ((HRw.out p r hr).2.2.ex h)
        have hap : 0 < (stored r).length := asc_pos (asc_stored (HAsc.out p r hr))
        have has : Asc (stored r) := (asc_stored (HAsc.out p r hr))
        have hal : (stored r).length ≤ 100000 := by have := HLn.out p r hr; unfold stored; rw [List.length_take]; omega
        have HTv : Hid ((vsF Af cf l F).take (p + 1) = (vsF Af cf l F).take p ++ [.slice (Af p) (stored r).length (cf p)]) := by
          have := vsF_get (Af := Af) (cf := cf) (F := F) hr
          rw [if_pos hmem] at this
          exact take_snoc this
        have HTc : Hid ((lasts (permF l F)).take (p + 1) = (lasts (permF l F)).take p ++ [(stored r).getD ((stored r).length - 1) 0]) := by
          have := permF_get (F := F) hr
          rw [if_pos hmem] at this
          exact take_snoc (lasts_get this)
        have hlast := last_at has
        generalize (stored r).getD ((stored r).length - 1) 0 = z0 at *
        generalize stored r = ra at *
        have HO2 := Lib.hid ((HH.out.1.ex HX3.out).ex ((Ex.refl _).alloc (.cells #[.slice (Af p) ra.length (cf p)] 39)))
        have HO3 := Lib.hid ((HH.out.2.1.ex HX3.out).ex ((Ex.refl _).alloc (.cells #[.slice (Af p) ra.length (cf p)] 39)))
        have HXa := Lib.hid ((HH.out.2.2.trans HX3.out).alloc (.cells #[.slice (Af p) ra.length (cf p)] 39))
        have hbase : W0.heap.size ≤ W3.heap.size := (HH.out.2.2.trans HX3.out).below.size
        clear hmem hr hW3 k1 hbw has hxw
        go_wp2_with (at_builtin; refine wpList_append_one _ rfl _ _ 25 rfl W0.heap.size 39 j0 _ 1 24 Try.underlying25 hj0 jz0 jz1 jz2 rfl (.slice A2 p c2) p ((vsF Af cf l F).take p) rfl HO2.out W3.heap.size [.slice (Af p) ra.length (cf p)] rfl rfl ?c1 ?c2 ?c3 ?c4 ?c5 ?_)
        case c1 => exact news_new rfl (by simp)
        case c2 => simp; rfl
        case c3 => omega
        case c4 => omega
        case c5 => simp; omega
        intro A4 c4 w4 ho hg hat hEx
        have HX4 := Lib.hid (hEx W0 HXa.out (Nat.le_refl _))
        have HO4 : Hid (OwnO w4 W0.heap.size 39 1 (.slice A4 (p + 1) c4) (p + 1) ((vsF Af cf l F).take (p + 1))) := by rw [HTv.out]; exact ho
        have HO5 := Lib.hid ((HO3.out.kept hg (HO3.out.ne2 HO2.out (by decide))).ex ((Ex.refl _).alloc (.cells #[.int .i64 z0] 3)))
        have HO4a := Lib.hid (HO4.out.ex ((Ex.refl _).alloc (.cells #[.int .i64 z0] 3)))
        clear hg hat hEx ho
        have hbase4 : W0.heap.size ≤ w4.heap.size := HX4.out.below.size
        obtain ⟨b2, o2, hA2, hb2, hcs⟩ := row_at (HRow.out _ (HX0.out.trans HX4.out)) (fun h => by rw [h] at hap; exact absurd hap (Nat.lt_irrefl _))
        have d0 := hcs _ _ hlast
        have w1 : IntKind.i64.wrap ((ra.length : Int) - 1) = ((ra.length - 1 : Nat) : Int) := by rw [IntWalk.i64_in _ (by omega)]; omega
        have w2 : (0 : Int) ≤ ((ra.length - 1 : Nat) : Int) := by omega
        have w3 : ((ra.length - 1 : Nat) : Int) < (ra.length : Int) := by omega
        generalize Af p = Afp at *
        subst hA2
        clear hlast hcs
        go_wp2_with (at_builtin; refine wpList_append_one _ rfl _ _ 39 rfl W0.heap.size 3 i0 _ 1 8 Try.underlying39 hi0 hz0 hz1 hz2 rfl (.slice A3 p c3) p (intsV ((lasts (permF l F)).take p)) rfl HO5.out w4.heap.size [.int .i64 z0] rfl rfl ?c1 ?c2 ?c3 ?c4 ?c5 ?_)
        case c1 => exact news_new rfl (by simp)
        case c2 => exact one_ints (by simp)
        case c3 => omega
        case c4 => omega
        case c5 => simp; omega
        intro A6 c6 w6 ho hg hat hEx
        have HX6 := Lib.hid (hEx W0 (HX4.out.alloc _) (Nat.le_refl _))
        have HO6 : Hid (OwnO w6 W0.heap.size 3 1 (.slice A6 (p + 1) c6) (p + 1) (intsV ((lasts (permF l F)).take (p + 1)))) := by rw [HTc.out, intsV_snoc]; exact ho
        have HO7 := Lib.hid (HO4a.out.kept hg (HO4a.out.ne2 HO5.out (by decide)))
        clear hg hat hEx ho d0 hb2
        go_wp2_with fail
        refine ⟨⟨p + 1, A4, c4, A6, c6, rfl, rfl, by go_num, by omega, Lib.hid ⟨HO7.out, HO6.out, HX6.out⟩⟩, by simp [intOf]; omega⟩
      · rw [decide_eq_false hmem] at HHs
        go_wp2_with fail
        refine (HHs.out).mono ?_
        rintro e9 w' ⟨rfl, z, rfl⟩
        generalize hW3 : ext wr z = W3
        have HX3 : Hid (Ex wr W3) := by rw [← hW3]; exact (Ex.refl _).ext z
        have HRow : Hid (∀ w', Ex w w' → Row w' (Af p) (intsV r)) := fun w' h => (HRw.out p r hr).2.2.ex h
        have hap : 0 < r.length := asc_pos (HAsc.out p r hr)
        have has : Asc r := (HAsc.out p r hr)
        have hal : r.length ≤ 100000 := HLn.out p r hr
        have HTv : Hid ((vsF Af cf l F).take (p + 1) = (vsF Af cf l F).take p ++ [.slice (Af p) r.length (cf p)]) := by
          have := vsF_get (Af := Af) (cf := cf) (F := F) hr
          rw [if_neg hmem] at this
          exact take_snoc this
        have HTc : Hid ((lasts (permF l F)).take (p + 1) = (lasts (permF l F)).take p ++ [r.getD (r.length - 1) 0]) := by
          have := permF_get (F := F) hr
          rw [if_neg hmem] at this
          exact take_snoc (lasts_get this)
        have hlast := last_at has
        generalize r.getD (r.length - 1) 0 = z0 at *
        have HO2 := Lib.hid ((HH.out.1.ex HX3.out).ex ((Ex.refl _).alloc (.cells #[.slice (Af p) r.length (cf p)] 39)))
        have HO3 := Lib.hid ((HH.out.2.1.ex HX3.out).ex ((Ex.refl _).alloc (.cells #[.slice (Af p) r.length (cf p)] 39)))
        have HXa := Lib.hid ((HH.out.2.2.trans HX3.out).alloc (.cells #[.slice (Af p) r.length (cf p)] 39))
        have hbase : W0.heap.size ≤ W3.heap.size := (HH.out.2.2.trans HX3.out).below.size
        clear hmem hr hW3 k1 hbw has hxw
        go_wp2_with (at_builtin; refine wpList_append_one _ rfl _ _ 25 rfl W0.heap.size 39 j0 _ 1 24 Try.underlying25 hj0 jz0 jz1 jz2 rfl (.slice A2 p c2) p ((vsF Af cf l F).take p) rfl HO2.out W3.heap.size [.slice (Af p) r.length (cf p)] rfl rfl ?c1 ?c2 ?c3 ?c4 ?c5 ?_)
        case c1 => exact news_new rfl (by simp)
        case c2 => simp; rfl
        case c3 => omega
        case c4 => omega
        case c5 => simp; omega
        intro A4 c4 w4 ho hg hat hEx
        have HX4 := Lib.hid (hEx W0 HXa.out (Nat.le_refl _))
        have HO4 : Hid (OwnO w4 W0.heap.size 39 1 (.slice A4 (p + 1) c4) (p + 1) ((vsF Af cf l F).take (p + 1))) := by rw [HTv.out]; exact ho
        have HO5 := Lib.hid ((HO3.out.kept hg (HO3.out.ne2 HO2.out (by decide))).ex ((Ex.refl _).alloc (.cells #[.int .i64 z0] 3)))
        have HO4a := Lib.hid (HO4.out.ex ((Ex.refl _).alloc (.cells #[.int .i64 z0] 3)))
        clear hg hat hEx ho
        have hbase4 : W0.heap.size ≤ w4.heap.size := HX4.out.below.size
        obtain ⟨b2, o2, hA2, hb2, hcs⟩ := row_at (HRow.out _ (HX0.out.trans HX4.out)) (fun h => by rw [h] at hap; exact absurd hap (Nat.lt_irrefl _))
        have d0 := hcs _ _ hlast
        have w1 : IntKind.i64.wrap ((r.length : Int) - 1) = ((r.length - 1 : Nat) : Int) := by rw [IntWalk.i64_in _ (by omega)]; omega
        have w2 : (0 : Int) ≤ ((r.length - 1 : Nat) : Int) := by omega
        have w3 : ((r.length - 1 : Nat) : Int) < (r.length : Int) := by omega
        generalize Af p = Afp at *
        subst hA2
        clear hlast hcs
        go_wp2_with (at_builtin; refine wpList_append_one _ rfl _ _ 39 rfl W0.heap.size 3 i0 _ 1 8 Try.underlying39 hi0 hz0 hz1 hz2 rfl (.slice A3 p c3) p (intsV ((lasts (permF l F)).take p)) rfl HO5.out w4.heap.size [.int .i64 z0] rfl rfl ?c1 ?c2 ?c3 ?c4 ?c5 ?_)
        case c1 => exact news_new rfl (by simp)
        case c2 => exact one_ints (by simp)
        case c3 => omega
        case c4 => omega
        case c5 => simp; omega
        intro A6 c6 w6 ho hg hat hEx
        have HX6 := Lib.hid (hEx W0 (HX4.out.alloc _) (Nat.le_refl _))
        have HO6 : Hid (OwnO w6 W0.heap.size 3 1 (.slice A6 (p + 1) c6) (p + 1) (intsV ((lasts (permF l F)).take (p + 1)))) := by rw [HTc.out, intsV_snoc]; exact ho
        have HO7 := Lib.hid (HO4a.out.kept hg (HO4a.out.ne2 HO5.out (by decide)))
        clear hg hat hEx ho d0 hb2
        go_wp2_with fail
        refine ⟨⟨p + 1, A4, c4, A6, c6, rfl, rfl, by go_num, by omega, Lib.hid ⟨HO7.out, HO6.out, HX6.out⟩⟩, by simp [intOf]; omega⟩
    · obtain rfl : p = l.length := by omega
      have s1 : decide ((l.length : Int) < (l.length : Int)) = false := decide_eq_false (by omega)
      have HO2 : Hid (OwnO wr W0.heap.size 39 1 (.slice A2 l.length c2) l.length (vsF Af cf l F)) := by
        have := HH.out.1
        rw [List.take_of_length_le (by rw [vsF_len]; exact Nat.le_refl _)] at this
        exact this
      have HO3 : Hid (OwnO wr W0.heap.size 3 1 (.slice A3 l.length c3) l.length (intsV (lasts (permF l F)))) := by
        have := HH.out.2.1
        rw [List.take_of_length_le (by rw [lasts_len, permF_len]; exact Nat.le_refl _)] at this
        exact this
      have HX := Lib.hid HH.out.2.2
      have HDn : Hid (Down (msgs t) (permF l F) (lasts (permF l F))) := down_start HPa.out (lasts_len _) fun p r a hr ha => by
        rw [lasts_get hr] at ha
        cases ha
        exact last_at (HPa.out p r hr)
      clear HH
      have HGr : Hid (∀ (p : Nat) (rp : List Int), (permF l F)[p]? = some rp → ∃ r0, l[p]? = some r0 ∧ (vsF Af cf l F)[p]? = some (.slice (Af p) rp.length (cf p)) ∧ ∀ (i : Nat) w', Ex w w' → Calls Try.prog 68 #[.slice (Af p) rp.length (cf p), .int .i64 i] w' (Ret w' (.int .i64 (grt rp i)))) := fun p rp hrp => by
        obtain ⟨r0, h0⟩ := get_at (show p < l.length by rw [← permF_len l F]; exact (List.getElem?_eq_some_iff.1 hrp).1)
        have hasc := HPa.out p rp hrp
        have e := permF_get (F := F) h0
        rw [hrp] at e
        have e2 := Option.some.inj e
        refine ⟨r0, h0, by rw [vsF_get h0, ← e2], fun i w' hx => ?_⟩
        have hrow : Row w' (Af p) (intsV rp) := by
          rw [e2]
          split
          · exact row_stored ((HRw.out p r0 h0).2.2.ex hx)
          · exact (HRw.out p r0 h0).2.2.ex hx
        have hlen : rp.length ≤ 100000 := by
          have := HLn.out p r0 h0
          rw [e2]
          split
          · unfold stored; rw [List.length_take]; omega
          · exact this
        exact rGreatest_c rp (Af p) (cf p) (i : Int) w' hrow hasc hlen (by omega)
      go_wp2_with fail
      go_loopg [11] (2 * sumC (lasts (permF l F)) + 1) (fun gg ch wr => ∃ (cs : List Int) (x : Bool), ch = .bool x ∧ 2 * sumC cs + x.toNat ≤ gg ∧ 2 * sumC cs + x.toNat ≤ 2 * sumC (lasts (permF l F)) + 1 ∧ Hid (Down (msgs t) (permF l F) cs ∧ (x = false → ∀ q i, q < t.length → i < evN t q → ∀ a, cs[q]? = some a → (i : Int) < a → sentB t cs q i = true) ∧ OwnO wr W0.heap.size 39 1 (.slice A2 l.length c2) l.length (vsF Af cf l F) ∧ OwnO wr W0.heap.size 3 1 (.slice A3 l.length c3) l.length (intsV cs) ∧ Ex W0 wr))
      case atStart => exact ⟨_, true, rfl, Nat.le_refl _, Nat.le_refl _, Lib.hid ⟨HDn.out, fun h => Bool.noConfusion h, HO2.out, HO3.out, HX.out⟩⟩
      case round =>
        clear HO2 HO3 HX HDn
        obtain ⟨cs, x, rfl, hgg, hgb, HH⟩ := hrel
        cases x with
        | false =>
          have HTop : Hid (IsTop (msgs t) (permF l F) cs) := HH.out.1.end_ (sent_closed (HH.out.2.1 rfl))
          go_wp2_with fail
          go_ret
          exact ⟨_, _, rfl, cs, HTop.out, HH.out.2.2.2.1.mono HX0.out.below.size, HX0.out.trans HH.out.2.2.2.2⟩
        | true =>
          go_wp2_with fail
          go_loopw [11, 12] (fun ch k w2 => ∃ (p : Nat) (x : Bool) (cs2 : List Int), ch = .bool x ∧ k = .int .i64 p ∧ p ≤ l.length ∧ Hid (Down (msgs t) (permF l F) cs2 ∧ (x = false → cs2 = cs ∧ ∀ q i, q < p → i < evN t q → ∀ a, cs[q]? = some a → (i : Int) < a → sentB t cs q i = true) ∧ (x = true → sumC cs2 < sumC cs) ∧ OwnO w2 W0.heap.size 39 1 (.slice A2 l.length c2) l.length (vsF Af cf l F) ∧ OwnO w2 W0.heap.size 3 1 (.slice A3 l.length c3) l.length (intsV cs2) ∧ Ex W0 w2)) (fun _ k _ => l.length - (intOf k).toNat)
          case atStart => exact ⟨0, false, cs, rfl, rfl, Nat.zero_le _, Lib.hid ⟨HH.out.1, fun _ => ⟨rfl, fun q i h => absurd h (Nat.not_lt_zero _)⟩, fun h => Bool.noConfusion h, HH.out.2.2.1, HH.out.2.2.2.1, HH.out.2.2.2.2⟩⟩
          case round =>
            clear HH
            obtain ⟨p, x, cs2, rfl, rfl, hp, HH⟩ := hrel
            by_cases hpl : p < l.length
            · have m0 : (0 : Int) ≤ (p : Int) := by omega
              have m1 : (p : Int) < (l.length : Int) := by omega
              go_wp2_with fail
              go_loopw [11, 13] (fun ch k w3 => ∃ (i : Nat) (x : Bool) (cs2 : List Int), ch = .bool x ∧ k = .int .i64 i ∧ i ≤ evN t p ∧ Hid (Down (msgs t) (permF l F) cs2 ∧ (x = false → cs2 = cs ∧ (∀ q i, q < p → i < evN t q → ∀ a, cs[q]? = some a → (i : Int) < a → sentB t cs q i = true) ∧ ∀ j, j < i → ∀ a, cs[p]? = some a → (j : Int) < a → sentB t cs p j = true) ∧ (x = true → sumC cs2 < sumC cs) ∧ OwnO w3 W0.heap.size 39 1 (.slice A2 l.length c2) l.length (vsF Af cf l F) ∧ OwnO w3 W0.heap.size 3 1 (.slice A3 l.length c3) l.length (intsV cs2) ∧ Ex W0 w3)) (fun _ k _ => evN t p - (intOf k).toNat)
              case atStart => exact ⟨0, x, cs2, rfl, rfl, Nat.zero_le _, Lib.hid ⟨HH.out.1, fun h => ⟨(HH.out.2.1 h).1, (HH.out.2.1 h).2, fun j h => absurd h (Nat.not_lt_zero _)⟩, HH.out.2.2.1, HH.out.2.2.2.1, HH.out.2.2.2.2.1, HH.out.2.2.2.2.2⟩⟩
              case round =>
                clear HH
                obtain ⟨i, x, cs2, rfl, rfl, hi, HH⟩ := hrel
                obtain ⟨rp, hrp⟩ := get_at (show p < (permF l F).length by rw [permF_len]; exact hpl)
                obtain ⟨r0, h0, hv0, hG⟩ := HGr.out p rp hrp
                obtain ⟨a, ha⟩ := get_at (show p < cs2.length by rw [HH.out.1.len, permF_len]; exact hpl)
                have hae := HLe.out p rp a hrp (HH.out.1.mem p rp a hrp ha)
                have hevb := HEn.out p
                obtain ⟨g, oc, k9, e9, -, -, hgb2, hgl, hgc⟩ := HH.out.2.2.2.2.1.open_ (by omega)
                cases e9
                obtain ⟨gA, oA, kA, eA, -, -, hgA2, hAl, hAc⟩ := HH.out.2.2.2.1.open_ (by omega)
                cases eA
                have z0 := hgc _ _ (intsV_get ha)
                have z1 := hAc _ _ hv0
                clear hgc hAc
                by_cases hia : (i : Int) < a
                · have t1 : decide ((i : Int) < a) = true := decide_eq_true hia
                  have x0 := (HB0.out _ HH.out.2.2.2.2.2).cell 0
                  have l0 := (HB0.out _ HH.out.2.2.2.2.2).lt
                  have hci : i < evN t p := by omega
                  have HSn := Lib.hid (HSe.out cs2 (some ⟨g, oc, none⟩) c3 p i wr (HX0.out.trans HH.out.2.2.2.2.2) (by rw [HH.out.1.len, permF_len]; exact HLen.out) (row_own HH.out.2.2.2.2.1) hci)
                  have hcl : cs2.length = l.length := by rw [HH.out.1.len, permF_len]
                  rw [hcl] at HSn
                  have m2 : (0 : Int) ≤ (i : Int) := by omega
                  have HSf : Hid (sentB t cs2 p i = false → Down (msgs t) (permF l F) (cs2.set p (grt rp i)) ∧ sumC (cs2.set p (grt rp i)) < sumC cs2) := fun h => by
                    obtain ⟨m, bv, hm, hmp, hb, hlt⟩ := sent_false HPd.out (by rw [hcl]; exact HLen.out) h
                    have hst := HH.out.1.step HPa.out (m := m) hm (by rw [hmp]; exact Nat.succ_pos _) (by rw [hmp]; exact hrp) hb hlt
                    rw [hmp] at hst
                    have e : (((p, i + 1) : Nat × Nat).2 : Int) - 1 = (i : Int) := by show ((i + 1 : Nat) : Int) - 1 = _; omega
                    rw [e] at hst
                    have hGr := grt_isG (HPa.out p rp hrp) (show (0 : Int) ≤ (i : Int) by omega)
                    exact ⟨hst, sumC_set ha (asc_nonneg (HPa.out p rp hrp) hGr.1) (by have := hGr.2.1; omega)⟩
                  have HSt1 : Hid (sentB t cs2 p i = true → x = false → ∀ j, j < i + 1 → ∀ a, cs[p]? = some a → (j : Int) < a → sentB t cs p j = true) := fun h hx j hj a' ha' hlt => by
                    obtain ⟨hc1, hc2, hc3⟩ := HH.out.2.1 hx
                    by_cases hji : j = i
                    · subst hji; rw [hc1] at h; exact h
                    · exact hc3 j (by omega) a' ha' hlt
                  have HGc := Lib.hid (fun w' (h : Ex wr w') => hG i w' ((HX0.out.trans HH.out.2.2.2.2.2).trans h))
                  clear hG hrp h0 hv0 ha hia hae hcl
                  generalize sentB t cs2 p i = Bv at *
                  cases Bv with
                  | true =>
                    have HN := Lib.hid (HSt1.out rfl)
                    go_wp2_with fail
                    refine (HSn.out).mono ?_
                    rintro e9 w' ⟨rfl, z, rfl⟩
                    have HXz : Hid (Ex wr (ext wr z)) := ⟨z, rfl⟩
                    go_wp2_with fail
                    refine ⟨⟨i + 1, x, cs2, rfl, by go_num, by omega, Lib.hid ⟨HH.out.1, fun h => ⟨(HH.out.2.1 h).1, (HH.out.2.1 h).2.1, HN.out h⟩, HH.out.2.2.1, HH.out.2.2.2.1.ex HXz.out, HH.out.2.2.2.2.1.ex HXz.out, HH.out.2.2.2.2.2.trans HXz.out⟩⟩, by simp [intOf]; omega⟩
                  | false =>
                    have HN := Lib.hid (HSf.out rfl)
                    go_wp2_with fail
                    refine (HSn.out).mono ?_
                    rintro e9 w' ⟨rfl, z, rfl⟩
                    have hxz : Ex wr (ext wr z) := ⟨z, rfl⟩
                    have z2 := (hxz.below.cell (p := ⟨gA, oA + p, none⟩) hAl).trans z1
                    have l2 := Nat.lt_of_lt_of_le hAl hxz.below.size
                    have HXz := Lib.hid hxz
                    clear hxz
                    go_wp2_with fail
                    refine (HGc.out _ HXz.out).mono ?_
                    rintro e9 w' ⟨rfl, z3, rfl⟩
                    have hxz := HXz.out.ext z3
                    have y1 := (hxz.below.cell (p := ⟨g, oc + p, none⟩) hgl).trans z0
                    have y2 := (HH.out.2.2.2.2.1.ex hxz).frozen (oc + p)
                    have y3 := Nat.lt_of_lt_of_le hgl hxz.below.size
                    have HXy := Lib.hid hxz
                    clear hxz
                    go_wp2_with fail
                    refine ⟨⟨i + 1, true, cs2.set p (grt rp i), rfl, by go_num, by omega, Lib.hid ⟨HN.out.1, fun h => Bool.noConfusion h, fun _ => ?_, (HH.out.2.2.2.1.ex HXy.out).set_ (p := ⟨g, oc + p, none⟩) ?_ _, ?_, (HH.out.2.2.2.2.2.trans HXy.out).setCell (p := ⟨g, oc + p, none⟩) hgb2 _⟩⟩, by simp [intOf]; omega⟩
                    · have hlt := HN.out.2
                      cases x with
                      | false => rw [(HH.out.2.1 rfl).1] at hlt ⊢; exact hlt
                      | true => exact Nat.lt_trans hlt (HH.out.2.2.1 rfl)
                    · rcases (HH.out.2.2.2.1.ex HXy.out).ne2 (HH.out.2.2.2.2.1.ex HXy.out) (by decide) with h | h
                      · rw [h]; simp
                      · simpa [Value.ownBlock] using h
                    · rw [← intsV_set]
                      exact (HH.out.2.2.2.2.1.ex HXy.out).put p _
                · have t1 : decide ((i : Int) < a) = false := decide_eq_false hia
                  go_wp2_with fail
                  refine ⟨⟨p + 1, x, cs2, rfl, by go_num, by omega, Lib.hid ⟨HH.out.1, fun h => ⟨(HH.out.2.1 h).1, fun q j hq hj b hb hlt => ?_⟩, HH.out.2.2.1, HH.out.2.2.2.1, HH.out.2.2.2.2.1, HH.out.2.2.2.2.2⟩⟩, by simp [intOf]; omega⟩
                  obtain ⟨hc1, hc2, hc3⟩ := HH.out.2.1 h
                  by_cases hqp : q = p
                  · subst hqp
                    rw [hc1, hb] at ha
                    cases ha
                    exact hc3 j (by omega) _ hb hlt
                  · exact hc2 q j (by omega) hj b hb hlt
            · obtain rfl : p = l.length := by omega
              have s2 : decide ((l.length : Int) < (l.length : Int)) = false := decide_eq_false (by omega)
              go_wp2_with fail
              go_roundg (2 * sumC cs2 + x.toNat)
              case measure =>
                cases x with
                | false => rw [(HH.out.2.1 rfl).1]; simp only [Bool.toNat_true, Bool.toNat_false] at hgg ⊢; omega
                | true => have := HH.out.2.2.1 rfl; simp only [Bool.toNat_true] at hgg ⊢; omega
              case rel =>
                refine ⟨cs2, x, rfl, Nat.le_refl _, ?_, Lib.hid ⟨HH.out.1, fun h q j hq hj b hb hlt => ?_, HH.out.2.2.2.1, HH.out.2.2.2.2.1, HH.out.2.2.2.2.2⟩⟩
                · cases x with
                  | false => rw [(HH.out.2.1 rfl).1]; simp only [Bool.toNat_true, Bool.toNat_false] at hgb ⊢; omega
                  | true => have := HH.out.2.2.1 rfl; simp only [Bool.toNat_true] at hgb ⊢; omega
                · obtain ⟨hc1, hc2⟩ := HH.out.2.1 h
                  rw [hc1] at hb ⊢
                  exact hc2 q j (by rw [HLen.out]; exact hq) hj b hb hlt
end
section
open Go.RowKit Go.Shelf
set_option maxRecDepth 20000 in
set_option maxHeartbeats 3200000 in
theorem rLine_c (t : List Pr) (A : Option Addr) (c : Nat) (l : List (List Int)) (B : Option Addr) (lc : Nat) (w : World) (hT : TcC w A t) (hs : TSm t) (hV : cpB t l = true) (hL : LlC w B l) (hls : LSm l) :
    Calls Try.prog 24 #[.agg #[.slice A t.length c], .slice B l.length lc] w (RAfterR t l (allF l.length) w) := by
  have hll := hls.rows
  have HAf : Hid (∀ w' FA fc, Ex w w' → Row w' FA (intsV (allF l.length)) → Calls Try.prog 27 #[.agg #[.slice A t.length c], .slice B l.length lc, .slice FA l.length fc] w' (RAfterR t l (allF l.length) w')) := fun w' FA fc h hF => by
    have := rAfter_c t A c l B lc (allF l.length) FA fc w' (hT.ex h) hs hV (hL.ex h) hls hF (by rw [allF_len]; exact hll)
    rw [allF_len] at this
    exact this
  obtain ⟨i0, hi0, hz0, hz1, hz2⟩ := info_parts infoInt
  obtain ⟨W0, hW0⟩ : ∃ W0, W0 = w.alloc (.cells #[.slice A t.length c] 24) := ⟨_, rfl⟩
  have HX0 : Hid (Ex w W0) := by rw [hW0]; exact (Ex.refl w).alloc _
  have HB0 : Hid (∀ w', Ex W0 w' → Blk w' w.heap.size 24 [.slice A t.length c]) := fun w' hx => by
    have : Blk W0 w.heap.size 24 [.slice A t.length c] := by rw [hW0]; exact Blk.new w _ _
    exact this.ex hx
  have HW0 := Lib.hid hW0
  clear hW0 hT hs hV hL hls
  go_enter Try.func24, Try.ntmps24
  go_wp2_with fail
  rw [← HW0.out]
  go_wp2_with fail
  go_loopw [5, 6] (fun v k wr => ∃ (p : Nat) (A2 : Option Addr) (c2 : Nat), v = .slice A2 p c2 ∧ k = .int .i64 p ∧ p ≤ l.length ∧ Hid (OwnO wr W0.heap.size 3 1 (.slice A2 p c2) p (intsV (allF p)) ∧ Ex W0 wr)) (fun _ k _ => l.length - (intOf k).toNat)
  case atStart => exact ⟨0, none, 0, rfl, rfl, Nat.zero_le _, Lib.hid ⟨OwnO.nil _ _ _ _, Ex.refl _⟩⟩
  case round =>
    obtain ⟨p, A2, c2, rfl, rfl, hp, HH⟩ := hrel
    by_cases hpl : p < l.length
    · have m0 : (0 : Int) ≤ (p : Int) := by omega
      have m1 : (p : Int) < (l.length : Int) := by omega
      have HO := Lib.hid (HH.out.1.ex ((Ex.refl _).alloc (.cells #[.int .i64 (p : Nat)] 3)))
      have hbase : W0.heap.size ≤ wr.heap.size := HH.out.2.below.size
      go_wp2_with (at_builtin; refine wpList_append_one _ rfl _ _ 39 rfl W0.heap.size 3 i0 _ 1 8 Try.underlying39 hi0 hz0 hz1 hz2 rfl (.slice A2 p c2) p (intsV (allF p)) rfl HO.out wr.heap.size [.int .i64 (p : Nat)] rfl rfl ?c1 ?c2 ?c3 ?c4 ?c5 ?_)
      case c1 => exact news_new rfl (by simp)
      case c2 => exact one_ints (by simp)
      case c3 => omega
      case c4 => omega
      case c5 => simp; omega
      intro A4 c4 w4 ho hg hat hEx
      have HX4 := Lib.hid (hEx W0 (HH.out.2.alloc _) (Nat.le_refl _))
      have HO4 : Hid (OwnO w4 W0.heap.size 3 1 (.slice A4 (p + 1) c4) (p + 1) (intsV (allF (p + 1)))) := by
        rw [allF_snoc, intsV_snoc]; exact ho
      clear hg hat hEx ho
      go_wp2_with fail
      refine ⟨⟨p + 1, A4, c4, rfl, by go_num, by omega, Lib.hid ⟨HO4.out, HX4.out⟩⟩, by simp [intOf]; omega⟩
    · obtain rfl : p = l.length := by omega
      have s1 : decide ((l.length : Int) < (l.length : Int)) = false := decide_eq_false (by omega)
      have x0 := (HB0.out _ HH.out.2).cell 0
      have l0 := (HB0.out _ HH.out.2).lt
      have hXw := HX0.out.trans HH.out.2
      have HA2 := Lib.hid (HAf.out wr A2 c2 hXw (row_own HH.out.1))
      have HXw := Lib.hid hXw
      clear hXw
      go_wp2_with fail
      refine (HA2.out).mono ?_
      rintro e9 w' ⟨A9, k9, c9, rfl, h1, h2, h3⟩
      have HR : Hid (RAfterR t l (allF l.length) w (.returned (.slice A9 l.length k9)) w') := ⟨A9, k9, c9, rfl, h1, h2.mono HXw.out.below.size, HXw.out.trans h3⟩
      clear h1 h2 h3
      go_wp2_with fail
      go_ret
      exact HR.out
end
end Go.Proofs.Ytdenojfbdkdpiaa
