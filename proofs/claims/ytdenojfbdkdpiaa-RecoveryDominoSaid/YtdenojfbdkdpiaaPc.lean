/-
  The program's Rollback, walked.
  Conditions: as each theorem says.
-/
import Derived.Test.YtdenojfbdkdpiaaYm
namespace Go.Proofs.Ytdenojfbdkdpiaa
open Go.RowKit Go.Shelf
theorem all_good {t : List Pr} {l : List (List Int)} (h : cpB t l = true) (hs : t.length ≤ 1000) : badF l (allF t.length) = false := by
  have hl := (cp_of h).2.1
  unfold badF
  rw [allF_len, decide_eq_false (by omega), Bool.false_or, List.any_eq_false]
  intro n hn
  obtain ⟨p, hp, rfl⟩ := List.mem_map.1 hn
  have := List.mem_range.1 hp
  simp
  omega
/-- a line as a list of the call's own -/
theorem OwnO.line {w : World} {base n k : Nat} {A : Option Addr} {c : List Int} (h : OwnO w base 3 1 (.slice A n k) n (intsV c)) : c.length = n ∧ Row w A (intsV c) := ⟨by have := h.1; simp only [intsV, List.length_map] at this; omega, h.row⟩
/-- events that are lost -/
def rbE (t : List Pr) (c : List Int) : Nat → Int
  | 0 => 0
  | n + 1 => rbE t c n + ((evN t n : Int) - c.getD n 0)
/-- stored checkpoints that are lost -/
def rbK (l : List (List Int)) (c : List Int) : Nat → Nat
  | 0 => 0
  | n + 1 => rbK l c n + (stored (l.getD n [])).countP (fun k => decide (c.getD n 0 < k))
/-- counts within the processes -/
def Inn (t : List Pr) (c : List Int) : Prop := ∀ (p : Nat) (a : Int), c[p]? = some a → 0 ≤ a ∧ a ≤ (evN t p : Int)
theorem getD_at {c : List Int} {p : Nat} {a : Int} (h : c[p]? = some a) : c.getD p 0 = a := by rw [List.getD_eq_getElem?_getD, h]; rfl
theorem rbE_le {t : List Pr} {c : List Int} (hs : TSm t) (hi : Inn t c) : ∀ n, n ≤ c.length → 0 ≤ rbE t c n ∧ rbE t c n ≤ 100000 * (n : Int)
  | 0, _ => by simp [rbE]
  | n + 1, h => by
    obtain ⟨a, ha⟩ := get_at (show n < c.length by omega)
    have := rbE_le hs hi n (by omega)
    have h2 := hi n a ha
    have h3 := evN_le hs n
    unfold rbE
    rw [getD_at ha]
    omega
theorem rbK_le {l : List (List Int)} {c : List Int} (hls : LSm l) : ∀ n, rbK l c n ≤ 100000 * n
  | 0 => by simp [rbK]
  | n + 1 => by
    have := rbK_le (c := c) hls n
    have h2 : (stored (l.getD n [])).countP (fun k => decide (c.getD n 0 < k)) ≤ 100000 := by
      refine Nat.le_trans List.countP_le_length ?_
      unfold stored
      rw [List.length_take]
      have h3 : (l.getD n []).length ≤ 100000 := by
        rw [List.getD_eq_getElem?_getD]
        cases h : l[n]? with
        | none => simp
        | some r => exact hls.each r (List.mem_of_getElem? h)
      omega
    unfold rbK
    omega
theorem top_inn {t : List Pr} {l : List (List Int)} {F : List Int} {c : List Int} (hc : cpP t l) (h : IsLine (msgs t) (permF l F) c) : Inn t c := fun p a ha => by
  obtain ⟨r, hr⟩ := get_at (show p < (permF l F).length by rw [← h.len]; exact (List.getElem?_eq_some_iff.1 ha).1)
  have hm := h.mem p r a hr ha
  exact ⟨asc_nonneg (permF_asc (cp_asc hc) p r hr) hm, permF_le hc hr hm⟩
theorem results_t3 {fn : Func} {p q s : Nat} {u v x : Value} {w : World} {tmps : Array Value} (hr : fn.results = #[.tmp p, .tmp q, .tmp s]) (hp : tmps.getD p undef = u) (hq : tmps.getD q undef = v) (hs : tmps.getD s undef = x) :
    (results fn tmps).run Try.prog w = .ok (.tuple #[u, v, x]) w := by
  rw [Array.getD_eq_getD_getElem?] at hp hq hs
  simp [results, hr, hp, hq, hs, go_sem]
/-- what Rollback hands back -/
def RbR (t : List Pr) (l : List (List Int)) (w : World) (e : Ending) (w' : World) : Prop :=
  (cpB t l = false ∧ e = .returned (.tuple #[.int .i64 0, .int .i64 0, .int .i64 1]) ∧ Ex w w') ∨
  (cpB t l = true ∧ ∃ c, IsTop (msgs t) (permF l (allF t.length)) c ∧ e = .returned (.tuple #[.int .i64 (rbE t c l.length), .int .i64 (rbK l c l.length : Nat), .int .i64 0]) ∧ Ex w w')
set_option maxRecDepth 100000 in
set_option maxHeartbeats 3200000 in
theorem pRollback_c (t : List Pr) (A : Option Addr) (c : Nat) (l : List (List Int)) (B : Option Addr) (lc : Nat) (w : World) (hT : TcC w A t) (hs : TSm t) (hcap : t.length ≤ c) (hL : LlC w B l) (hls : LSm l) (h10 : t.length ≤ 1000) :
    Calls Try.prog 33 #[.agg #[.slice A t.length c], .slice B l.length lc] w (RbR t l w) := by
  have HLn := Lib.hid (fun w' (h : Ex w w') => pLineA_c t A c l B lc w' (hT.ex h) hs hcap (hL.ex h) hls)
  have HT : Hid (∀ w', Ex w w' → TcC w' A t) := fun w' hx => hT.ex hx
  have HL : Hid (∀ w', Ex w w' → LlC w' B l) := fun w' hx => hL.ex hx
  have HEl : Hid (∀ (p : Nat) (x : Pr), t[p]? = some x → x.evs.length ≤ 100000) := fun p x hx => (hs.each x (List.mem_of_getElem? hx)).2.2.1
  obtain ⟨W0, hW0⟩ : ∃ W0, W0 = w.alloc (.cells #[.slice A t.length c] 24) := ⟨_, rfl⟩
  have HX0 : Hid (Ex w W0) := by rw [hW0]; exact (Ex.refl w).alloc _
  have HB0 : Hid (∀ w', Ex W0 w' → Blk w' w.heap.size 24 [.slice A t.length c]) := fun w' hx => by
    have : Blk W0 w.heap.size 24 [.slice A t.length c] := by rw [hW0]; exact Blk.new w _ _
    exact this.ex hx
  have HW0 := Lib.hid hW0
  have x0 := (HB0.out _ (Ex.refl _)).cell 0
  have xl := (HB0.out _ (Ex.refl _)).lt
  unfold RbR
  cases hv : cpB t l with
  | false =>
    clear hW0 hT hcap hL hs hls
    go_enter Try.func33, Try.ntmps33
    go_wp2_with fail
    rw [← HW0.out]
    go_wp2_with fail
    refine (HLn.out _ HX0.out).mono ?_
    rintro e9 w1 h1
    obtain ⟨rfl, hx1⟩ : e9 = .returned (.tuple #[.slice none 0 0, .int .i64 1]) ∧ Ex W0 w1 := by
      rcases h1 with ⟨-, h, h'⟩ | ⟨h, -⟩ | ⟨h, -⟩
      · exact ⟨h, h'⟩
      · rw [hv] at h; cases h
      · rw [hv] at h; cases h
    have HX1 := Lib.hid (HX0.out.trans hx1)
    clear h1 hx1 x0 xl
    go_wp2_with fail
    exact bodyPost_ret (results_t3 rfl rfl rfl rfl) rfl (.inl ⟨by first | rfl | trivial, rfl, HX1.out⟩)
  | true =>
    have hcp := (cp_of hv).2
    have hlt : l.length ≤ t.length := Nat.le_of_eq hcp.1
    have HAg : Hid (badF l (allF t.length) = false) := all_good hv h10
    have HAsc := Lib.hid (cp_asc hcp)
    have HRl : Hid (∀ (p : Nat) (r : List Int), l[p]? = some r → r.length ≤ 100000) := fun p r hr => hls.each r (List.mem_of_getElem? hr)
    have HEb := Lib.hid (fun (cs : List Int) (hi : Inn t cs) n (h : n ≤ cs.length) => rbE_le hs hi n h)
    have HKb := Lib.hid (fun (cs : List Int) n => rbK_le (c := cs) hls n)
    have HTi := Lib.hid (fun (cs : List Int) (h : IsLine (msgs t) (permF l (allF t.length)) cs) => top_inn hcp h)
    clear hW0 hT hcap hL hs hls hcp
    go_enter Try.func33, Try.ntmps33
    go_wp2_with fail
    rw [← HW0.out]
    go_wp2_with fail
    refine (HLn.out _ HX0.out).mono ?_
    rintro e9 w1 h1
    obtain ⟨CA, ck, cs, rfl, ht1, ho1, hx1⟩ : ∃ A1 k1 c1, e9 = .returned (.tuple #[.slice A1 l.length k1, .int .i64 0]) ∧ IsTop (msgs t) (permF l (allF t.length)) c1 ∧ OwnO w1 W0.heap.size 3 1 (.slice A1 l.length k1) l.length (intsV c1) ∧ Ex W0 w1 := by
      rcases h1 with ⟨h, -⟩ | ⟨-, h, -⟩ | ⟨-, -, h⟩
      · rw [hv] at h; cases h
      · rw [HAg.out] at h; cases h
      · exact h
    have hcl : l.length ≤ cs.length := Nat.le_of_eq ho1.line.1.symm
    have HRow := Lib.hid ho1.line.2
    have HIn := Lib.hid (HTi.out cs ht1.line)
    have HTop := Lib.hid ht1
    have HX1 := Lib.hid hx1
    have HE := Lib.hid (HEb.out cs HIn.out)
    have HK := Lib.hid (HKb.out cs)
    clear h1 hx1 x0 xl ht1 ho1
    go_wp2_with fail
    go_loopw [4, 5, 23] (fun ev kv q wr => ∃ p : Nat, q = .int .i64 p ∧ p ≤ l.length ∧ ev = .int .i64 (rbE t cs p) ∧ kv = .int .i64 (rbK l cs p : Nat) ∧ Hid (Ex w1 wr)) (fun _ _ q _ => l.length - (intOf q).toNat)
    case atStart => exact ⟨0, rfl, Nat.zero_le _, rfl, rfl, Lib.hid (Ex.refl _)⟩
    case round =>
      obtain ⟨p, rfl, hp, rfl, rfl, HH⟩ := hrel
      by_cases hpl : p < l.length
      · have m0 : (0 : Int) ≤ (p : Int) := by omega
        have m1 : (p : Int) < (l.length : Int) := by omega
        have m2 : (p : Int) < (t.length : Int) := by omega
        obtain ⟨x, hx⟩ := get_at (show p < t.length by omega)
        obtain ⟨r, hr⟩ := get_at hpl
        obtain ⟨a, ha⟩ := get_at (show p < cs.length by omega)
        have hel := HEl.out p x hx
        have hrl := HRl.out p r hr
        have hrp := asc_pos (HAsc.out p r hr)
        have hev := evN_at hx
        have hia := HIn.out p a ha
        rw [hev] at hia
        have hE1 := HE.out p (by omega)
        have hK1 := HK.out p
        have HNe : Hid (rbE t cs (p + 1) = rbE t cs p + ((x.evs.length : Int) - a)) := by
          show Hid (rbE t cs p + ((evN t p : Int) - cs.getD p 0) = _)
          rw [getD_at ha, hev]
          exact Lib.hid rfl
        have HNk : Hid (rbK l cs (p + 1) = rbK l cs p + (stored r).countP (fun k => decide (a < k))) := by
          show Hid (rbK l cs p + (stored (l.getD p [])).countP (fun k => decide (cs.getD p 0 < k)) = _)
          rw [getD_at ha, List.getD_eq_getElem?_getD, hr]
          exact Lib.hid rfl
        have hXw := HX0.out.trans (HX1.out.trans HH.out)
        obtain ⟨b, o, hA, hbl, V, vc, E, ec, k0, k1, k2, -, -⟩ := HT.out _ hXw p x hx
        subst hA
        obtain ⟨bb, oo, hBB, hbb, A7, c7, r0, hc7, hrow⟩ := HL.out _ hXw p r hr
        subst hBB
        obtain ⟨bc, oc, hCC, hbc, hcs⟩ := row_at (HRow.out.ex HH.out) (fun h => by rw [h] at ha; simp at ha)
        subst hCC
        have d0 := hcs p a ha
        have x0 := (HB0.out _ (HX1.out.trans HH.out)).cell 0
        have xl := (HB0.out _ (HX1.out.trans HH.out)).lt
        have HSt := Lib.hid (fun w' => pStored_c r A7 c7 w' (fun h => by rw [h] at hrp; exact absurd hrp (Nat.lt_irrefl _)) hc7 hrl)
        have HRow2 := Lib.hid (row_stored hrow)
        have hsl : (stored r).length ≤ 100000 := by unfold stored; rw [List.length_take]; omega
        have HCa : Hid (∀ w', Ex w1 w' → w'.cell? ⟨bc, oc + p, none⟩ = some (.int .i64 a) ∧ bc < w'.heap.size) := fun w' h => by
          obtain ⟨b9, o9, h9, hb9, hcs9⟩ := row_at (HRow.out.ex h) (fun h => by rw [h] at ha; simp at ha)
          cases h9
          exact ⟨hcs9 p a ha, hb9⟩
        generalize rbE t cs p = Ev at *
        generalize rbK l cs p = Kv at *
        have wE1 : IntKind.i64.wrap ((x.evs.length : Int) - a) = (x.evs.length : Int) - a := IntWalk.i64_in _ (by omega)
        have wE2 : IntKind.i64.wrap (Ev + ((x.evs.length : Int) - a)) = Ev + ((x.evs.length : Int) - a) := IntWalk.i64_in _ (by omega)
        clear hx hr ha hcs hrow k0 k1 hev hXw
        go_wp2_with fail
        go_quiet (fail)
        go_wp2_with fail
        refine (HSt.out _).mono ?_
        rintro e9 w2 ⟨rfl, hx2⟩
        have HX2 := Lib.hid (HH.out.trans (((Ex.refl _).drewN _).trans hx2))
        have HRow3 := Lib.hid (HRow2.out.ex (((Ex.refl _).drewN _).trans hx2))
        clear hx2 d0 x0 xl r0 hbb k2 hbl hbc
        generalize stored r = sr at *
        go_wp2_with fail
        go_loopw [5, 45] (fun kv q w3 => ∃ i : Nat, q = .int .i64 i ∧ i ≤ sr.length ∧ kv = .int .i64 ((Kv + (sr.take i).countP (fun k => decide (a < k)) : Nat) : Int) ∧ Hid (Ex w2 w3)) (fun _ q _ => sr.length - (intOf q).toNat)
        case atStart => exact ⟨0, rfl, Nat.zero_le _, by simp, Lib.hid (Ex.refl _)⟩
        case round =>
          obtain ⟨i, rfl, hi, rfl, HJ⟩ := hrel
          by_cases hil : i < sr.length
          · have n0 : (0 : Int) ≤ (i : Int) := by omega
            have n1 : (i : Int) < (sr.length : Int) := by omega
            obtain ⟨k, hk⟩ := get_at hil
            obtain ⟨bs, os, hA7, hbs, hss⟩ := row_at (HRow3.out.ex HJ.out) (fun h => by rw [h] at hil; exact absurd hil (Nat.not_lt_zero _))
            subst hA7
            have d1 := hss i k hk
            obtain ⟨d0, hbc⟩ := HCa.out _ (HX2.out.trans HJ.out)
            have HTk := Lib.hid (take_snoc hk)
            have hcl2 : (sr.take i).countP (fun k => decide (a < k)) ≤ 100000 := Nat.le_trans List.countP_le_length (by rw [List.length_take]; omega)
            clear hss hk
            by_cases h1 : a < k
            · have s1 : decide (a < k) = true := decide_eq_true h1
              have HN : Hid ((sr.take (i + 1)).countP (fun k => decide (a < k)) = (sr.take i).countP (fun k => decide (a < k)) + 1) := by
                rw [HTk.out, List.countP_append]
                exact Lib.hid (by simp [s1])
              generalize (sr.take i).countP (fun k => decide (a < k)) = cn at *
              have wK : IntKind.i64.wrap (((Kv + cn : Nat) : Int) + 1) = ((Kv + (cn + 1) : Nat) : Int) := by rw [IntWalk.i64_in _ (by omega)]; omega
              have wK2 : IntKind.i64.wrap ((Kv : Int) + (cn : Int) + 1) = ((Kv + (cn + 1) : Nat) : Int) := by rw [IntWalk.i64_in _ (by omega)]; omega
              clear h1
              go_wp2_with fail
              refine ⟨⟨i + 1, by go_num, by omega, by rw [HN.out] <;> first | rfl | simp, HJ⟩, by simp [intOf]; omega⟩
            · have s1 : decide (a < k) = false := decide_eq_false h1
              have HN : Hid ((sr.take (i + 1)).countP (fun k => decide (a < k)) = (sr.take i).countP (fun k => decide (a < k))) := by
                rw [HTk.out, List.countP_append]
                exact Lib.hid (by simp [s1])
              generalize (sr.take i).countP (fun k => decide (a < k)) = cn at *
              clear h1
              go_wp2_with fail
              refine ⟨⟨i + 1, by go_num, by omega, by rw [HN.out] <;> first | rfl | simp, HJ⟩, by simp [intOf]; omega⟩
          · obtain rfl : i = sr.length := by omega
            have s1 : decide ((sr.length : Int) < (sr.length : Int)) = false := decide_eq_false (by omega)
            have HN : Hid ((sr.take sr.length).countP (fun k => decide (a < k)) = sr.countP (fun k => decide (a < k))) := by rw [List.take_length]; exact Lib.hid rfl
            go_wp2_with fail
            refine ⟨⟨p + 1, by go_num, by omega, by rw [HNe.out], by rw [HNk.out, ← HN.out] <;> first | rfl | simp, Lib.hid (HX2.out.trans HJ.out)⟩, by simp [intOf]; omega⟩
      · obtain rfl : p = l.length := by omega
        have s1 : decide ((l.length : Int) < (l.length : Int)) = false := decide_eq_false (by omega)
        go_wp2_with fail
        exact bodyPost_ret (results_t3 rfl rfl rfl rfl) rfl (.inr ⟨by first | rfl | trivial, cs, HTop.out, rfl, HX0.out.trans (HX1.out.trans HH.out)⟩)
end Go.Proofs.Ytdenojfbdkdpiaa
