/-
  The greatest consistent cut within counts: Open; and the law's line.
  Conditions: as each theorem says.
-/
import Derived.Test.YtdenojfbdkdpiaaRo
namespace Go.Proofs.Ytdenojfbdkdpiaa
open Go.RowKit Go.Shelf
theorem enters_o1 : ∀ args w, (callFunc 79 args).run Try.prog w = .ok (.enter 79 args) w := enters_of Try.func79 (by kernel_rfl) rfl
set_option maxRecDepth 20000 in
set_option maxHeartbeats 1600000 in
theorem open1_c (cs : List Int) (D : Option Addr) (k L base : Nat) (m : Msg) (w0 w : World) (hO : OwnO w base 3 1 (.slice D L k) L (intsV cs)) (hl : m.2.1 < L) (hm : m.2.2 ≤ 1000000) (h1 : 1 ≤ m.2.2) (hx0 : Ex w0 w) (hb : w0.heap.size ≤ base) :
    Calls Try.prog 79 #[.slice D L k, idV m.1, idV m.2] w (fun e w' => e = .returned (.tuple #[]) ∧ OwnO w' base 3 1 (.slice D L k) L (intsV (cs.set m.2.1 ((m.2.2 : Int) - 1))) ∧ Ex w0 w') := by
  obtain ⟨⟨s1, s2⟩, ⟨q1, q2⟩⟩ := m
  dsimp only at *
  have hlen : cs.length = L := by have := hO.1; simpa [intsV] using this
  obtain ⟨a, ha⟩ := get_at (show q1 < cs.length by omega)
  obtain ⟨g, o, cap, he, hn, hm', hgb, hgl, hcs⟩ := hO.open_ (by omega)
  cases he
  have d0 := hcs _ _ (intsV_get ha)
  have f0 := hO.frozen (o + q1)
  have HO := Lib.hid hO
  have HX := Lib.hid hx0
  have w1 : IntKind.i64.wrap ((q2 : Int) - 1) = (q2 : Int) - 1 := IntWalk.i64_in _ (by omega)
  have n0 : (0 : Int) ≤ (q1 : Int) := by omega
  have n1 : (q1 : Int) < (L : Int) := by omega
  have hne : w.heap.size ≠ g ∧ w.heap.size + 1 ≠ g := by omega
  unfold idV
  clear hcs ha hlen hO hx0 hn hm'
  go_enter Try.func79, Try.ntmps79
  go_wp2_with fail
  refine bodyPost_end (results_none rfl _ _ _) rfl ?_
  refine ⟨rfl, ?_, ?_⟩
  · rw [← intsV_set]
    exact ((HO.out.put q1 _).ex ((Ex.refl _).alloc _)).ex ((Ex.refl _).alloc _)
  · exact ((HX.out.setCell (p := ⟨g, o + q1, none⟩) (by show _ ≤ g; omega) _).alloc _).alloc _
/-- what Open hands back -/
def OpenR (t : List Pr) (L : Nat) (w : World) (e : Ending) (w' : World) : Prop :=
  ∃ D k ds, e = .returned (.tuple #[.slice D L k, .int .i64 0]) ∧ ds.length = t.length ∧ rngP t ds ∧ Closed (msgs t) ds ∧ OwnO w' w.heap.size 3 1 (.slice D L k) L (intsV ds) ∧ Ex w w'
theorem rng_set {t : List Pr} {cs : List Int} (h : rngP t cs) {q : Nat} {a v : Int} (ha : cs[q]? = some a) (h0 : 0 ≤ v) (h1 : v ≤ a) : rngP t (cs.set q v) := fun p b hb => by
  rw [List.getElem?_set] at hb
  by_cases hq : q = p
  · subst hq
    rw [if_pos rfl] at hb
    split at hb
    · cases hb
      have := h q a ha
      omega
    · cases hb
  · rw [if_neg hq] at hb
    exact h p b hb
set_option maxRecDepth 20000 in
set_option maxHeartbeats 3200000 in
theorem repaired_c (t : List Pr) (A : Option Addr) (c : Nat) (cs : List Int) (C : Option Addr) (cc L : Nat) (w : World) (hT : TcC w A t) (hs : TSm t) (hcap : t.length ≤ c) (hv : validB t = true) (hl : cs.length = t.length) (hL : cs.length = L) (hr : rngP t cs) (hC : Row w C (intsV cs)) :
    Calls Try.prog 78 #[.agg #[.slice A t.length c], .slice C L cc, .func (.func 79) #[] #[]] w (OpenR t L w) := by
  have htl := hs.procs
  have hLt : L ≤ 100000 := by omega
  have hP : Paired t := paired_of (fault_zero (of_decide_eq_true hv)).2.2.2.1
  have HS := Lib.hid (fun nb w' (h : Ex w w') (hb : Blk w' nb 39 [.slice C L cc]) => sizedT_c t A c C cc L nb w' (hT.ex h) hs hcap hv (hl.symm.trans hL) hb)
  have HR := Lib.hid (fun w' (h : Ex w w') => inRangeT_c t A c cs C cc L w' (hT.ex h) hs hl hL hr (hC.ex h))
  have HCl := Lib.hid (fun w' (h : Ex w w') => cloneI_c cs C cc L w' (hC.ex h) hL (by omega))
  have HMi := Lib.hid (fun (ds : List Int) D k w' (h : Ex w w') (h1 : ds.length = t.length) (h2 : rngP t ds) (h3 : Row w' D (intsV ds)) => miss_c t A c ds D k L w' (hT.ex h) hs hcap hv h1 (h1.trans (hl.symm.trans hL)) h2 h3)
  have HOp := Lib.hid (fun (ds : List Int) D k base m w0 w' (hO : OwnO w' base 3 1 (.slice D L k) L (intsV ds)) (h1 : m.2.1 < L) (h2 : m.2.2 ≤ 1000000) (h3 : 1 ≤ m.2.2) (h4 : Ex w0 w') (h5 : w0.heap.size ≤ base) => open1_c ds D k L base m w0 w' hO h1 h2 h3 h4 h5)
  have HIn : Hid (∀ m, m ∈ msgs t → m.2.1 < L ∧ m.2.2 ≤ 1000000) := fun m hm => by
    obtain ⟨-, h2⟩ := rcv_mem hP hm
    have a2 := in_proc h2
    have a4 := h2.2
    have b2 := evN_le hs m.2.1
    exact ⟨by omega, by omega⟩
  have HRg := Lib.hid hr
  have HLn := Lib.hid hl
  have HSt : Hid (∀ (ds : List Int) (m : Msg) a, rngP t ds → ds[m.2.1]? = some a → (m.2.2 : Int) ≤ a → 1 ≤ m.2.2 → rngP t (ds.set m.2.1 ((m.2.2 : Int) - 1)) ∧ sumC (ds.set m.2.1 ((m.2.2 : Int) - 1)) < sumC ds) := fun ds m a h1 h2 h3 h4 => ⟨rng_set h1 h2 (by omega) (by omega), sumC_set h2 (by omega) (by omega)⟩
  obtain ⟨W0, hW0⟩ : ∃ W0, W0 = w.alloc (.cells #[.slice A t.length c] 24) := ⟨_, rfl⟩
  have HX0 : Hid (Ex w W0) := by rw [hW0]; exact (Ex.refl w).alloc _
  have HB0 : Hid (∀ w', Ex W0 w' → Blk w' w.heap.size 24 [.slice A t.length c]) := fun w' hx => by
    have : Blk W0 w.heap.size 24 [.slice A t.length c] := by rw [hW0]; exact Blk.new w _ _
    exact this.ex hx
  have HW0 := Lib.hid hW0
  have x0 := (HB0.out _ (Ex.refl _)).cell 0
  have xl := (HB0.out _ (Ex.refl _)).lt
  have hcall := enters_o1
  have HXn : Hid (Ex W0 (W0.alloc (.cells #[.slice C L cc] 39))) := (Ex.refl _).alloc _
  have HBn : Hid (Blk (W0.alloc (.cells #[.slice C L cc] 39)) (w.heap.size + 1) 39 [.slice C L cc]) := by
    rw [show w.heap.size + 1 = W0.heap.size by rw [HW0.out]; simp]
    exact Blk.new _ _ _
  unfold OpenR
  unfold MissR at HMi
  clear hW0 hT hs hcap hv hl hL hr hC hP
  go_enter Try.func78, Try.ntmps78
  go_wp2_with fail
  rw [← HW0.out]
  go_wp2_with fail
  refine (HS.out _ _ (HX0.out.trans HXn.out) HBn.out).mono ?_
  rintro e9 w1 ⟨rfl, hx1⟩
  have HX1 := Lib.hid (HXn.out.trans hx1)
  clear hx1 x0 xl
  have x0 := (HB0.out _ HX1.out).cell 0
  have xl := (HB0.out _ HX1.out).lt
  go_wp2_with fail
  refine (HR.out _ (HX0.out.trans HX1.out)).mono ?_
  rintro e9 w2 ⟨rfl, hx2⟩
  have HX2 := Lib.hid (HX1.out.trans hx2)
  clear hx2 x0 xl
  go_wp2_with fail
  refine (HCl.out _ (HX0.out.trans HX2.out)).mono ?_
  rintro e9 w3 ⟨D, k, rfl, hO3, hx3⟩
  have HX3 := Lib.hid (HX2.out.trans hx3)
  have HO3 := Lib.hid (hO3.mono HX2.out.below.size)
  clear hO3 hx3
  go_wp2_with fail
  go_loopg [25] (sumC cs) (fun gg _ wr => ∃ ds : List Int, sumC ds ≤ gg ∧ sumC ds ≤ sumC cs ∧ Hid (ds.length = t.length ∧ rngP t ds ∧ OwnO wr W0.heap.size 3 1 (.slice D L k) L (intsV ds) ∧ Ex W0 wr))
  case atStart => exact ⟨cs, Nat.le_refl _, Nat.le_refl _, Lib.hid ⟨HLn.out, HRg.out, HO3.out, HX3.out⟩⟩
  case round =>
    obtain ⟨ds, hgg, hgb, HH⟩ := hrel
    have x0 := (HB0.out _ HH.out.2.2.2).cell 0
    have xl := (HB0.out _ HH.out.2.2.2).lt
    have HM1 := Lib.hid (HMi.out ds D k _ (HX0.out.trans HH.out.2.2.2) HH.out.1 HH.out.2.1 HH.out.2.2.1.row)
    go_wp2_with fail
    refine (HM1.out).mono ?_
    rintro e9 w4 ⟨hx4, ⟨hc, rfl⟩ | ⟨m, a, hm, ha, hle, hm1, -, rfl⟩⟩
    · have HE := Lib.hid (HX0.out.trans (HH.out.2.2.2.trans hx4))
      have HOe := Lib.hid ((HH.out.2.2.1.ex hx4).mono HX0.out.below.size)
      have HC := Lib.hid hc
      clear x0 xl hx4 hc
      go_wp2_with fail
      refine bodyPost_ret (results_tt rfl rfl rfl) rfl ?_
      exact ⟨D, k, ds, rfl, HH.out.1, HH.out.2.1, HC.out, (HOe.out.ex ((Ex.refl _).alloc _)).ex ((Ex.refl _).alloc _), (HE.out.alloc _).alloc _⟩
    · obtain ⟨h1, h2⟩ := HSt.out ds m a HH.out.2.1 ha hle hm1
      have hin := HIn.out m hm
      have HN := Lib.hid (And.intro h1 h2)
      have HX4 := Lib.hid (HH.out.2.2.2.trans hx4)
      have HO4 := Lib.hid (HH.out.2.2.1.ex hx4)
      clear x0 xl hx4 hm ha hle h1 h2
      unfold idV at *
      obtain ⟨⟨s1, s2⟩, ⟨q1, q2⟩⟩ := m
      dsimp only at *
      go_wp2_with fail
      have hX5 : Ex W0 ((w4.alloc (.cells #[.int .i64 (s1 : Nat), .int .i64 (s2 : Nat)] 27)).alloc (.cells #[.int .i64 (q1 : Nat), .int .i64 (q2 : Nat)] 27)) := (HX4.out.alloc _).alloc _
      have hO5 := (HO4.out.ex ((Ex.refl _).alloc (.cells #[.int .i64 (s1 : Nat), .int .i64 (s2 : Nat)] 27))).ex ((Ex.refl _).alloc (.cells #[.int .i64 (q1 : Nat), .int .i64 (q2 : Nat)] 27))
      have HC5 := Lib.hid (HOp.out ds D k W0.heap.size ((s1, s2), (q1, q2)) W0 _ hO5 hin.1 hin.2 hm1 hX5 (Nat.le_refl _))
      clear hO5 hX5
      dsimp only [idV] at HC5
      go_at_fn 79
      refine (HC5.out).mono ?_
      rintro e9 w6 ⟨rfl, hO6, hx6⟩
      have HO6 := Lib.hid hO6
      have HX6 := Lib.hid hx6
      clear hO6 hx6
      go_wp2_with fail
      go_roundg (sumC (ds.set q1 ((q2 : Int) - 1)))
      case measure => have := HN.out.2; omega
      case rel => exact ⟨ds.set q1 ((q2 : Int) - 1), Nat.le_refl _, by have := HN.out.2; omega, Lib.hid ⟨by rw [List.length_set]; exact HH.out.1, HN.out.1, HO6.out, HX6.out⟩⟩
theorem open_c (t : List Pr) (A : Option Addr) (c : Nat) (cs : List Int) (C : Option Addr) (cc L : Nat) (w : World) (hT : TcC w A t) (hs : TSm t) (hcap : t.length ≤ c) (hv : validB t = true) (hl : cs.length = t.length) (hL : cs.length = L) (hr : rngP t cs) (hC : Row w C (intsV cs)) :
    Calls Try.prog 46 #[.agg #[.slice A t.length c], .slice C L cc] w (OpenR t L w) := by
  have HR := Lib.hid (fun w' (h : Ex w w') => repaired_c t A c cs C cc L w' (hT.ex h) hs hcap hv hl hL hr (hC.ex h))
  have HX0 : Hid (Ex w (w.alloc (.cells #[.slice A t.length c] 24))) := (Ex.refl w).alloc _
  unfold OpenR at *
  clear hT hs hcap hv hl hL hr hC
  go_enter Try.func46, Try.ntmps46
  go_wp2_with fail
  refine (HR.out _ HX0.out).mono ?_
  rintro e9 w1 ⟨D, k, ds, rfl, h1, h2, h3, h4, hx1⟩
  have HA := Lib.hid (And.intro h1 (And.intro h2 (And.intro h3 (And.intro h4 hx1))))
  clear h1 h2 h3 h4 hx1
  go_wp2_with fail
  refine bodyPost_ret (results_tt rfl rfl rfl) rfl ?_
  exact ⟨D, k, ds, rfl, HA.out.1, HA.out.2.1, HA.out.2.2.1, HA.out.2.2.2.1.mono HX0.out.below.size, HX0.out.trans HA.out.2.2.2.2⟩
open Classical in
/-- the counts are a line of permitted states -/
noncomputable def linB (t : List Pr) (l : List (List Int)) (F cs : List Int) : Bool := decide (IsLine (msgs t) (permF l F) cs)
theorem linB_iff {t : List Pr} {l : List (List Int)} {F cs : List Int} : linB t l F cs = true ↔ IsLine (msgs t) (permF l F) cs := by unfold linB; exact @decide_eq_true_iff _ (Classical.propDecidable _)
theorem lin_false {t : List Pr} {l : List (List Int)} {F cs : List Int} (h : ¬ IsLine (msgs t) (permF l F) cs) : linB t l F cs = false := by unfold linB; exact @decide_eq_false _ (Classical.propDecidable _) h
theorem lin_con {t : List Pr} {l : List (List Int)} {F cs : List Int} (hv : cpB t l = true) (h : IsLine (msgs t) (permF l F) cs) : conB t cs = true := by
  have hc := cp_of hv
  refine conB_iff.2 ⟨hc.1, by rw [h.len, permF_len, hc.2.1], fun p a ha => ?_, h.closed⟩
  obtain ⟨r, hr⟩ := get_at (show p < (permF l F).length by rw [← h.len]; exact (List.getElem?_eq_some_iff.1 ha).1)
  have hm := h.mem p r a hr ha
  exact ⟨asc_nonneg (permF_asc (cp_asc hc.2) p r hr) hm, permF_le hc.2 hr hm⟩
theorem lin_at {t : List Pr} {l : List (List Int)} {F cs : List Int} (h : IsLine (msgs t) (permF l F) cs) {p : Nat} {r : List Int} {a : Int} (hr : l[p]? = some r) (ha : cs[p]? = some a) : a ∈ r ∧ ((p : Int) ∈ F → a ∈ stored r) := by
  have hm := h.mem p _ a (permF_get hr) ha
  by_cases hp : (p : Int) ∈ F
  · rw [if_pos hp] at hm
    exact ⟨stored_sub hm, fun _ => hm⟩
  · rw [if_neg hp] at hm
    exact ⟨hm, fun h => absurd h hp⟩
theorem lin_of {t : List Pr} {l : List (List Int)} {F cs : List Int} (hv : cpB t l = true) (hc : conB t cs = true) (h : ∀ (p : Nat) (r : List Int) (a : Int), p < cs.length → l[p]? = some r → cs[p]? = some a → a ∈ r ∧ ((p : Int) ∈ F → a ∈ stored r)) : IsLine (msgs t) (permF l F) cs := by
  obtain ⟨-, hl, -, hcl⟩ := conB_iff.1 hc
  have hlt := (cp_of hv).2.1
  refine ⟨by rw [hl, permF_len, hlt], fun p r a hr ha => ?_, hcl⟩
  have hpc := (List.getElem?_eq_some_iff.1 ha).1
  obtain ⟨r0, h0⟩ := get_at (show p < l.length by omega)
  rw [permF_get h0] at hr
  cases hr
  obtain ⟨h1, h2⟩ := h p r0 a hpc h0 ha
  by_cases hp : (p : Int) ∈ F
  · rw [if_pos hp]; exact h2 hp
  · rw [if_neg hp]; exact h1
set_option maxRecDepth 20000 in
set_option maxHeartbeats 3200000 in
theorem line_c (t : List Pr) (A : Option Addr) (c : Nat) (l : List (List Int)) (B : Option Addr) (lc : Nat) (F : List Int) (FA : Option Addr) (fc : Nat) (cs : List Int) (C : Option Addr) (cc L : Nat) (w : World) (hT : TcC w A t) (hs : TSm t) (hv : cpB t l = true) (hL : LlC w B l) (hls : LSm l) (hF : Row w FA (intsV F)) (hfl : F.length ≤ 100000) (hC : Row w C (intsV cs)) (hLn : cs.length = L) (hcl : L ≤ 100000) :
    Calls Try.prog 42 #[.agg #[.slice A t.length c], .slice B l.length lc, .slice FA F.length fc, .slice C L cc] w (Ret w (.bool (linB t l F cs))) := by
  subst hLn
  have HCn := Lib.hid (fun w' (h : Ex w w') => rCons_c t A c cs C cc w' (hT.ex h) hs (hC.ex h))
  have HCt := Lib.hid (fun (r : List Int) A7 c7 n w' (x : Int) (hr : Row w' A7 (intsV r)) (hn : r.length = n) (h1 : n ≤ 1000000) => containsI_c r A7 c7 n x w' hr hn h1)
  have HFr := Lib.hid (fun w' (h : Ex w w') => hF.ex h)
  have HC := Lib.hid (fun w' (h : Ex w w') => hC.ex h)
  have HL := Lib.hid (fun w' (h : Ex w w') => hL.ex h)
  have HRl : Hid (∀ (p : Nat) (r : List Int), l[p]? = some r → r.length ≤ 100000) := fun p r hr => hls.each r (List.mem_of_getElem? hr)
  have HAs := Lib.hid (cp_asc (cp_of hv).2)
  have hcll : conB t cs = true → cs.length ≤ l.length := fun h => by
    have h1 := (conB_iff.1 h).2.1
    have h2 := (cp_of hv).2.1
    omega
  have HCll := Lib.hid hcll
  have HNo : Hid (conB t cs = false → linB t l F cs = false) := fun h => lin_false fun hl => by rw [lin_con hv hl] at h; cases h
  have HNp : Hid (∀ (p : Nat) (r : List Int) (a : Int), l[p]? = some r → cs[p]? = some a → ¬ (a ∈ r ∧ ((p : Int) ∈ F → a ∈ stored r)) → linB t l F cs = false) := fun p r a hr ha hn => lin_false fun hl => hn (lin_at hl hr ha)
  have HYes : Hid (conB t cs = true → (∀ (p : Nat) (r : List Int) (a : Int), p < cs.length → l[p]? = some r → cs[p]? = some a → a ∈ r ∧ ((p : Int) ∈ F → a ∈ stored r)) → linB t l F cs = true) := fun hc h => linB_iff.2 (lin_of hv hc h)
  obtain ⟨W0, hW0⟩ : ∃ W0, W0 = w.alloc (.cells #[.slice A t.length c] 24) := ⟨_, rfl⟩
  have HX0 : Hid (Ex w W0) := by rw [hW0]; exact (Ex.refl w).alloc _
  have HW0 := Lib.hid hW0
  generalize linB t l F cs = R at *
  clear hW0 hT hs hv hL hls hF hC hcll
  cases hcb : conB t cs with
  | false =>
    rw [hcb] at HCn
    have hR := HNo.out hcb
    subst hR
    clear HCll HNo HNp HYes hcb
    go_enter Try.func42, Try.ntmps42
    go_wp2_with fail
    rw [← HW0.out]
    refine (HCn.out _ HX0.out).mono ?_
    rintro e9 w1 ⟨rfl, hx1⟩
    go_wp2_with fail
    go_ret
    exact Ret.mk rfl (HX0.out.trans hx1)
  | true =>
    rw [hcb] at HCn
    have hcl2 := HCll.out hcb
    have HY := Lib.hid (HYes.out hcb)
    clear HCll HNo HYes hcb
    go_enter Try.func42, Try.ntmps42
    go_wp2_with fail
    rw [← HW0.out]
    refine (HCn.out _ HX0.out).mono ?_
    rintro e9 w1 ⟨rfl, hx1⟩
    have HX1 := Lib.hid (HX0.out.trans hx1)
    clear hx1 HX0 HW0
    go_wp2_with fail
    go_loopw [17] (fun q wr => ∃ p : Nat, q = .int .i64 p ∧ p ≤ cs.length ∧ Hid ((∀ (p' : Nat) (r : List Int) (a : Int), p' < p → l[p']? = some r → cs[p']? = some a → a ∈ r ∧ ((p' : Int) ∈ F → a ∈ stored r)) ∧ Ex w wr)) (fun q _ => cs.length - (intOf q).toNat)
    case atStart => exact ⟨0, rfl, Nat.zero_le _, Lib.hid ⟨fun p' r a h => absurd h (Nat.not_lt_zero _), HX1.out⟩⟩
    case round =>
      obtain ⟨p, rfl, hp, HH⟩ := hrel
      by_cases hpl : p < cs.length
      · have m0 : (0 : Int) ≤ (p : Int) := by omega
        have m1 : (p : Int) < (cs.length : Int) := by omega
        have m2 : (p : Int) < (l.length : Int) := by omega
        obtain ⟨a, ha⟩ := get_at hpl
        obtain ⟨r, hr⟩ := get_at (show p < l.length by omega)
        have hrl := HRl.out p r hr
        have hrp := asc_pos (HAs.out p r hr)
        obtain ⟨bc, oc, hCC, hbc, hcs⟩ := row_at (HC.out _ HH.out.2) (fun h => by rw [h] at hpl; exact absurd hpl (Nat.not_lt_zero _))
        subst hCC
        have d0 := hcs p _ ha
        obtain ⟨bb, oo, hBB, hbb, A7, c7, r0, hc7, hrow⟩ := HL.out _ HH.out.2 p r hr
        subst hBB
        have HRw : Hid (∀ w', Ex wr w' → Row w' A7 (intsV r)) := fun w' h => hrow.ex h
        have HRs : Hid (∀ w', Ex wr w' → Row w' A7 (intsV (stored r))) := fun w' h => row_stored (hrow.ex h)
        have HR0 : Hid (∀ w', Ex wr w' → w'.cell? ⟨bb, oo + p, none⟩ = some (.slice A7 r.length c7) ∧ bb < w'.heap.size) := fun w' h => ⟨(h.below.cell hbb).trans r0, Nat.lt_of_lt_of_le hbb h.below.size⟩
        have HSt := Lib.hid (fun w' => rStored_c r A7 c7 w' (fun h => by rw [h] at hrp; exact absurd hrp (Nat.lt_irrefl _)) hc7 hrl)
        have hsl : (stored r).length ≤ 100000 := by unfold stored; rw [List.length_take]; omega
        have HRa := Lib.hid (And.intro hr ha)
        clear hcs hr ha hrow
        go_wp2_with fail
        refine (HCt.out r A7 c7 r.length _ a (HRw.out _ (Ex.refl _)) rfl (by omega)).mono ?_
        rintro e9 w2 ⟨rfl, hx2⟩
        have HX2 := Lib.hid hx2
        clear hx2 d0 hbc r0 hbb
        by_cases h1 : a ∈ r
        · have s1 : decide (a ∈ r) = true := decide_eq_true h1
          rw [s1]
          go_wp2_with fail
          refine (HCt.out F FA fc F.length _ (p : Int) (HFr.out _ (HH.out.2.trans HX2.out)) rfl (by omega)).mono ?_
          rintro e9 w3 ⟨rfl, hx3⟩
          have HX3 := Lib.hid (HX2.out.trans hx3)
          clear hx3
          by_cases h2 : (p : Int) ∈ F
          · have s2 : decide ((p : Int) ∈ F) = true := decide_eq_true h2
            rw [s2]
            obtain ⟨r0, hbb⟩ := HR0.out _ HX3.out
            go_wp2_with fail
            refine (HSt.out _).mono ?_
            rintro e9 w4 ⟨rfl, hx4⟩
            have HX4 := Lib.hid (HX3.out.trans hx4)
            clear hx4 r0 hbb
            go_wp2_with fail
            refine (HCt.out (stored r) A7 c7 (stored r).length _ a (HRs.out _ HX4.out) rfl (by omega)).mono ?_
            rintro e9 w5 ⟨rfl, hx5⟩
            have HX5 := Lib.hid (HX4.out.trans hx5)
            clear hx5
            by_cases h3 : a ∈ stored r
            · have s3 : decide (a ∈ stored r) = true := decide_eq_true h3
              rw [s3]
              have HN : Hid (∀ (p' : Nat) (r : List Int) (a : Int), p' < p + 1 → l[p']? = some r → cs[p']? = some a → a ∈ r ∧ ((p' : Int) ∈ F → a ∈ stored r)) := fun p' r' a' hlt hr' ha' => by
                by_cases he : p' = p
                · subst he
                  rw [HRa.out.1] at hr'
                  rw [HRa.out.2] at ha'
                  cases hr'
                  cases ha'
                  exact ⟨h1, fun _ => h3⟩
                · exact HH.out.1 p' r' a' (by omega) hr' ha'
              clear h1 h2 h3
              go_wp2_with fail
              refine ⟨⟨p + 1, by go_num, by omega, Lib.hid ⟨HN.out, HH.out.2.trans HX5.out⟩⟩, by simp [intOf]; omega⟩
            · have s3 : decide (a ∈ stored r) = false := decide_eq_false h3
              rw [s3]
              have hR := HNp.out p r a HRa.out.1 HRa.out.2 (fun h => h3 (h.2 h2))
              subst hR
              clear h1 h2 h3
              go_wp2_with fail
              go_ret
              exact Ret.mk rfl (HH.out.2.trans HX5.out)
          · have s2 : decide ((p : Int) ∈ F) = false := decide_eq_false h2
            rw [s2]
            have HN : Hid (∀ (p' : Nat) (r : List Int) (a : Int), p' < p + 1 → l[p']? = some r → cs[p']? = some a → a ∈ r ∧ ((p' : Int) ∈ F → a ∈ stored r)) := fun p' r' a' hlt hr' ha' => by
              by_cases he : p' = p
              · subst he
                rw [HRa.out.1] at hr'
                rw [HRa.out.2] at ha'
                cases hr'
                cases ha'
                exact ⟨h1, fun h => absurd h h2⟩
              · exact HH.out.1 p' r' a' (by omega) hr' ha'
            clear h1 h2
            go_wp2_with fail
            refine ⟨⟨p + 1, by go_num, by omega, Lib.hid ⟨HN.out, HH.out.2.trans HX3.out⟩⟩, by simp [intOf]; omega⟩
        · have s1 : decide (a ∈ r) = false := decide_eq_false h1
          rw [s1]
          have hR := HNp.out p r a HRa.out.1 HRa.out.2 (fun h => h1 h.1)
          subst hR
          clear h1
          go_wp2_with fail
          go_ret
          exact Ret.mk rfl (HH.out.2.trans HX2.out)
      · obtain rfl : p = cs.length := by omega
        have s1 : decide ((cs.length : Int) < (cs.length : Int)) = false := decide_eq_false (by omega)
        have hR := HY.out (fun p r a h => HH.out.1 p r a h)
        subst hR
        go_wp2_with fail
        go_ret
        exact Ret.mk rfl HH.out.2
end Go.Proofs.Ytdenojfbdkdpiaa
