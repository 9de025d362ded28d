/-
  The parser's leaf, walked.
  Conditions: as each theorem says.
-/
import Derived.Test.YthjalkonlcjhnaaGreatDoorQe
import Derived.Laws.IdiomStrings
namespace Go.Proofs.YthjalkonlcjhnaaGreatDoor
open Go.RowKit
theorem lv7 {f : Nat} {s : St} : lvS (f + 1) 7 none s = leafS (fun r => lvS f 0 none r) s := by
  conv => lhs; unfold lvS
  simp
theorem num_val {T : List UInt8} (h : Right 1 T) : T.all digB = true ∧ valF 0 T ≤ 1125899906842624 ∧ T ≠ [] := by
  have hp := right_pos h
  cases hT : T with
  | nil => rw [hT] at hp; simp at hp
  | cons c r =>
    rw [hT] at h
    have h1 := h.1
    by_cases hd : digB c = true
    · rw [first_dig (c := c) rfl hd] at h1
      injection h1 with _ h1; injection h1 with h2 h3
      have ha := take_all digB (c :: r)
      rw [h2, List.take_length] at ha
      rw [h2, List.take_length] at h3
      refine ⟨ha, ?_, by simp⟩
      unfold numE at h3
      split at h3
      · cases h3
      · split at h3
        · assumption
        · cases h3
    · by_cases hl : letB c = true
      · rw [first_let (c := c) rfl (by simpa using hd) hl] at h1; simp at h1
      · rw [first_sgn (c := c) rfl (by simpa using hd) (by simpa using hl)] at h1
        split at h1 <;> simp at h1
theorem atoi_fit (T : List UInt8) (hs : T.length ≤ 16384) (h : Right 1 T) (w : World) : Calls Tryz.prog 129 #[.string ⟨T.toArray⟩] w (Ret w (.tuple #[.int .i64 (valF 0 T : Nat), .nilIface])) := by
  obtain ⟨h1, h2, h3⟩ := num_val h
  have hz : (⟨T.toArray⟩ : ByteArray).size ≤ 9223372036854775806 := by rw [size_data]; show T.length ≤ _; omega
  rcases atoi_dig T h3 h1 with ⟨_, h4⟩ | h4
  · omega
  · refine (Tryz.strconv_Atoi_ok ⟨T.toArray⟩ hz _ h4 w).mono ?_
    rintro e w' ⟨rfl, hw⟩
    refine ⟨rfl, ?_⟩
    rcases hw with rfl | ⟨t, rfl⟩
    · exact Ex.refl _
    · exact Ex.of (Joins.below_bytesWorld _ w 5 t (Nat.le_refl _))
theorem str_cat (a b : List UInt8) : (⟨a.toArray⟩ : ByteArray) ++ (⟨b.toArray⟩ : ByteArray) = ⟨(a ++ b).toArray⟩ := by
  apply ByteArray.ext
  simp

set_option maxRecDepth 20000 in
set_option maxHeartbeats 1600000 in
theorem leaf_true (g b : Nat) (s : St) (x : Wd) (r : List Wd) (w : World) (h : Pst w g b s) (he : s.e = 0) (hws : s.ws = x :: r) (hk : x.kind ≠ 1)  (ht : takeB s [116, 114, 117, 101] = true) : Calls Tryz.prog 169 #[.pointer (some ⟨g, 0, none⟩)] w (TreeR w g b (nd 13 [], s.tl)) := by
  obtain ⟨hg, hbz, hbg⟩ := h.bounds
  have HZ : Hid (Zero6 (w.alloc (.cells #[.int .i64 0, .int .i64 0, .int .i64 0, .int .i64 0, .string ⟨#[]⟩, .slice none 0 0] 24)) w.heap.size) := Blk.new w _ _
  have HP0 : Hid (Pst (w.alloc (.cells #[.int .i64 0, .int .i64 0, .int .i64 0, .int .i64 0, .string ⟨#[]⟩, .slice none 0 0] 24)) g b s) := h.ex ((Ex.refl _).alloc _)
  have HB := Lib.hid (And.intro hg (And.intro hbz hbg))
  have HN : Hid (∀ w', Pst w' g b s → Calls Tryz.prog 50 #[.pointer (some ⟨g, 0, none⟩)] w' (Ret w' (wdV x))) := fun w' hp => by
    have hp2 := hp.2
    rw [hws] at hp2
    exact next_c g b x r s.e s.p w' hp2
  have c3 : w.cell? ⟨g, 3, none⟩ = some (.int .i64 0) := by
    obtain ⟨hw, o, c, hc, _, hBB, hR⟩ := h
    rw [he] at hBB
    exact hBB.cell 3
  have lg : g < w.heap.size := hg
  have HT := Lib.hid (fun w' (hp : Pst w' g b s) => take_t g b s ⟨#[116, 114, 117, 101]⟩ w' hp ht)
  have bk : ((x.kind : Int) == 1) = false := beq_eq_false_iff_ne.2 (by omega)
  unfold wdV at HN
  obtain ⟨kd, T, q1, q2⟩ := x
  dsimp only at *
  generalize hTB : (⟨T.toArray⟩ : ByteArray) = TB at *
  have HTB := Lib.hid hTB
  clear h hTB
  clear he hws hk ht 
  unfold TreeR
  go_enter Tryz.func169, Tryz.ntmps169
  go_wp2_with fail
  refine (HN.out _ HP0.out).mono ?_
  rintro e w' ⟨rfl, z, rfl⟩
  have lg2 := lt_ext z (show g < (w.alloc (.cells #[.int .i64 0, .int .i64 0, .int .i64 0, .int .i64 0, .string ⟨#[]⟩, .slice none 0 0] 24)).heap.size by rw [World.size_alloc]; omega)
  have HX : Hid (Exg g (w.alloc (.cells #[.int .i64 0, .int .i64 0, .int .i64 0, .int .i64 0, .string ⟨#[]⟩, .slice none 0 0] 24)) ((ext (w.alloc (.cells #[.int .i64 0, .int .i64 0, .int .i64 0, .int .i64 0, .string ⟨#[]⟩, .slice none 0 0] 24)) z).alloc (.cells #[.int .i64 kd, .string TB, .int .i64 q1, .int .i64 q2] 66))) := Exg.of (((Ex.refl _).ext z).alloc _)
  have HPn : Hid (Pst ((ext (w.alloc (.cells #[.int .i64 0, .int .i64 0, .int .i64 0, .int .i64 0, .string ⟨#[]⟩, .slice none 0 0] 24)) z).alloc (.cells #[.int .i64 kd, .string TB, .int .i64 q1, .int .i64 q2] 66)) g b s) := HP0.out.ex (((Ex.refl _).ext z).alloc _)
  go_wp2_with fail
  refine (HT.out _ HPn.out).mono ?_
  rintro e wn ⟨rfl, hp, hx⟩
  replace HPn := Lib.hid hp
  replace HX := Lib.hid (HX.out.trans hx)
  clear hp hx
  have hne : w.heap.size ≠ g := Nat.ne_of_gt HB.out.1
  have hz := HX.out.blk HZ.out hne
  have lz := hz.lt
  have r0 := hz.cell 0
  have r1 := hz.cell 1
  have r2 := hz.cell 2
  have r3 := hz.cell 3
  have r4 := hz.cell 4
  have r5 := hz.cell 5
  simp only [List.getElem?_cons_zero, List.getElem?_cons_succ] at r0 r1 r2 r3 r4 r5
  have f0 := hz.frozen 0
  have f1 := hz.frozen 1
  have f2 := hz.frozen 2
  have f3 := hz.frozen 3
  have f4 := hz.frozen 4
  have f5 := hz.frozen 5
  have Hz := Lib.hid hz
  clear hz hne
  go_wp2_with fail
  refine bodyPost_ret (results_pred rfl rfl (blk6 Hz.out _ _ _ _ _ _)) rfl ?_
  exact fin6 (Q := fun c => w.heap.size + 1 ≤ c) (Nat.le_refl _) (.leaf 13 0 0 0 ⟨#[]⟩ none 0) (fun c h => ⟨by omega, by omega⟩) HPn.out HB.out.1 HB.out.2.1 (((Exg.refl g w).alloc _).trans HX.out)

set_option maxRecDepth 20000 in
set_option maxHeartbeats 1600000 in
theorem leaf_false (g b : Nat) (s : St) (x : Wd) (r : List Wd) (w : World) (h : Pst w g b s) (he : s.e = 0) (hws : s.ws = x :: r) (hk : x.kind ≠ 1) (hf0 : takeB s [116, 114, 117, 101] = false) (ht : takeB s [102, 97, 108, 115, 101] = true) : Calls Tryz.prog 169 #[.pointer (some ⟨g, 0, none⟩)] w (TreeR w g b (nd 14 [], s.tl)) := by
  obtain ⟨hg, hbz, hbg⟩ := h.bounds
  have HZ : Hid (Zero6 (w.alloc (.cells #[.int .i64 0, .int .i64 0, .int .i64 0, .int .i64 0, .string ⟨#[]⟩, .slice none 0 0] 24)) w.heap.size) := Blk.new w _ _
  have HP0 : Hid (Pst (w.alloc (.cells #[.int .i64 0, .int .i64 0, .int .i64 0, .int .i64 0, .string ⟨#[]⟩, .slice none 0 0] 24)) g b s) := h.ex ((Ex.refl _).alloc _)
  have HB := Lib.hid (And.intro hg (And.intro hbz hbg))
  have HN : Hid (∀ w', Pst w' g b s → Calls Tryz.prog 50 #[.pointer (some ⟨g, 0, none⟩)] w' (Ret w' (wdV x))) := fun w' hp => by
    have hp2 := hp.2
    rw [hws] at hp2
    exact next_c g b x r s.e s.p w' hp2
  have c3 : w.cell? ⟨g, 3, none⟩ = some (.int .i64 0) := by
    obtain ⟨hw, o, c, hc, _, hBB, hR⟩ := h
    rw [he] at hBB
    exact hBB.cell 3
  have lg : g < w.heap.size := hg
  have HF0 := Lib.hid (fun w' (hp : Pst w' g b s) => take_f g b s ⟨#[116, 114, 117, 101]⟩ w' hp hf0)
  have HT := Lib.hid (fun w' (hp : Pst w' g b s) => take_t g b s ⟨#[102, 97, 108, 115, 101]⟩ w' hp ht)
  have bk : ((x.kind : Int) == 1) = false := beq_eq_false_iff_ne.2 (by omega)
  unfold wdV at HN
  obtain ⟨kd, T, q1, q2⟩ := x
  dsimp only at *
  generalize hTB : (⟨T.toArray⟩ : ByteArray) = TB at *
  have HTB := Lib.hid hTB
  clear h hTB
  clear he hws hk ht hf0
  unfold TreeR
  go_enter Tryz.func169, Tryz.ntmps169
  go_wp2_with fail
  refine (HN.out _ HP0.out).mono ?_
  rintro e w' ⟨rfl, z, rfl⟩
  have lg2 := lt_ext z (show g < (w.alloc (.cells #[.int .i64 0, .int .i64 0, .int .i64 0, .int .i64 0, .string ⟨#[]⟩, .slice none 0 0] 24)).heap.size by rw [World.size_alloc]; omega)
  have HX : Hid (Exg g (w.alloc (.cells #[.int .i64 0, .int .i64 0, .int .i64 0, .int .i64 0, .string ⟨#[]⟩, .slice none 0 0] 24)) ((ext (w.alloc (.cells #[.int .i64 0, .int .i64 0, .int .i64 0, .int .i64 0, .string ⟨#[]⟩, .slice none 0 0] 24)) z).alloc (.cells #[.int .i64 kd, .string TB, .int .i64 q1, .int .i64 q2] 66))) := Exg.of (((Ex.refl _).ext z).alloc _)
  have HPn : Hid (Pst ((ext (w.alloc (.cells #[.int .i64 0, .int .i64 0, .int .i64 0, .int .i64 0, .string ⟨#[]⟩, .slice none 0 0] 24)) z).alloc (.cells #[.int .i64 kd, .string TB, .int .i64 q1, .int .i64 q2] 66)) g b s) := HP0.out.ex (((Ex.refl _).ext z).alloc _)
  go_wp2_with fail
  refine (HF0.out _ HPn.out).mono ?_
  rintro e wn ⟨rfl, hp, hx⟩
  replace HPn := Lib.hid hp
  replace HX := Lib.hid (HX.out.trans hx)
  clear hp hx
  go_wp2_with fail
  refine (HT.out _ HPn.out).mono ?_
  rintro e wn ⟨rfl, hp, hx⟩
  replace HPn := Lib.hid hp
  replace HX := Lib.hid (HX.out.trans hx)
  clear hp hx
  have hne : w.heap.size ≠ g := Nat.ne_of_gt HB.out.1
  have hz := HX.out.blk HZ.out hne
  have lz := hz.lt
  have r0 := hz.cell 0
  have r1 := hz.cell 1
  have r2 := hz.cell 2
  have r3 := hz.cell 3
  have r4 := hz.cell 4
  have r5 := hz.cell 5
  simp only [List.getElem?_cons_zero, List.getElem?_cons_succ] at r0 r1 r2 r3 r4 r5
  have f0 := hz.frozen 0
  have f1 := hz.frozen 1
  have f2 := hz.frozen 2
  have f3 := hz.frozen 3
  have f4 := hz.frozen 4
  have f5 := hz.frozen 5
  have Hz := Lib.hid hz
  clear hz hne
  go_wp2_with fail
  refine bodyPost_ret (results_pred rfl rfl (blk6 Hz.out _ _ _ _ _ _)) rfl ?_
  exact fin6 (Q := fun c => w.heap.size + 1 ≤ c) (Nat.le_refl _) (.leaf 14 0 0 0 ⟨#[]⟩ none 0) (fun c h => ⟨by omega, by omega⟩) HPn.out HB.out.1 HB.out.2.1 (((Exg.refl g w).alloc _).trans HX.out)

theorem wf_tl {s : St} {S : List UInt8} (h : WfW s.ws) (ht : takeB s S = true) : WfW s.tl.ws := by
  obtain ⟨x, r, hx⟩ := h.cons
  have h2 := (takeB_live ht).2
  unfold St.tl
  rw [hx] at h h2 ⊢
  exact (h.next (isT_kind h2)).1
theorem wf_wrong {s : St} (h : WfW s.ws) : WfW (wrongS s).ws := by
  unfold wrongS
  split <;> exact h
theorem wf_need {s : St} (S : List UInt8) (h : WfW s.ws) : WfW (needS s S).ws := by
  unfold needS
  split
  · rename_i ht
    exact wf_tl h ht
  · exact wf_wrong h
theorem wf_name {s : St} (h : WfW s.ws) : WfW (nameS s).ws := by
  unfold nameS
  split
  · rename_i ht
    obtain ⟨x, r, hx⟩ := h.cons
    unfold nameB at ht
    rw [hx] at h ht
    simp only [Bool.and_eq_true] at ht
    show WfW s.ws.tail
    rw [hx]
    exact (h.next (isNm_kind ht.2)).1
  · exact wf_wrong h
theorem nameV_len {s : St} (h : WfW s.ws) : (nameV s).length ≤ 16384 := by
  unfold nameV
  split
  · rename_i ht
    obtain ⟨x, r, hx⟩ := h.cons
    unfold nameB at ht
    rw [hx] at h ht ⊢
    simp only [Bool.and_eq_true] at ht
    exact (h.right (isNm_kind ht.2)).2
  · simp
theorem tree_name (Q : Nat → Prop) (k : Int) (s : List UInt8) (N : ByteArray) (hN : N = ⟨s.toArray⟩) (W : World) : TrC Q W (nameT k s) [.int .i64 k, .int .i64 0, .int .i64 0, .int .i64 0, .string N, .slice none 0 0] := by
  rw [hN]; exact .leaf k 0 0 0 _ none 0

set_option maxRecDepth 20000 in
set_option maxHeartbeats 1600000 in
theorem leaf_num (g b : Nat) (s : St) (x : Wd) (r : List Wd) (w : World) (h : Pst w g b s) (he : s.e = 0) (hws : s.ws = x :: r) (hk : x.kind = 1) : Calls Tryz.prog 169 #[.pointer (some ⟨g, 0, none⟩)] w (TreeR w g b (numT (valF 0 x.text), s.tl)) := by
  have hwf : WfW (x :: r) := by have := h.1; rw [hws] at this; exact this
  have hr := hwf.right (by omega)
  rw [hk] at hr
  have HAt := Lib.hid (fun w' => atoi_fit x.text hr.2 hr.1 w')
  obtain ⟨hwf2, y, r', hr'⟩ := hwf.next (by omega)
  have HW2 : Hid (WfW s.tl.ws) := by show WfW s.ws.tail; rw [hws]; exact hwf2
  have HWS : Hid (s.ws.length = r.length + 1) := by show _ = _; rw [hws]; rfl
  have HWL : Hid (1 ≤ r.length) := by show _ ≤ _; rw [hr']; simp
  have HTW : Hid (wdsV s.ws = wdVs x ++ wdsV s.ws.tail ∧ s.ws.tail.length = r.length) := by show _ ∧ _; rw [hws]; exact ⟨rfl, rfl⟩
  have bk : ((x.kind : Int) == 1) = true := by rw [beq_iff_eq]; omega
  have HE : Hid (s.e = 0) := he
  obtain ⟨hg, hbz, hbg⟩ := h.bounds
  have HZ : Hid (Zero6 (w.alloc (.cells #[.int .i64 0, .int .i64 0, .int .i64 0, .int .i64 0, .string ⟨#[]⟩, .slice none 0 0] 24)) w.heap.size) := Blk.new w _ _
  have HP0 : Hid (Pst (w.alloc (.cells #[.int .i64 0, .int .i64 0, .int .i64 0, .int .i64 0, .string ⟨#[]⟩, .slice none 0 0] 24)) g b s) := h.ex ((Ex.refl _).alloc _)
  have HB := Lib.hid (And.intro hg (And.intro hbz hbg))
  have HN : Hid (∀ w', Pst w' g b s → Calls Tryz.prog 50 #[.pointer (some ⟨g, 0, none⟩)] w' (Ret w' (wdV x))) := fun w' hp => by
    have hp2 := hp.2
    rw [hws] at hp2
    exact next_c g b x r s.e s.p w' hp2
  have c3 : w.cell? ⟨g, 3, none⟩ = some (.int .i64 0) := by
    obtain ⟨hw, o, c, hc, _, hBB, hR⟩ := h
    rw [he] at hBB
    exact hBB.cell 3
  have lg : g < w.heap.size := hg
  unfold wdV at HN
  obtain ⟨V, hV⟩ : ∃ V, V = valF 0 x.text := ⟨_, rfl⟩
  rw [← hV] at HAt ⊢
  clear hV
  obtain ⟨kd, T, q1, q2⟩ := x
  dsimp only at *
  generalize hTB : (⟨T.toArray⟩ : ByteArray) = TB at *
  have HTB := Lib.hid hTB
  clear h hTB
  clear he hws hk hwf hr hwf2 hr'
  unfold TreeR
  go_enter Tryz.func169, Tryz.ntmps169
  go_wp2_with fail
  refine (HN.out _ HP0.out).mono ?_
  rintro e w' ⟨rfl, z, rfl⟩
  have lg2 := lt_ext z (show g < (w.alloc (.cells #[.int .i64 0, .int .i64 0, .int .i64 0, .int .i64 0, .string ⟨#[]⟩, .slice none 0 0] 24)).heap.size by rw [World.size_alloc]; omega)
  have HX : Hid (Exg g (w.alloc (.cells #[.int .i64 0, .int .i64 0, .int .i64 0, .int .i64 0, .string ⟨#[]⟩, .slice none 0 0] 24)) ((ext (w.alloc (.cells #[.int .i64 0, .int .i64 0, .int .i64 0, .int .i64 0, .string ⟨#[]⟩, .slice none 0 0] 24)) z).alloc (.cells #[.int .i64 kd, .string TB, .int .i64 q1, .int .i64 q2] 66))) := Exg.of (((Ex.refl _).ext z).alloc _)
  have HPn : Hid (Pst ((ext (w.alloc (.cells #[.int .i64 0, .int .i64 0, .int .i64 0, .int .i64 0, .string ⟨#[]⟩, .slice none 0 0] 24)) z).alloc (.cells #[.int .i64 kd, .string TB, .int .i64 q1, .int .i64 q2] 66)) g b s) := HP0.out.ex (((Ex.refl _).ext z).alloc _)
  go_wp2_with fail
  refine (HAt.out _).mono ?_
  rintro e w' ⟨rfl, z2, rfl⟩
  replace HX := Lib.hid (HX.out.trans (Exg.of ((Ex.refl _).ext z2)))
  replace HPn := Lib.hid (HPn.out.ex ((Ex.refl _).ext z2))
  obtain ⟨hw, o, c, hc, hbg, hBB, hR⟩ := HPn.out
  rw [HWS.out] at hc hBB
  have c0 := hBB.cell 0
  simp only [List.getElem?_cons_zero] at c0
  have d0 := hBB.frozen 0
  have lg3 := hBB.lt
  have hcc : c ≠ 1 := by have := HWL.out; omega
  have hc1 : 1 ≤ c := by omega
  have HBB := Lib.hid hBB
  have HR := Lib.hid hR
  have HC : Hid (r.length ≤ c - 1 ∧ b ≠ g) := ⟨by omega, hbg⟩
  have hne : w.heap.size ≠ g := Nat.ne_of_gt HB.out.1
  have hz := HX.out.blk HZ.out hne
  have lz := hz.lt
  have r0 := hz.cell 0
  have r1 := hz.cell 1
  have r2 := hz.cell 2
  have r3 := hz.cell 3
  have r4 := hz.cell 4
  have r5 := hz.cell 5
  simp only [List.getElem?_cons_zero, List.getElem?_cons_succ] at r0 r1 r2 r3 r4 r5
  have f0 := hz.frozen 0
  have f1 := hz.frozen 1
  have f2 := hz.frozen 2
  have f3 := hz.frozen 3
  have f4 := hz.frozen 4
  have f5 := hz.frozen 5
  have Hz := Lib.hid hz
  have Hne := Lib.hid hne
  clear hz hw hc hBB hR hbg
  go_wp2_with fail
  refine bodyPost_ret (results_pred rfl rfl (blk6 (Hz.out.far Hne.out _) _ _ _ _ _ _)) rfl ?_
  refine fin6 (Q := fun c => w.heap.size + 1 ≤ c) (Nat.le_refl _) (.leaf 1 V 0 0 ⟨#[]⟩ none 0) (fun c h => ⟨by omega, by omega⟩) ?_ HB.out.1 HB.out.2.1 ((((Exg.refl g w).alloc _).trans HX.out).seto _ _)
  refine ⟨HW2.out, o + 4, c - 1, ?_, HC.out.2, ?_, ?_⟩
  · show s.ws.tail.length ≤ c - 1
    rw [HTW.out.2]; exact HC.out.1
  · show Blk _ g _ [.slice (some ⟨b, o + 4, none⟩) s.ws.tail.length (c - 1), .int .i64 (s.p.1 : Nat), .int .i64 (s.p.2 : Nat), .int .i64 ((0 : Nat) : Int)]
    rw [HTW.out.2]
    have h9 := HBB.out.set_ 0 (.slice (some ⟨b, o + 4, none⟩) r.length (c - 1))
    rw [HE.out] at h9
    exact h9
  · have h9 := HR.out
    rw [HTW.out.1] at h9
    refine Rw.exg (g := g) ⟨h9.1, fun j u hj => ?_⟩ HC.out.2 (Exg.owno _ _ _ _)
    have h8 := h9.2 (4 + j) u (by rw [List.getElem?_append_right (by show 4 ≤ _; omega)]; rw [← hj]; congr 1; show 4 + j - 4 = j; omega)
    rw [Nat.add_assoc]; exact h8

set_option maxRecDepth 20000 in
set_option maxHeartbeats 1600000 in
theorem leaf_ded (g b : Nat) (s : St) (w : World) (h : Pst w g b s) (he : s.e ≠ 0) : Calls Tryz.prog 169 #[.pointer (some ⟨g, 0, none⟩)] w (TreeR w g b (nd 0 [], s)) := by
  obtain ⟨hg, hbz, hbg⟩ := h.bounds
  have HZ : Hid (Zero6 (w.alloc (.cells #[.int .i64 0, .int .i64 0, .int .i64 0, .int .i64 0, .string ⟨#[]⟩, .slice none 0 0] 24)) w.heap.size) := Blk.new w _ _
  have HP0 : Hid (Pst (w.alloc (.cells #[.int .i64 0, .int .i64 0, .int .i64 0, .int .i64 0, .string ⟨#[]⟩, .slice none 0 0] 24)) g b s) := h.ex ((Ex.refl _).alloc _)
  have HB := Lib.hid (And.intro hg (And.intro hbz hbg))
  have c3 : w.cell? ⟨g, 3, none⟩ = some (.int .i64 s.e) := by
    obtain ⟨hw, o, c, hc, _, hBB, hR⟩ := h
    exact hBB.cell 3
  have be : ((s.e : Int) != 0) = true := by rw [bne_iff_ne]; omega
  have be2 : ((s.e : Int) == 0) = false := beq_eq_false_iff_ne.2 (by omega)
  generalize s.e = e at c3 be be2
  clear h he
  go_enter Tryz.func169, Tryz.ntmps169
  go_wp2_with fail
  refine bodyPost_ret (results_pred rfl rfl (Blk.new w 24 _)) rfl ?_
  exact ⟨0, 0, 0, 0, ⟨#[]⟩, none, 0, 0, rfl, .leaf 0 0 0 0 ⟨#[]⟩ none 0, HP0.out, (Exg.refl g w).alloc _⟩

set_option maxRecDepth 20000 in
set_option maxHeartbeats 1600000 in
theorem leaf_paren {f : Nat} (hor : LvC 49 f 0) (g b : Nat) (s : St) (x : Wd) (r : List Wd) (w : World) (h : Pst w g b s) (he : s.e = 0) (hws : s.ws = x :: r) (hk : x.kind ≠ 1) (hf0 : takeB s [116, 114, 117, 101] = false) (hf1 : takeB s [102, 97, 108, 115, 101] = false) (ht : takeB s [40] = true) (hm : 10 * mS s.tl + 20 ≤ f) : Calls Tryz.prog 169 #[.pointer (some ⟨g, 0, none⟩)] w (TreeR w g b ((lvS f 0 none s.tl).1, needS (lvS f 0 none s.tl).2 [41])) := by
  have hwf := h.1
  obtain ⟨hg, hbz, hbg⟩ := h.bounds
  have HZ : Hid (Zero6 (w.alloc (.cells #[.int .i64 0, .int .i64 0, .int .i64 0, .int .i64 0, .string ⟨#[]⟩, .slice none 0 0] 24)) w.heap.size) := Blk.new w _ _
  have HP0 : Hid (Pst (w.alloc (.cells #[.int .i64 0, .int .i64 0, .int .i64 0, .int .i64 0, .string ⟨#[]⟩, .slice none 0 0] 24)) g b s) := h.ex ((Ex.refl _).alloc _)
  have HB := Lib.hid (And.intro hg (And.intro hbz hbg))
  have HN : Hid (∀ w', Pst w' g b s → Calls Tryz.prog 50 #[.pointer (some ⟨g, 0, none⟩)] w' (Ret w' (wdV x))) := fun w' hp => by
    have hp2 := hp.2
    rw [hws] at hp2
    exact next_c g b x r s.e s.p w' hp2
  have c3 : w.cell? ⟨g, 3, none⟩ = some (.int .i64 0) := by
    obtain ⟨hw, o, c, hc, _, hBB, hR⟩ := h
    rw [he] at hBB
    exact hBB.cell 3
  have lg : g < w.heap.size := hg
  have HF0 := Lib.hid (fun w' (hp : Pst w' g b s) => take_f g b s ⟨#[116, 114, 117, 101]⟩ w' hp hf0)
  have HF1 := Lib.hid (fun w' (hp : Pst w' g b s) => take_f g b s ⟨#[102, 97, 108, 115, 101]⟩ w' hp hf1)
  have HT := Lib.hid (fun w' (hp : Pst w' g b s) => take_t g b s ⟨#[40]⟩ w' hp ht)
  have HO := Lib.hid (fun w' (hp : Pst w' g b s.tl) => hor g b s.tl w' hp (by omega))
  obtain ⟨R1, R2, hR⟩ : ∃ R1 R2, lvS f 0 none s.tl = (R1, R2) := ⟨_, _, rfl⟩
  rw [hR] at HO ⊢
  have HNd := Lib.hid (fun w' (hp : Pst w' g b R2) => need_c g b R2 ⟨#[41]⟩ w' hp)
  clear hR
  unfold TreeR at HO
  unfold unitV at HNd
  have bk : ((x.kind : Int) == 1) = false := beq_eq_false_iff_ne.2 (by omega)
  unfold wdV at HN
  obtain ⟨kd, T, q1, q2⟩ := x
  dsimp only at *
  generalize hTB : (⟨T.toArray⟩ : ByteArray) = TB at *
  have HTB := Lib.hid hTB
  clear h hTB
  clear he hws hk ht hwf hf0 hf1 hm hor
  go_enter Tryz.func169, Tryz.ntmps169
  go_wp2_with fail
  refine (HN.out _ HP0.out).mono ?_
  rintro e w' ⟨rfl, z, rfl⟩
  have lg2 := lt_ext z (show g < (w.alloc (.cells #[.int .i64 0, .int .i64 0, .int .i64 0, .int .i64 0, .string ⟨#[]⟩, .slice none 0 0] 24)).heap.size by rw [World.size_alloc]; omega)
  have HX : Hid (Exg g (w.alloc (.cells #[.int .i64 0, .int .i64 0, .int .i64 0, .int .i64 0, .string ⟨#[]⟩, .slice none 0 0] 24)) ((ext (w.alloc (.cells #[.int .i64 0, .int .i64 0, .int .i64 0, .int .i64 0, .string ⟨#[]⟩, .slice none 0 0] 24)) z).alloc (.cells #[.int .i64 kd, .string TB, .int .i64 q1, .int .i64 q2] 66))) := Exg.of (((Ex.refl _).ext z).alloc _)
  have HPn : Hid (Pst ((ext (w.alloc (.cells #[.int .i64 0, .int .i64 0, .int .i64 0, .int .i64 0, .string ⟨#[]⟩, .slice none 0 0] 24)) z).alloc (.cells #[.int .i64 kd, .string TB, .int .i64 q1, .int .i64 q2] 66)) g b s) := HP0.out.ex (((Ex.refl _).ext z).alloc _)
  go_wp2_with fail
  refine (HF0.out _ HPn.out).mono ?_
  rintro e wn ⟨rfl, hp, hx⟩
  replace HPn := Lib.hid hp
  replace HX := Lib.hid (HX.out.trans hx)
  clear hp hx
  go_wp2_with fail
  refine (HF1.out _ HPn.out).mono ?_
  rintro e wn ⟨rfl, hp, hx⟩
  replace HPn := Lib.hid hp
  replace HX := Lib.hid (HX.out.trans hx)
  clear hp hx
  go_wp2_with fail
  refine (HT.out _ HPn.out).mono ?_
  rintro e wn ⟨rfl, hp, hx⟩
  replace HPn := Lib.hid hp
  replace HX := Lib.hid (HX.out.trans hx)
  clear hp hx
  go_wp2_with fail
  refine (HO.out _ HPn.out).mono ?_
  rintro e w2 ⟨k, n, p, q, S, A, m, c, rfl, ht, hp, hx⟩
  have HTr := Lib.hid ht
  have HSz : Hid (w.heap.size + 1 ≤ wn.heap.size) := by have := HX.out.size; rw [World.size_alloc] at this; exact this
  have HSz2 : Hid (wn.heap.size ≤ w2.heap.size) := hx.size
  replace HPn := Lib.hid (hp.ex ((Ex.refl _).alloc (.cells #[.int .i64 k, .int .i64 n, .int .i64 p, .int .i64 q, .string S, .slice A m c] 24)))
  replace HX := Lib.hid ((HX.out.trans hx).alloc (.cells #[.int .i64 k, .int .i64 n, .int .i64 p, .int .i64 q, .string S, .slice A m c] 24))
  clear hp hx ht
  go_wp2_with fail
  refine (HNd.out _ HPn.out).mono ?_
  rintro e w3 ⟨rfl, hp, hx⟩
  have hgw : g < w2.heap.size := by have h1 := HSz.out; have h2 := HSz2.out; have h3 := HB.out.1; omega
  have hb2 : Blk w3 w2.heap.size 24 [.int .i64 k, .int .i64 n, .int .i64 p, .int .i64 q, .string S, .slice A m c] := hx.blk (Blk.new w2 _ _) (Nat.ne_of_gt hgw)
  have s0 := hb2.cell 0
  have s1 := hb2.cell 1
  have s2 := hb2.cell 2
  have s3 := hb2.cell 3
  have s4 := hb2.cell 4
  have s5 := hb2.cell 5
  simp only [List.getElem?_cons_zero, List.getElem?_cons_succ] at s0 s1 s2 s3 s4 s5
  have ls := hb2.lt
  have HTq : Hid (TrC (fun c => w.heap.size + 1 ≤ c) w3 R1 [.int .i64 k, .int .i64 n, .int .i64 p, .int .i64 q, .string S, .slice A m c]) := ((HTr.out.ex ((Ex.refl _).alloc _)).imp (fun c _ h => (Nat.le_trans HSz.out h : w.heap.size + 1 ≤ c))).exg (fun c h => by have h3 := HB.out.1; omega) hx
  replace HPn := Lib.hid hp
  replace HX := Lib.hid (HX.out.trans hx)
  clear hp hx hb2
  have hne : w.heap.size ≠ g := Nat.ne_of_gt HB.out.1
  have hz := HX.out.blk HZ.out hne
  have lz := hz.lt
  have r0 := hz.cell 0
  have r1 := hz.cell 1
  have r2 := hz.cell 2
  have r3 := hz.cell 3
  have r4 := hz.cell 4
  have r5 := hz.cell 5
  simp only [List.getElem?_cons_zero, List.getElem?_cons_succ] at r0 r1 r2 r3 r4 r5
  have f0 := hz.frozen 0
  have f1 := hz.frozen 1
  have f2 := hz.frozen 2
  have f3 := hz.frozen 3
  have f4 := hz.frozen 4
  have f5 := hz.frozen 5
  have Hz := Lib.hid hz
  clear hz hne
  go_wp2_with fail
  refine bodyPost_ret (results_pred rfl rfl (blk6 Hz.out _ _ _ _ _ _)) rfl ?_
  exact fin6 (Q := fun c => w.heap.size + 1 ≤ c) (Nat.le_refl _) HTq.out (fun c h => ⟨by omega, by omega⟩) HPn.out HB.out.1 HB.out.2.1 (((Exg.refl g w).alloc _).trans HX.out)

set_option maxRecDepth 20000 in
set_option maxHeartbeats 1600000 in
theorem leaf_count (g b : Nat) (s : St) (x : Wd) (r : List Wd) (w : World) (h : Pst w g b s) (he : s.e = 0) (hws : s.ws = x :: r) (hk : x.kind ≠ 1) (hf0 : takeB s [116, 114, 117, 101] = false) (hf1 : takeB s [102, 97, 108, 115, 101] = false) (hf2 : takeB s [40] = false) (ht : takeB s [99, 111, 117, 110, 116] = true) : Calls Tryz.prog 169 #[.pointer (some ⟨g, 0, none⟩)] w (TreeR w g b (countS s.tl)) := by
  have hwf := h.1
  obtain ⟨hg, hbz, hbg⟩ := h.bounds
  have HZ : Hid (Zero6 (w.alloc (.cells #[.int .i64 0, .int .i64 0, .int .i64 0, .int .i64 0, .string ⟨#[]⟩, .slice none 0 0] 24)) w.heap.size) := Blk.new w _ _
  have HP0 : Hid (Pst (w.alloc (.cells #[.int .i64 0, .int .i64 0, .int .i64 0, .int .i64 0, .string ⟨#[]⟩, .slice none 0 0] 24)) g b s) := h.ex ((Ex.refl _).alloc _)
  have HB := Lib.hid (And.intro hg (And.intro hbz hbg))
  have HN : Hid (∀ w', Pst w' g b s → Calls Tryz.prog 50 #[.pointer (some ⟨g, 0, none⟩)] w' (Ret w' (wdV x))) := fun w' hp => by
    have hp2 := hp.2
    rw [hws] at hp2
    exact next_c g b x r s.e s.p w' hp2
  have c3 : w.cell? ⟨g, 3, none⟩ = some (.int .i64 0) := by
    obtain ⟨hw, o, c, hc, _, hBB, hR⟩ := h
    rw [he] at hBB
    exact hBB.cell 3
  have lg : g < w.heap.size := hg
  have HF0 := Lib.hid (fun w' (hp : Pst w' g b s) => take_f g b s ⟨#[116, 114, 117, 101]⟩ w' hp hf0)
  have HF1 := Lib.hid (fun w' (hp : Pst w' g b s) => take_f g b s ⟨#[102, 97, 108, 115, 101]⟩ w' hp hf1)
  have HF2 := Lib.hid (fun w' (hp : Pst w' g b s) => take_f g b s ⟨#[40]⟩ w' hp hf2)
  have HT := Lib.hid (fun w' (hp : Pst w' g b s) => take_t g b s ⟨#[99, 111, 117, 110, 116]⟩ w' hp ht)
  unfold countS
  have H1 := Lib.hid (fun w' (hp : Pst w' g b s.tl) => need_c g b s.tl ⟨#[40]⟩ w' hp)
  rw [show (⟨#[40]⟩ : ByteArray).data.toList = [40] from rfl] at H1
  generalize needS s.tl [40] = S1 at *
  have H2 := Lib.hid (fun w' (hp : Pst w' g b S1) => name_c g b S1 w' hp)
  generalize nameS S1 = S2 at *
  obtain ⟨NB, hNB⟩ : ∃ NB : ByteArray, NB = ⟨(nameV S1).toArray⟩ := ⟨_, rfl⟩
  rw [← hNB] at H2
  have HTr := Lib.hid (tree_name (fun c => w.heap.size + 1 ≤ c) 3 (nameV S1) NB hNB)
  have H3 := Lib.hid (fun w' (hp : Pst w' g b S2) => need_c g b S2 ⟨#[41]⟩ w' hp)
  rw [show (⟨#[41]⟩ : ByteArray).data.toList = [41] from rfl] at H3
  generalize needS S2 [41] = S3 at *
  unfold unitV at H1 H3
  have bk : ((x.kind : Int) == 1) = false := beq_eq_false_iff_ne.2 (by omega)
  unfold wdV at HN
  obtain ⟨kd, T, q1, q2⟩ := x
  dsimp only at *
  generalize hTB : (⟨T.toArray⟩ : ByteArray) = TB at *
  have HTB := Lib.hid hTB
  clear h hTB
  clear he hws hk ht hwf hf0 hf1 hf2 hNB
  go_enter Tryz.func169, Tryz.ntmps169
  go_wp2_with fail
  refine (HN.out _ HP0.out).mono ?_
  rintro e w' ⟨rfl, z, rfl⟩
  have lg2 := lt_ext z (show g < (w.alloc (.cells #[.int .i64 0, .int .i64 0, .int .i64 0, .int .i64 0, .string ⟨#[]⟩, .slice none 0 0] 24)).heap.size by rw [World.size_alloc]; omega)
  have HX : Hid (Exg g (w.alloc (.cells #[.int .i64 0, .int .i64 0, .int .i64 0, .int .i64 0, .string ⟨#[]⟩, .slice none 0 0] 24)) ((ext (w.alloc (.cells #[.int .i64 0, .int .i64 0, .int .i64 0, .int .i64 0, .string ⟨#[]⟩, .slice none 0 0] 24)) z).alloc (.cells #[.int .i64 kd, .string TB, .int .i64 q1, .int .i64 q2] 66))) := Exg.of (((Ex.refl _).ext z).alloc _)
  have HPn : Hid (Pst ((ext (w.alloc (.cells #[.int .i64 0, .int .i64 0, .int .i64 0, .int .i64 0, .string ⟨#[]⟩, .slice none 0 0] 24)) z).alloc (.cells #[.int .i64 kd, .string TB, .int .i64 q1, .int .i64 q2] 66)) g b s) := HP0.out.ex (((Ex.refl _).ext z).alloc _)
  go_wp2_with fail
  refine (HF0.out _ HPn.out).mono ?_
  rintro e wn ⟨rfl, hp, hx⟩
  replace HPn := Lib.hid hp
  replace HX := Lib.hid (HX.out.trans hx)
  clear hp hx
  go_wp2_with fail
  refine (HF1.out _ HPn.out).mono ?_
  rintro e wn ⟨rfl, hp, hx⟩
  replace HPn := Lib.hid hp
  replace HX := Lib.hid (HX.out.trans hx)
  clear hp hx
  go_wp2_with fail
  refine (HF2.out _ HPn.out).mono ?_
  rintro e wn ⟨rfl, hp, hx⟩
  replace HPn := Lib.hid hp
  replace HX := Lib.hid (HX.out.trans hx)
  clear hp hx
  go_wp2_with fail
  refine (HT.out _ HPn.out).mono ?_
  rintro e wn ⟨rfl, hp, hx⟩
  replace HPn := Lib.hid hp
  replace HX := Lib.hid (HX.out.trans hx)
  clear hp hx
  go_wp2_with fail
  refine (H1.out _ HPn.out).mono ?_
  rintro e wn ⟨rfl, hp, hx⟩
  replace HPn := Lib.hid hp
  replace HX := Lib.hid (HX.out.trans hx)
  clear hp hx
  go_wp2_with fail
  refine (H2.out _ HPn.out).mono ?_
  rintro e wn ⟨rfl, hp, hx⟩
  replace HPn := Lib.hid hp
  replace HX := Lib.hid (HX.out.trans hx)
  clear hp hx
  go_wp2_with fail
  refine (H3.out _ HPn.out).mono ?_
  rintro e wn ⟨rfl, hp, hx⟩
  replace HPn := Lib.hid hp
  replace HX := Lib.hid (HX.out.trans hx)
  clear hp hx
  have hne : w.heap.size ≠ g := Nat.ne_of_gt HB.out.1
  have hz := HX.out.blk HZ.out hne
  have lz := hz.lt
  have r0 := hz.cell 0
  have r1 := hz.cell 1
  have r2 := hz.cell 2
  have r3 := hz.cell 3
  have r4 := hz.cell 4
  have r5 := hz.cell 5
  simp only [List.getElem?_cons_zero, List.getElem?_cons_succ] at r0 r1 r2 r3 r4 r5
  have f0 := hz.frozen 0
  have f1 := hz.frozen 1
  have f2 := hz.frozen 2
  have f3 := hz.frozen 3
  have f4 := hz.frozen 4
  have f5 := hz.frozen 5
  have Hz := Lib.hid hz
  clear hz hne
  go_wp2_with fail
  refine bodyPost_ret (results_pred rfl rfl (blk6 Hz.out _ _ _ _ _ _)) rfl ?_
  exact fin6 (Q := fun c => w.heap.size + 1 ≤ c) (Nat.le_refl _) (HTr.out _) (fun c h => ⟨by omega, by omega⟩) HPn.out HB.out.1 HB.out.2.1 (((Exg.refl g w).alloc _).trans HX.out)

set_option maxRecDepth 20000 in
set_option maxHeartbeats 1600000 in
theorem leaf_chan (g b : Nat) (s : St) (x : Wd) (r : List Wd) (w : World) (h : Pst w g b s) (he : s.e = 0) (hws : s.ws = x :: r) (hk : x.kind ≠ 1) (hf0 : takeB s [116, 114, 117, 101] = false) (hf1 : takeB s [102, 97, 108, 115, 101] = false) (hf2 : takeB s [40] = false) (hf3 : takeB s [99, 111, 117, 110, 116] = false) (ht : takeB s [99, 104, 97, 110, 110, 101, 108] = true) : Calls Tryz.prog 169 #[.pointer (some ⟨g, 0, none⟩)] w (TreeR w g b (chanS s.tl)) := by
  have hwf := h.1
  have hl1 := nameV_len (wf_need [40] (wf_tl hwf ht))
  have hl2 := nameV_len (wf_need [44] (wf_name (wf_need [40] (wf_tl hwf ht))))
  obtain ⟨hg, hbz, hbg⟩ := h.bounds
  have HZ : Hid (Zero6 (w.alloc (.cells #[.int .i64 0, .int .i64 0, .int .i64 0, .int .i64 0, .string ⟨#[]⟩, .slice none 0 0] 24)) w.heap.size) := Blk.new w _ _
  have HP0 : Hid (Pst (w.alloc (.cells #[.int .i64 0, .int .i64 0, .int .i64 0, .int .i64 0, .string ⟨#[]⟩, .slice none 0 0] 24)) g b s) := h.ex ((Ex.refl _).alloc _)
  have HB := Lib.hid (And.intro hg (And.intro hbz hbg))
  have HN : Hid (∀ w', Pst w' g b s → Calls Tryz.prog 50 #[.pointer (some ⟨g, 0, none⟩)] w' (Ret w' (wdV x))) := fun w' hp => by
    have hp2 := hp.2
    rw [hws] at hp2
    exact next_c g b x r s.e s.p w' hp2
  have c3 : w.cell? ⟨g, 3, none⟩ = some (.int .i64 0) := by
    obtain ⟨hw, o, c, hc, _, hBB, hR⟩ := h
    rw [he] at hBB
    exact hBB.cell 3
  have lg : g < w.heap.size := hg
  have HF0 := Lib.hid (fun w' (hp : Pst w' g b s) => take_f g b s ⟨#[116, 114, 117, 101]⟩ w' hp hf0)
  have HF1 := Lib.hid (fun w' (hp : Pst w' g b s) => take_f g b s ⟨#[102, 97, 108, 115, 101]⟩ w' hp hf1)
  have HF2 := Lib.hid (fun w' (hp : Pst w' g b s) => take_f g b s ⟨#[40]⟩ w' hp hf2)
  have HF3 := Lib.hid (fun w' (hp : Pst w' g b s) => take_f g b s ⟨#[99, 111, 117, 110, 116]⟩ w' hp hf3)
  have HT := Lib.hid (fun w' (hp : Pst w' g b s) => take_t g b s ⟨#[99, 104, 97, 110, 110, 101, 108]⟩ w' hp ht)
  unfold chanS
  have H1 := Lib.hid (fun w' (hp : Pst w' g b s.tl) => need_c g b s.tl ⟨#[40]⟩ w' hp)
  rw [show (⟨#[40]⟩ : ByteArray).data.toList = [40] from rfl] at H1
  generalize needS s.tl [40] = S1 at *
  have H2 := Lib.hid (fun w' (hp : Pst w' g b S1) => name_c g b S1 w' hp)
  generalize nameS S1 = S2 at *
  have H3 := Lib.hid (fun w' (hp : Pst w' g b S2) => need_c g b S2 ⟨#[44]⟩ w' hp)
  rw [show (⟨#[44]⟩ : ByteArray).data.toList = [44] from rfl] at H3
  generalize needS S2 [44] = S3 at *
  have H4 := Lib.hid (fun w' (hp : Pst w' g b S3) => name_c g b S3 w' hp)
  generalize nameS S3 = S4 at *
  have H5 := Lib.hid (fun w' (hp : Pst w' g b S4) => need_c g b S4 ⟨#[41]⟩ w' hp)
  rw [show (⟨#[41]⟩ : ByteArray).data.toList = [41] from rfl] at H5
  generalize needS S4 [41] = S5 at *
  generalize nameV S1 = NV at *
  generalize nameV S3 = MV at *
  obtain ⟨NB, hNB⟩ : ∃ NB : ByteArray, NB = ⟨NV.toArray⟩ := ⟨_, rfl⟩
  obtain ⟨MB, hMB⟩ : ∃ MB : ByteArray, MB = ⟨MV.toArray⟩ := ⟨_, rfl⟩
  rw [← hNB] at H2
  rw [← hMB] at H4
  obtain ⟨J1, hJ1⟩ : ∃ J1 : ByteArray, J1 = NB ++ ⟨#[44]⟩ := ⟨_, rfl⟩
  obtain ⟨J2, hJ2⟩ : ∃ J2 : ByteArray, J2 = J1 ++ MB := ⟨_, rfl⟩
  have add1 : ∀ w, (Op.stringOp .add NB ⟨#[44]⟩).run Tryz.prog w = .ok (.string J1) w := fun w => by
    rw [hJ1]
    refine run_string_add_sum w _ _ ?_
    have h1 : NB.size ≤ 16384 := by rw [hNB, size_data]; exact hl1
    have h2 : (⟨#[44]⟩ : ByteArray).size = 1 := rfl
    omega
  have add2 : ∀ w, (Op.stringOp .add J1 MB).run Tryz.prog w = .ok (.string J2) w := fun w => by
    rw [hJ2]
    refine run_string_add_sum w _ _ ?_
    have h1 : NB.size ≤ 16384 := by rw [hNB, size_data]; exact hl1
    have h3 : MB.size ≤ 16384 := by rw [hMB, size_data]; exact hl2
    have h2 : J1.size = NB.size + 1 := by rw [hJ1, ByteArray.size_append]; rfl
    omega
  have hJ : J2 = ⟨(NV ++ 44 :: MV).toArray⟩ := by
    rw [hJ2, hJ1, hNB, hMB, show (⟨#[44]⟩ : ByteArray) = ⟨[44].toArray⟩ from rfl, str_cat, str_cat]
    simp
  have HTr := Lib.hid (tree_name (fun c => w.heap.size + 1 ≤ c) 4 (NV ++ 44 :: MV) J2 hJ)
  unfold unitV at H1 H3 H5
  have bk : ((x.kind : Int) == 1) = false := beq_eq_false_iff_ne.2 (by omega)
  unfold wdV at HN
  obtain ⟨kd, T, q1, q2⟩ := x
  dsimp only at *
  generalize hTB : (⟨T.toArray⟩ : ByteArray) = TB at *
  have HTB := Lib.hid hTB
  clear h hTB
  clear he hws hk ht hwf hf0 hf1 hf2 hf3 hNB hMB hJ1 hJ2 hJ hl1 hl2
  go_enter Tryz.func169, Tryz.ntmps169
  go_wp2_with fail
  refine (HN.out _ HP0.out).mono ?_
  rintro e w' ⟨rfl, z, rfl⟩
  have lg2 := lt_ext z (show g < (w.alloc (.cells #[.int .i64 0, .int .i64 0, .int .i64 0, .int .i64 0, .string ⟨#[]⟩, .slice none 0 0] 24)).heap.size by rw [World.size_alloc]; omega)
  have HX : Hid (Exg g (w.alloc (.cells #[.int .i64 0, .int .i64 0, .int .i64 0, .int .i64 0, .string ⟨#[]⟩, .slice none 0 0] 24)) ((ext (w.alloc (.cells #[.int .i64 0, .int .i64 0, .int .i64 0, .int .i64 0, .string ⟨#[]⟩, .slice none 0 0] 24)) z).alloc (.cells #[.int .i64 kd, .string TB, .int .i64 q1, .int .i64 q2] 66))) := Exg.of (((Ex.refl _).ext z).alloc _)
  have HPn : Hid (Pst ((ext (w.alloc (.cells #[.int .i64 0, .int .i64 0, .int .i64 0, .int .i64 0, .string ⟨#[]⟩, .slice none 0 0] 24)) z).alloc (.cells #[.int .i64 kd, .string TB, .int .i64 q1, .int .i64 q2] 66)) g b s) := HP0.out.ex (((Ex.refl _).ext z).alloc _)
  go_wp2_with fail
  refine (HF0.out _ HPn.out).mono ?_
  rintro e wn ⟨rfl, hp, hx⟩
  replace HPn := Lib.hid hp
  replace HX := Lib.hid (HX.out.trans hx)
  clear hp hx
  go_wp2_with fail
  refine (HF1.out _ HPn.out).mono ?_
  rintro e wn ⟨rfl, hp, hx⟩
  replace HPn := Lib.hid hp
  replace HX := Lib.hid (HX.out.trans hx)
  clear hp hx
  go_wp2_with fail
  refine (HF2.out _ HPn.out).mono ?_
  rintro e wn ⟨rfl, hp, hx⟩
  replace HPn := Lib.hid hp
  replace HX := Lib.hid (HX.out.trans hx)
  clear hp hx
  go_wp2_with fail
  refine (HF3.out _ HPn.out).mono ?_
  rintro e wn ⟨rfl, hp, hx⟩
  replace HPn := Lib.hid hp
  replace HX := Lib.hid (HX.out.trans hx)
  clear hp hx
  go_wp2_with fail
  refine (HT.out _ HPn.out).mono ?_
  rintro e wn ⟨rfl, hp, hx⟩
  replace HPn := Lib.hid hp
  replace HX := Lib.hid (HX.out.trans hx)
  clear hp hx
  go_wp2_with fail
  refine (H1.out _ HPn.out).mono ?_
  rintro e wn ⟨rfl, hp, hx⟩
  replace HPn := Lib.hid hp
  replace HX := Lib.hid (HX.out.trans hx)
  clear hp hx
  go_wp2_with fail
  refine (H2.out _ HPn.out).mono ?_
  rintro e wn ⟨rfl, hp, hx⟩
  replace HPn := Lib.hid hp
  replace HX := Lib.hid (HX.out.trans hx)
  clear hp hx
  go_wp2_with fail
  refine (H3.out _ HPn.out).mono ?_
  rintro e wn ⟨rfl, hp, hx⟩
  replace HPn := Lib.hid hp
  replace HX := Lib.hid (HX.out.trans hx)
  clear hp hx
  go_wp2_with fail
  refine (H4.out _ HPn.out).mono ?_
  rintro e wn ⟨rfl, hp, hx⟩
  replace HPn := Lib.hid hp
  replace HX := Lib.hid (HX.out.trans hx)
  clear hp hx
  go_wp2_with fail
  refine (H5.out _ HPn.out).mono ?_
  rintro e wn ⟨rfl, hp, hx⟩
  replace HPn := Lib.hid hp
  replace HX := Lib.hid (HX.out.trans hx)
  clear hp hx
  have hne : w.heap.size ≠ g := Nat.ne_of_gt HB.out.1
  have hz := HX.out.blk HZ.out hne
  have lz := hz.lt
  have r0 := hz.cell 0
  have r1 := hz.cell 1
  have r2 := hz.cell 2
  have r3 := hz.cell 3
  have r4 := hz.cell 4
  have r5 := hz.cell 5
  simp only [List.getElem?_cons_zero, List.getElem?_cons_succ] at r0 r1 r2 r3 r4 r5
  have f0 := hz.frozen 0
  have f1 := hz.frozen 1
  have f2 := hz.frozen 2
  have f3 := hz.frozen 3
  have f4 := hz.frozen 4
  have f5 := hz.frozen 5
  have Hz := Lib.hid hz
  clear hz hne
  go_wp2_with fail
  refine bodyPost_ret (results_pred rfl rfl (blk6 Hz.out _ _ _ _ _ _)) rfl ?_
  exact fin6 (Q := fun c => w.heap.size + 1 ≤ c) (Nat.le_refl _) (HTr.out _) (fun c h => ⟨by omega, by omega⟩) HPn.out HB.out.1 HB.out.2.1 (((Exg.refl g w).alloc _).trans HX.out)

set_option maxRecDepth 20000 in
set_option maxHeartbeats 1600000 in
theorem leaf_var (g b : Nat) (s : St) (x : Wd) (r : List Wd) (w : World) (h : Pst w g b s) (he : s.e = 0) (hws : s.ws = x :: r) (hk : x.kind ≠ 1) (hf0 : takeB s [116, 114, 117, 101] = false) (hf1 : takeB s [102, 97, 108, 115, 101] = false) (hf2 : takeB s [40] = false) (hf3 : takeB s [99, 111, 117, 110, 116] = false) (hf4 : takeB s [99, 104, 97, 110, 110, 101, 108] = false) : Calls Tryz.prog 169 #[.pointer (some ⟨g, 0, none⟩)] w (TreeR w g b (varS s)) := by
  have hwf := h.1
  have hl1 := nameV_len hwf
  have hl2 := nameV_len (wf_need [46] (wf_name hwf))
  obtain ⟨hg, hbz, hbg⟩ := h.bounds
  have HZ : Hid (Zero6 (w.alloc (.cells #[.int .i64 0, .int .i64 0, .int .i64 0, .int .i64 0, .string ⟨#[]⟩, .slice none 0 0] 24)) w.heap.size) := Blk.new w _ _
  have HP0 : Hid (Pst (w.alloc (.cells #[.int .i64 0, .int .i64 0, .int .i64 0, .int .i64 0, .string ⟨#[]⟩, .slice none 0 0] 24)) g b s) := h.ex ((Ex.refl _).alloc _)
  have HB := Lib.hid (And.intro hg (And.intro hbz hbg))
  have HN : Hid (∀ w', Pst w' g b s → Calls Tryz.prog 50 #[.pointer (some ⟨g, 0, none⟩)] w' (Ret w' (wdV x))) := fun w' hp => by
    have hp2 := hp.2
    rw [hws] at hp2
    exact next_c g b x r s.e s.p w' hp2
  have c3 : w.cell? ⟨g, 3, none⟩ = some (.int .i64 0) := by
    obtain ⟨hw, o, c, hc, _, hBB, hR⟩ := h
    rw [he] at hBB
    exact hBB.cell 3
  have lg : g < w.heap.size := hg
  have HF0 := Lib.hid (fun w' (hp : Pst w' g b s) => take_f g b s ⟨#[116, 114, 117, 101]⟩ w' hp hf0)
  have HF1 := Lib.hid (fun w' (hp : Pst w' g b s) => take_f g b s ⟨#[102, 97, 108, 115, 101]⟩ w' hp hf1)
  have HF2 := Lib.hid (fun w' (hp : Pst w' g b s) => take_f g b s ⟨#[40]⟩ w' hp hf2)
  have HF3 := Lib.hid (fun w' (hp : Pst w' g b s) => take_f g b s ⟨#[99, 111, 117, 110, 116]⟩ w' hp hf3)
  have HF4 := Lib.hid (fun w' (hp : Pst w' g b s) => take_f g b s ⟨#[99, 104, 97, 110, 110, 101, 108]⟩ w' hp hf4)
  unfold varS
  have H2 := Lib.hid (fun w' (hp : Pst w' g b s) => name_c g b s w' hp)
  generalize nameS s = S2 at *
  have H3 := Lib.hid (fun w' (hp : Pst w' g b S2) => need_c g b S2 ⟨#[46]⟩ w' hp)
  rw [show (⟨#[46]⟩ : ByteArray).data.toList = [46] from rfl] at H3
  generalize needS S2 [46] = S3 at *
  have H4 := Lib.hid (fun w' (hp : Pst w' g b S3) => name_c g b S3 w' hp)
  generalize nameS S3 = S4 at *
  generalize nameV s = NV at *
  generalize nameV S3 = MV at *
  obtain ⟨NB, hNB⟩ : ∃ NB : ByteArray, NB = ⟨NV.toArray⟩ := ⟨_, rfl⟩
  obtain ⟨MB, hMB⟩ : ∃ MB : ByteArray, MB = ⟨MV.toArray⟩ := ⟨_, rfl⟩
  rw [← hNB] at H2
  rw [← hMB] at H4
  obtain ⟨J1, hJ1⟩ : ∃ J1 : ByteArray, J1 = NB ++ ⟨#[46]⟩ := ⟨_, rfl⟩
  obtain ⟨J2, hJ2⟩ : ∃ J2 : ByteArray, J2 = J1 ++ MB := ⟨_, rfl⟩
  have add1 : ∀ w, (Op.stringOp .add NB ⟨#[46]⟩).run Tryz.prog w = .ok (.string J1) w := fun w => by
    rw [hJ1]
    refine run_string_add_sum w _ _ ?_
    have h1 : NB.size ≤ 16384 := by rw [hNB, size_data]; exact hl1
    have h2 : (⟨#[46]⟩ : ByteArray).size = 1 := rfl
    omega
  have add2 : ∀ w, (Op.stringOp .add J1 MB).run Tryz.prog w = .ok (.string J2) w := fun w => by
    rw [hJ2]
    refine run_string_add_sum w _ _ ?_
    have h1 : NB.size ≤ 16384 := by rw [hNB, size_data]; exact hl1
    have h3 : MB.size ≤ 16384 := by rw [hMB, size_data]; exact hl2
    have h2 : J1.size = NB.size + 1 := by rw [hJ1, ByteArray.size_append]; rfl
    omega
  have hJ : J2 = ⟨(NV ++ 46 :: MV).toArray⟩ := by
    rw [hJ2, hJ1, hNB, hMB, show (⟨#[46]⟩ : ByteArray) = ⟨[46].toArray⟩ from rfl, str_cat, str_cat]
    simp
  have HTr := Lib.hid (tree_name (fun c => w.heap.size + 1 ≤ c) 2 (NV ++ 46 :: MV) J2 hJ)
  unfold unitV at H3
  have bk : ((x.kind : Int) == 1) = false := beq_eq_false_iff_ne.2 (by omega)
  unfold wdV at HN
  obtain ⟨kd, T, q1, q2⟩ := x
  dsimp only at *
  generalize hTB : (⟨T.toArray⟩ : ByteArray) = TB at *
  have HTB := Lib.hid hTB
  clear h hTB
  clear he hws hk hwf hf0 hf1 hf2 hf3 hf4 hNB hMB hJ1 hJ2 hJ hl1 hl2
  go_enter Tryz.func169, Tryz.ntmps169
  go_wp2_with fail
  refine (HN.out _ HP0.out).mono ?_
  rintro e w' ⟨rfl, z, rfl⟩
  have lg2 := lt_ext z (show g < (w.alloc (.cells #[.int .i64 0, .int .i64 0, .int .i64 0, .int .i64 0, .string ⟨#[]⟩, .slice none 0 0] 24)).heap.size by rw [World.size_alloc]; omega)
  have HX : Hid (Exg g (w.alloc (.cells #[.int .i64 0, .int .i64 0, .int .i64 0, .int .i64 0, .string ⟨#[]⟩, .slice none 0 0] 24)) ((ext (w.alloc (.cells #[.int .i64 0, .int .i64 0, .int .i64 0, .int .i64 0, .string ⟨#[]⟩, .slice none 0 0] 24)) z).alloc (.cells #[.int .i64 kd, .string TB, .int .i64 q1, .int .i64 q2] 66))) := Exg.of (((Ex.refl _).ext z).alloc _)
  have HPn : Hid (Pst ((ext (w.alloc (.cells #[.int .i64 0, .int .i64 0, .int .i64 0, .int .i64 0, .string ⟨#[]⟩, .slice none 0 0] 24)) z).alloc (.cells #[.int .i64 kd, .string TB, .int .i64 q1, .int .i64 q2] 66)) g b s) := HP0.out.ex (((Ex.refl _).ext z).alloc _)
  go_wp2_with fail
  refine (HF0.out _ HPn.out).mono ?_
  rintro e wn ⟨rfl, hp, hx⟩
  replace HPn := Lib.hid hp
  replace HX := Lib.hid (HX.out.trans hx)
  clear hp hx
  go_wp2_with fail
  refine (HF1.out _ HPn.out).mono ?_
  rintro e wn ⟨rfl, hp, hx⟩
  replace HPn := Lib.hid hp
  replace HX := Lib.hid (HX.out.trans hx)
  clear hp hx
  go_wp2_with fail
  refine (HF2.out _ HPn.out).mono ?_
  rintro e wn ⟨rfl, hp, hx⟩
  replace HPn := Lib.hid hp
  replace HX := Lib.hid (HX.out.trans hx)
  clear hp hx
  go_wp2_with fail
  refine (HF3.out _ HPn.out).mono ?_
  rintro e wn ⟨rfl, hp, hx⟩
  replace HPn := Lib.hid hp
  replace HX := Lib.hid (HX.out.trans hx)
  clear hp hx
  go_wp2_with fail
  refine (HF4.out _ HPn.out).mono ?_
  rintro e wn ⟨rfl, hp, hx⟩
  replace HPn := Lib.hid hp
  replace HX := Lib.hid (HX.out.trans hx)
  clear hp hx
  go_wp2_with fail
  refine (H2.out _ HPn.out).mono ?_
  rintro e wn ⟨rfl, hp, hx⟩
  replace HPn := Lib.hid hp
  replace HX := Lib.hid (HX.out.trans hx)
  clear hp hx
  go_wp2_with fail
  refine (H3.out _ HPn.out).mono ?_
  rintro e wn ⟨rfl, hp, hx⟩
  replace HPn := Lib.hid hp
  replace HX := Lib.hid (HX.out.trans hx)
  clear hp hx
  go_wp2_with fail
  refine (H4.out _ HPn.out).mono ?_
  rintro e wn ⟨rfl, hp, hx⟩
  replace HPn := Lib.hid hp
  replace HX := Lib.hid (HX.out.trans hx)
  clear hp hx
  have hne : w.heap.size ≠ g := Nat.ne_of_gt HB.out.1
  have hz := HX.out.blk HZ.out hne
  have lz := hz.lt
  have r0 := hz.cell 0
  have r1 := hz.cell 1
  have r2 := hz.cell 2
  have r3 := hz.cell 3
  have r4 := hz.cell 4
  have r5 := hz.cell 5
  simp only [List.getElem?_cons_zero, List.getElem?_cons_succ] at r0 r1 r2 r3 r4 r5
  have f0 := hz.frozen 0
  have f1 := hz.frozen 1
  have f2 := hz.frozen 2
  have f3 := hz.frozen 3
  have f4 := hz.frozen 4
  have f5 := hz.frozen 5
  have Hz := Lib.hid hz
  clear hz hne
  go_wp2_with fail
  refine bodyPost_ret (results_pred rfl rfl (blk6 Hz.out _ _ _ _ _ _)) rfl ?_
  exact fin6 (Q := fun c => w.heap.size + 1 ≤ c) (Nat.le_refl _) (HTr.out _) (fun c h => ⟨by omega, by omega⟩) HPn.out HB.out.1 HB.out.2.1 (((Exg.refl g w).alloc _).trans HX.out)

theorem leaf_lv {f : Nat} (hor : LvC 49 f 0) : LvC 169 (f + 1) 7 := by
  intro g b s w h hf
  rw [lv7]
  unfold leafS
  by_cases he : s.e = 0
  · rw [if_neg (by omega)]
    obtain ⟨x, r, hws⟩ := h.1.cons
    have hh : hdW s.ws = x := by rw [hws]; rfl
    rw [hh]
    by_cases hk : x.kind = 1
    · rw [if_pos hk]
      exact leaf_num g b s x r w h he hws hk
    rw [if_neg hk]
    cases h0 : takeB s [116, 114, 117, 101] with
    | true => exact leaf_true g b s x r w h he hws hk h0
    | false =>
    rw [if_neg (by simp)]
    cases h1 : takeB s [102, 97, 108, 115, 101] with
    | true => exact leaf_false g b s x r w h he hws hk h0 h1
    | false =>
    rw [if_neg (by simp)]
    cases h2 : takeB s [40] with
    | true => exact leaf_paren hor g b s x r w h he hws hk h0 h1 h2 (by have := take_m h2; omega)
    | false =>
    rw [if_neg (by simp)]
    cases h3 : takeB s [99, 111, 117, 110, 116] with
    | true => exact leaf_count g b s x r w h he hws hk h0 h1 h2 h3
    | false =>
    rw [if_neg (by simp)]
    cases h4 : takeB s [99, 104, 97, 110, 110, 101, 108] with
    | true => exact leaf_chan g b s x r w h he hws hk h0 h1 h2 h3 h4
    | false =>
    rw [if_neg (by simp)]
    exact leaf_var g b s x r w h he hws hk h0 h1 h2 h3 h4
  · rw [if_pos he]
    exact leaf_ded g b s w h he
end Go.Proofs.YthjalkonlcjhnaaGreatDoor
